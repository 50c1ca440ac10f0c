/- verify.look: what it refuses. -/
import Derived.Test.YtgnejkmojfhfpaaWrg
namespace Go.Proofs.Ytgnejkmojfhfpaa
open Go.RowKit
set_option linter.unusedVariables false
set_option linter.unusedSimpArgs false
/-- a chain of blocks, as memory holds it -/
def ChainAt (w : World) : Option Addr → List (Int × Int) → Prop
  | p, [] => p = none
  | p, b :: r => ∃ g q, p = some ⟨g, 0, none⟩ ∧ Blk w g 98 #[.int .i64 b.1, .int .i64 b.2, .pointer q] ∧ ChainAt w q r
theorem ChainAt.keep {w w' : World} (hk : ∀ g t cs, Blk w g t cs → Blk w' g t cs) : ∀ {l : List (Int × Int)} {p : Option Addr}, ChainAt w p l → ChainAt w' p l
  | [], _, h => h
  | _ :: r, _, ⟨g, q, e, h1, h2⟩ => ⟨g, q, e, hk _ _ _ h1, h2.keep hk⟩
theorem ChainAt.new {w w' : World} {l : List (Int × Int)} {p : Option Addr} (h : ChainAt w p l) (hb : Below w.heap.size w w') : ChainAt w' p l := h.keep fun _ _ _ h => h.new' hb
/-- a way's cells -/
def WayAt (w : World) (q : Int × St) (cs : List Value) : Prop := ∃ t, cs = [.int .i64 q.1, .int .i64 q.2.h, .pointer t] ∧ ChainAt w t q.2.bl
theorem WayAt.new {w w' : World} {q : Int × St} {cs : List Value} (h : WayAt w q cs) (hb : Below w.heap.size w w') : WayAt w' q cs := by
  obtain ⟨t, e, h1⟩ := h
  exact ⟨t, e, h1.new hb⟩
/-- a slice of ways -/
structure WaysAt (w : World) (A : Option Addr) (n c : Nat) (ways : List (Int × St)) : Prop where
  len : ways.length = n
  css : ∃ css : List (List Value), css.length = n ∧ (∀ cs ∈ css, cs.length = 3) ∧ (∀ (j : Nat) q cs, ways[j]? = some q → css[j]? = some cs → WayAt w q cs) ∧ Rd w A n c 3 (css.flatMap id)
theorem WaysAt.new {w w' : World} {A : Option Addr} {n c : Nat} {ways : List (Int × St)} (h : WaysAt w A n c ways) (hb : Below w.heap.size w w') : WaysAt w' A n c ways := by
  obtain ⟨h1, css, h2, h3, h4, h5⟩ := h
  exact ⟨h1, css, h2, h3, fun j q cs hq hc => (h4 j q cs hq hc).new hb, h5.new hb⟩
theorem WaysAt.nil_ (w : World) : WaysAt w none 0 0 [] := ⟨rfl, [], rfl, (fun _ h => by cases h), (fun j q cs h => by simp at h), Rd.nil_.2 (by omega)⟩
/-- what look tells -/
def LookR (w : World) (r : Option (List (Int × St))) (e : Ending) (w' : World) : Prop := Below w.heap.size w w' ∧ match r with
  | none => e = .returned (.tuple #[.slice none 0 0, .bool false])
  | some ways => ∃ A n c, e = .returned (.tuple #[.slice A n c, .bool true]) ∧ WaysAt w' A n c ways ∧ ∀ b o, A = some ⟨b, o, none⟩ → w.heap.size ≤ b
/-- one way, two ways, in a row that was just made -/
theorem ways_one {w W : World} {g : Nat} {to h : Int} {t : Option Addr} {bl : List (Int × Int)} (hc : ChainAt W t bl) (hW : W = w.alloc (.cells #[.int .i64 to, .int .i64 h, .pointer t] 78)) (hg : g = w.heap.size) :
    WaysAt W (some ⟨g, 0, none⟩) 1 1 [(to, ⟨h, bl⟩)] := by
  subst hW
  subst hg
  obtain ⟨A, c, e, hr, _⟩ := Own.rd (Own.made (t := 78) (sz := 3) w #[.int .i64 to, .int .i64 h, .pointer t] 1 (by omega) rfl)
  injection e with e1 e2 e3
  subst e1 e3
  refine ⟨rfl, [[.int .i64 to, .int .i64 h, .pointer t]], rfl, fun cs hc => by simp at hc; rw [hc]; rfl, fun j q' cs hq hcs => ?_, hr⟩
  cases j with
  | zero => simp at hq hcs; subst hq; subst hcs; exact ⟨t, rfl, hc⟩
  | succ j => simp at hq
theorem ways_two {w W : World} {g : Nat} {to h to' h' : Int} {t u : Option Addr} {bl bl' : List (Int × Int)} (hc : ChainAt W t bl) (hc' : ChainAt W u bl')
    (hW : W = w.alloc (.cells #[.int .i64 to, .int .i64 h, .pointer t, .int .i64 to', .int .i64 h', .pointer u] 78)) (hg : g = w.heap.size) :
    WaysAt W (some ⟨g, 0, none⟩) 2 2 [(to, ⟨h, bl⟩), (to', ⟨h', bl'⟩)] := by
  subst hW
  subst hg
  obtain ⟨A, c, e, hr, _⟩ := Own.rd (Own.made (t := 78) (sz := 3) w #[.int .i64 to, .int .i64 h, .pointer t, .int .i64 to', .int .i64 h', .pointer u] 2 (by omega) rfl)
  injection e with e1 e2 e3
  subst e1 e3
  refine ⟨rfl, [[.int .i64 to, .int .i64 h, .pointer t], [.int .i64 to', .int .i64 h', .pointer u]], rfl, fun cs hc => by simp at hc; rcases hc with hc | hc <;> rw [hc] <;> rfl, fun j q' cs hq hcs => ?_, hr⟩
  match j with
  | 0 => simp at hq hcs; subst hq; subst hcs; exact ⟨t, rfl, hc⟩
  | 1 => simp at hq hcs; subst hq; subst hcs; exact ⟨u, rfl, hc'⟩
  | j + 2 => simp at hq
theorem try_blk {w W : World} {g : Nat} {cs : Array Value} {row : Obj} (hW : W = (w.alloc (.cells cs 98)).alloc row) (hg : g = w.heap.size) : Blk W g 98 cs := by
  subst hW
  subst hg
  exact (Blk.new w 98 cs).alloc _
/-- a function of the table, that can be called -/
def TkFn (w : World) (us : List Value) (a : Int) (F : Nat) (caps : Array Value) (T : Int) : Prop :=
  (∀ args w, (callFunc F args).run Try.prog w = .ok (.enter F args) w) ∧
  ∀ w', Below w.heap.size w w' → Calls Try.prog F (#[.agg us.toArray, .int .i64 a] ++ caps) w' fun e w'' => e = .returned (.int .i64 T) ∧ Below w'.heap.size w' w''
set_option maxRecDepth 100000 in
set_option maxHeartbeats 4000000 in
theorem look_low {w : World} {p : ProgD} {c : CodeD} {us : List Value} {tp : Option Addr} {bl : List (Int × Int)} {F : Nat} {caps : Array Value} {vm : Value} {op a T lv h : Int} {i : Nat} (hu : UnitAt w p c us) (hvm : IsFn vm)
    (hT : TkFn w us a F caps T) (hT0 : 0 ≤ T ∧ T ≤ 281474976710656) (hh : 0 ≤ h ∧ h ≤ 70368744177664) (hlv : 0 ≤ lv ∧ lv ≤ 3) (hi : i ≤ 17592186044416) (hch : ChainAt w tp bl) (hlow : h - T < 0) :
    Calls Try.prog 24 #[.agg us.toArray, .agg #[vm, .func (.func F) #[] caps, .int .i64 lv], .agg #[.int .i64 op, .int .i64 a], .int .i64 i, .agg #[.int .i64 h, .pointer tp]] w (LookR w none) := by
  obtain ⟨hF, hK⟩ := hT
  have KT := Lib.hid hK
  have HCH := Lib.hid hch
  obtain ⟨f1, x1, y1, rfl⟩ := hvm
  obtain ⟨A, n, kk, cs, rfl, hp, hc⟩ := hu.parts
  obtain ⟨A1, n1, c1, A2, n2, c2, A3, n3, c3, A4, n4, c4, A5, n5, c5, A6, n6, c6, rfl, -⟩ := hc.parts
  clear hch
  clear hK hp hc hu
  have d0 : decide (h - T < 0) = true := decide_eq_true hlow
  by_cases hd : op = 43 ∨ op = 44 ∨ op = 45
  · rcases hd with rfl | rfl | rfl
    all_goals
      go_enter Try.func24, Try.ntmps24
      go_wp2_with ((with_reducible refine (KT.out _ (by exact (by repeat (first | exact Below.refl _ _ | assumption | refine Below.setCell ?_ (by first | (simp; done) | (simp; omega) | omega) _ | refine below_drewN ?_ _ | refine Below.drew ?_ | refine Below.alloc ?_ (by first | (simp; done) | (simp; omega) | omega) _)))).mono ?_); rintro e w2 ⟨rfl, hw2⟩; have HW2 := Lib.hid hw2; obtain ⟨hc2, hf2⟩ := bcell hw2; have hz2 := hw2.size; simp at hz2; have z0 : w.heap.size < w2.heap.size := (by omega); have z1 : w.heap.size + 1 < w2.heap.size := (by omega); have z2 : w.heap.size + 1 + 1 < w2.heap.size := (by omega); have z3 : w.heap.size + 1 + 1 + 1 < w2.heap.size := (by omega); clear hw2)
      go_ret2
      exact ⟨Below.trans (by exact (by repeat (first | exact Below.refl _ _ | assumption | refine Below.setCell ?_ (by first | (simp; done) | (simp; omega) | omega) _ | refine below_drewN ?_ _ | refine Below.drew ?_ | refine Below.alloc ?_ (by first | (simp; done) | (simp; omega) | omega) _))) (HW2.out.mono (by simp; omega)), rfl⟩
  · have o43 : (op == 43) = false := by simp; omega
    have o44 : (op == 44) = false := by simp; omega
    have o45 : (op == 45) = false := by simp; omega
    clear hd
    go_enter Try.func24, Try.ntmps24
    go_wp2_with ((with_reducible refine (KT.out _ (by exact (by repeat (first | exact Below.refl _ _ | assumption | refine Below.setCell ?_ (by first | (simp; done) | (simp; omega) | omega) _ | refine below_drewN ?_ _ | refine Below.drew ?_ | refine Below.alloc ?_ (by first | (simp; done) | (simp; omega) | omega) _)))).mono ?_); rintro e w2 ⟨rfl, hw2⟩; have HW2 := Lib.hid hw2; obtain ⟨hc2, hf2⟩ := bcell hw2; have hz2 := hw2.size; simp at hz2; have z0 : w.heap.size < w2.heap.size := (by omega); have z1 : w.heap.size + 1 < w2.heap.size := (by omega); have z2 : w.heap.size + 1 + 1 < w2.heap.size := (by omega); have z3 : w.heap.size + 1 + 1 + 1 < w2.heap.size := (by omega); clear hw2)
    go_ret2
    exact ⟨Below.trans (by exact (by repeat (first | exact Below.refl _ _ | assumption | refine Below.setCell ?_ (by first | (simp; done) | (simp; omega) | omega) _ | refine below_drewN ?_ _ | refine Below.drew ?_ | refine Below.alloc ?_ (by first | (simp; done) | (simp; omega) | omega) _))) (HW2.out.mono (by simp; omega)), rfl⟩
set_option maxRecDepth 100000 in
set_option maxHeartbeats 4000000 in
theorem look_deep {w : World} {p : ProgD} {c : CodeD} {us : List Value} {tp : Option Addr} {bl : List (Int × Int)} {F : Nat} {caps : Array Value} {vm : Value} {op a T lv h : Int} {i : Nat} (hu : UnitAt w p c us) (hvm : IsFn vm)
    (hT : TkFn w us a F caps T) (hT0 : 0 ≤ T ∧ T ≤ 281474976710656) (hh : 0 ≤ h ∧ h ≤ 70368744177664) (hlv : 0 ≤ lv ∧ lv ≤ 3) (hi : i ≤ 17592186044416) (hch : ChainAt w tp bl) (hlow : ¬ h - T < 0) (hd : op = 43 ∨ op = 44 ∨ op = 45) (hle : h ≤ a) :
    Calls Try.prog 24 #[.agg us.toArray, .agg #[vm, .func (.func F) #[] caps, .int .i64 lv], .agg #[.int .i64 op, .int .i64 a], .int .i64 i, .agg #[.int .i64 h, .pointer tp]] w (LookR w none) := by
  obtain ⟨hF, hK⟩ := hT
  have KT := Lib.hid hK
  have HCH := Lib.hid hch
  obtain ⟨f1, x1, y1, rfl⟩ := hvm
  obtain ⟨A, n, kk, cs, rfl, hp, hc⟩ := hu.parts
  obtain ⟨A1, n1, c1, A2, n2, c2, A3, n3, c3, A4, n4, c4, A5, n5, c5, A6, n6, c6, rfl, -⟩ := hc.parts
  clear hch
  clear hK hp hc hu
  have d0 : decide (h - T < 0) = false := decide_eq_false hlow
  rcases hd with rfl | rfl | rfl
  all_goals
    go_enter Try.func24, Try.ntmps24
    go_wp2_with ((with_reducible refine (KT.out _ (by exact (by repeat (first | exact Below.refl _ _ | assumption | refine Below.setCell ?_ (by first | (simp; done) | (simp; omega) | omega) _ | refine below_drewN ?_ _ | refine Below.drew ?_ | refine Below.alloc ?_ (by first | (simp; done) | (simp; omega) | omega) _)))).mono ?_); rintro e w2 ⟨rfl, hw2⟩; have HW2 := Lib.hid hw2; obtain ⟨hc2, hf2⟩ := bcell hw2; have hz2 := hw2.size; simp at hz2; have z0 : w.heap.size < w2.heap.size := (by omega); have z1 : w.heap.size + 1 < w2.heap.size := (by omega); have z2 : w.heap.size + 1 + 1 < w2.heap.size := (by omega); have z3 : w.heap.size + 1 + 1 + 1 < w2.heap.size := (by omega); clear hw2)
    go_ret2
    exact ⟨Below.trans (by exact (by repeat (first | exact Below.refl _ _ | assumption | refine Below.setCell ?_ (by first | (simp; done) | (simp; omega) | omega) _ | refine below_drewN ?_ _ | refine Below.drew ?_ | refine Below.alloc ?_ (by first | (simp; done) | (simp; omega) | omega) _))) (HW2.out.mono (by simp; omega)), rfl⟩
set_option maxRecDepth 100000 in
set_option maxHeartbeats 4000000 in
theorem look_end {w : World} {p : ProgD} {c : CodeD} {us : List Value} {tp : Option Addr} {bl : List (Int × Int)} {F : Nat} {caps : Array Value} {vm : Value} {op a T lv h : Int} {i : Nat} (hu : UnitAt w p c us) (hvm : IsFn vm)
    (hT : TkFn w us a F caps T) (hT0 : 0 ≤ T ∧ T ≤ 281474976710656) (hh : 0 ≤ h ∧ h ≤ 70368744177664) (hlv : 0 ≤ lv ∧ lv ≤ 3) (hi : i ≤ 17592186044416) (hch : ChainAt w tp bl) (hlow : ¬ h - T < 0) (hd : op = 48) (hnil : bl = []) :
    Calls Try.prog 24 #[.agg us.toArray, .agg #[vm, .func (.func F) #[] caps, .int .i64 lv], .agg #[.int .i64 op, .int .i64 a], .int .i64 i, .agg #[.int .i64 h, .pointer tp]] w (LookR w none) := by
  obtain ⟨hF, hK⟩ := hT
  have KT := Lib.hid hK
  have HCH := Lib.hid hch
  obtain ⟨f1, x1, y1, rfl⟩ := hvm
  obtain ⟨A, n, kk, cs, rfl, hp, hc⟩ := hu.parts
  obtain ⟨A1, n1, c1, A2, n2, c2, A3, n3, c3, A4, n4, c4, A5, n5, c5, A6, n6, c6, rfl, -⟩ := hc.parts
  subst hnil
  obtain rfl : tp = none := hch
  clear hK hp hc hu
  have d0 : decide (h - T < 0) = false := decide_eq_false hlow
  subst hd
  go_enter Try.func24, Try.ntmps24
  go_wp2_with ((with_reducible refine (KT.out _ (by exact (by repeat (first | exact Below.refl _ _ | assumption | refine Below.setCell ?_ (by first | (simp; done) | (simp; omega) | omega) _ | refine below_drewN ?_ _ | refine Below.drew ?_ | refine Below.alloc ?_ (by first | (simp; done) | (simp; omega) | omega) _)))).mono ?_); rintro e w2 ⟨rfl, hw2⟩; have HW2 := Lib.hid hw2; obtain ⟨hc2, hf2⟩ := bcell hw2; have hz2 := hw2.size; simp at hz2; have z0 : w.heap.size < w2.heap.size := (by omega); have z1 : w.heap.size + 1 < w2.heap.size := (by omega); have z2 : w.heap.size + 1 + 1 < w2.heap.size := (by omega); have z3 : w.heap.size + 1 + 1 + 1 < w2.heap.size := (by omega); clear hw2)
  go_ret2
  exact ⟨Below.trans (by exact (by repeat (first | exact Below.refl _ _ | assumption | refine Below.setCell ?_ (by first | (simp; done) | (simp; omega) | omega) _ | refine below_drewN ?_ _ | refine Below.drew ?_ | refine Below.alloc ?_ (by first | (simp; done) | (simp; omega) | omega) _))) (HW2.out.mono (by simp; omega)), rfl⟩
set_option maxRecDepth 100000 in
set_option maxHeartbeats 4000000 in
theorem look_block {w : World} {p : ProgD} {c : CodeD} {us : List Value} {tp : Option Addr} {bl : List (Int × Int)} {F : Nat} {caps : Array Value} {vm : Value} {op a T lv h : Int} {i : Nat} (hu : UnitAt w p c us) (hvm : IsFn vm)
    (hT : TkFn w us a F caps T) (hT0 : 0 ≤ T ∧ T ≤ 281474976710656) (hh : 0 ≤ h ∧ h ≤ 70368744177664) (hlv : 0 ≤ lv ∧ lv ≤ 3) (hi : i ≤ 17592186044416) (hch : ChainAt w tp bl) (hlow : ¬ h - T < 0) (hd : ¬ ((op = 43 ∨ op = 44 ∨ op = 45) ∧ h ≤ a)) (hne : bl ≠ []) (hb : ∃ b ∈ bl.head?, h - T < b.2) :
    Calls Try.prog 24 #[.agg us.toArray, .agg #[vm, .func (.func F) #[] caps, .int .i64 lv], .agg #[.int .i64 op, .int .i64 a], .int .i64 i, .agg #[.int .i64 h, .pointer tp]] w (LookR w none) := by
  obtain ⟨hF, hK⟩ := hT
  have KT := Lib.hid hK
  have HCH := Lib.hid hch
  obtain ⟨f1, x1, y1, rfl⟩ := hvm
  obtain ⟨A, n, kk, cs, rfl, hp, hc⟩ := hu.parts
  obtain ⟨A1, n1, c1, A2, n2, c2, A3, n3, c3, A4, n4, c4, A5, n5, c5, A6, n6, c6, rfl, -⟩ := hc.parts
  obtain ⟨⟨ba, bh⟩, r, rfl⟩ : ∃ b r, bl = b :: r := by
    cases bl with
    | nil => exact absurd rfl hne
    | cons b r => exact ⟨b, r, rfl⟩
  obtain ⟨cb, q, rfl, hblk, hrest⟩ := hch
  have g0 := hblk.cell 0
  have g1 := hblk.cell 1
  have g2 := hblk.cell 2
  have gl := hblk.lt
  simp only [List.getElem?_toArray, List.getElem?_cons_zero, List.getElem?_cons_succ] at g0 g1 g2
  have HR := Lib.hid hrest
  have HBLK := Lib.hid hblk
  clear hblk hrest hne
  clear hK hp hc hu
  have hb : h - T < bh := by
    obtain ⟨b, hb1, hb2⟩ := hb
    simp at hb1
    subst hb1
    exact hb2
  have d0 : decide (h - T < 0) = false := decide_eq_false hlow
  by_cases hd2 : op = 43 ∨ op = 44 ∨ op = 45
  · have hle : ¬ h ≤ a := fun hx => hd ⟨hd2, hx⟩
    have d1 : decide (h ≤ a) = false := decide_eq_false hle
    clear hd
    rcases hd2 with rfl | rfl | rfl
    all_goals
      go_enter Try.func24, Try.ntmps24
      go_wp2_with ((with_reducible refine (KT.out _ (by exact (by repeat (first | exact Below.refl _ _ | assumption | refine Below.setCell ?_ (by first | (simp; done) | (simp; omega) | omega) _ | refine below_drewN ?_ _ | refine Below.drew ?_ | refine Below.alloc ?_ (by first | (simp; done) | (simp; omega) | omega) _)))).mono ?_); rintro e w2 ⟨rfl, hw2⟩; have HW2 := Lib.hid hw2; obtain ⟨hc2, hf2⟩ := bcell hw2; have hz2 := hw2.size; simp at hz2; have z0 : w.heap.size < w2.heap.size := (by omega); have z1 : w.heap.size + 1 < w2.heap.size := (by omega); have z2 : w.heap.size + 1 + 1 < w2.heap.size := (by omega); have z3 : w.heap.size + 1 + 1 + 1 < w2.heap.size := (by omega); have hbk := HBLK.out.new' (Below.trans (by exact (by repeat (first | exact Below.refl _ _ | assumption | refine Below.setCell ?_ (by first | (simp; done) | (simp; omega) | omega) _ | refine below_drewN ?_ _ | refine Below.drew ?_ | refine Below.alloc ?_ (by first | (simp; done) | (simp; omega) | omega) _))) (hw2.mono (by simp; omega))); have y0 := hbk.cell 0; have y1 := hbk.cell 1; have y2 := hbk.cell 2; have yl := hbk.lt; simp only [List.getElem?_toArray, List.getElem?_cons_zero, List.getElem?_cons_succ] at y0 y1 y2; clear hbk hw2)
      go_ret2
      exact ⟨Below.trans (by exact (by repeat (first | exact Below.refl _ _ | assumption | refine Below.setCell ?_ (by first | (simp; done) | (simp; omega) | omega) _ | refine below_drewN ?_ _ | refine Below.drew ?_ | refine Below.alloc ?_ (by first | (simp; done) | (simp; omega) | omega) _))) (HW2.out.mono (by simp; omega)), rfl⟩
  · have o43 : (op == 43) = false := by simp; omega
    have o44 : (op == 44) = false := by simp; omega
    have o45 : (op == 45) = false := by simp; omega
    clear hd
    by_cases h48 : op = 48
    · subst h48
      go_enter Try.func24, Try.ntmps24
      go_wp2_with ((with_reducible refine (KT.out _ (by exact (by repeat (first | exact Below.refl _ _ | assumption | refine Below.setCell ?_ (by first | (simp; done) | (simp; omega) | omega) _ | refine below_drewN ?_ _ | refine Below.drew ?_ | refine Below.alloc ?_ (by first | (simp; done) | (simp; omega) | omega) _)))).mono ?_); rintro e w2 ⟨rfl, hw2⟩; have HW2 := Lib.hid hw2; obtain ⟨hc2, hf2⟩ := bcell hw2; have hz2 := hw2.size; simp at hz2; have z0 : w.heap.size < w2.heap.size := (by omega); have z1 : w.heap.size + 1 < w2.heap.size := (by omega); have z2 : w.heap.size + 1 + 1 < w2.heap.size := (by omega); have z3 : w.heap.size + 1 + 1 + 1 < w2.heap.size := (by omega); have hbk := HBLK.out.new' (Below.trans (by exact (by repeat (first | exact Below.refl _ _ | assumption | refine Below.setCell ?_ (by first | (simp; done) | (simp; omega) | omega) _ | refine below_drewN ?_ _ | refine Below.drew ?_ | refine Below.alloc ?_ (by first | (simp; done) | (simp; omega) | omega) _))) (hw2.mono (by simp; omega))); have y0 := hbk.cell 0; have y1 := hbk.cell 1; have y2 := hbk.cell 2; have yl := hbk.lt; simp only [List.getElem?_toArray, List.getElem?_cons_zero, List.getElem?_cons_succ] at y0 y1 y2; clear hbk hw2)
      go_ret2
      exact ⟨Below.trans (by exact (by repeat (first | exact Below.refl _ _ | assumption | refine Below.setCell ?_ (by first | (simp; done) | (simp; omega) | omega) _ | refine below_drewN ?_ _ | refine Below.drew ?_ | refine Below.alloc ?_ (by first | (simp; done) | (simp; omega) | omega) _))) (HW2.out.mono (by simp; omega)), rfl⟩
    · have o48 : (op == 48) = false := by simpa using h48
      go_enter Try.func24, Try.ntmps24
      go_wp2_with ((with_reducible refine (KT.out _ (by exact (by repeat (first | exact Below.refl _ _ | assumption | refine Below.setCell ?_ (by first | (simp; done) | (simp; omega) | omega) _ | refine below_drewN ?_ _ | refine Below.drew ?_ | refine Below.alloc ?_ (by first | (simp; done) | (simp; omega) | omega) _)))).mono ?_); rintro e w2 ⟨rfl, hw2⟩; have HW2 := Lib.hid hw2; obtain ⟨hc2, hf2⟩ := bcell hw2; have hz2 := hw2.size; simp at hz2; have z0 : w.heap.size < w2.heap.size := (by omega); have z1 : w.heap.size + 1 < w2.heap.size := (by omega); have z2 : w.heap.size + 1 + 1 < w2.heap.size := (by omega); have z3 : w.heap.size + 1 + 1 + 1 < w2.heap.size := (by omega); have hbk := HBLK.out.new' (Below.trans (by exact (by repeat (first | exact Below.refl _ _ | assumption | refine Below.setCell ?_ (by first | (simp; done) | (simp; omega) | omega) _ | refine below_drewN ?_ _ | refine Below.drew ?_ | refine Below.alloc ?_ (by first | (simp; done) | (simp; omega) | omega) _))) (hw2.mono (by simp; omega))); have y0 := hbk.cell 0; have y1 := hbk.cell 1; have y2 := hbk.cell 2; have yl := hbk.lt; simp only [List.getElem?_toArray, List.getElem?_cons_zero, List.getElem?_cons_succ] at y0 y1 y2; clear hbk hw2)
      go_ret2
      exact ⟨Below.trans (by exact (by repeat (first | exact Below.refl _ _ | assumption | refine Below.setCell ?_ (by first | (simp; done) | (simp; omega) | omega) _ | refine below_drewN ?_ _ | refine Below.drew ?_ | refine Below.alloc ?_ (by first | (simp; done) | (simp; omega) | omega) _))) (HW2.out.mono (by simp; omega)), rfl⟩
end Go.Proofs.Ytgnejkmojfhfpaa
