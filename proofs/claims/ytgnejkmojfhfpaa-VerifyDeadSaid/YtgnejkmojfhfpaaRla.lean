/- The reference's Look: what it refuses. -/
import Derived.Test.YtgnejkmojfhfpaaRfx
import Derived.Test.YtgnejkmojfhfpaaRss
import Derived.IntWalk
namespace Go.Proofs.Ytgnejkmojfhfpaa
open Go.RowKit
set_option linter.unusedVariables false
set_option linter.unusedSimpArgs false
/-- a way's cells -/
def WayR (w0 : World) (Ab : Option Addr) (w : World) (q : Int × St) (cs : List Value) : Prop := ∃ A n c, cs = [.int .i64 q.1, .int .i64 q.2.h, .slice A n c] ∧ BlAt w A n c q.2.bl ∧ ∀ b o, A = some ⟨b, o, none⟩ → w0.heap.size ≤ b ∨ ∃ o', Ab = some ⟨b, o', none⟩
theorem WayR.new {w0 w w' : World} {Ab : Option Addr} {q : Int × St} {cs : List Value} (h : WayR w0 Ab w q cs) (hb : Below w.heap.size w w') : WayR w0 Ab w' q cs := by
  obtain ⟨A, n, c, e, h1, h2⟩ := h
  exact ⟨A, n, c, e, h1.new hb, h2⟩
/-- a slice of ways -/
structure WaysR (w0 : World) (Ab : Option Addr) (w : World) (A : Option Addr) (n c : Nat) (ways : List (Int × St)) : Prop where
  len : ways.length = n
  css : ∃ css : List (List Value), css.length = n ∧ (∀ cs ∈ css, cs.length = 3) ∧ (∀ (j : Nat) q cs, ways[j]? = some q → css[j]? = some cs → WayR w0 Ab w q cs) ∧ Rd w A n c 3 (css.flatMap id)
theorem WaysR.new {w0 w w' : World} {Ab A : Option Addr} {n c : Nat} {ways : List (Int × St)} (h : WaysR w0 Ab w A n c ways) (hb : Below w.heap.size w w') : WaysR w0 Ab w' A n c ways := by
  obtain ⟨h1, css, h2, h3, h4, h5⟩ := h
  exact ⟨h1, css, h2, h3, fun j q cs hq hc => (h4 j q cs hq hc).new hb, h5.new hb⟩
theorem WaysR.nil_ (w0 w : World) (Ab : Option Addr) : WaysR w0 Ab w none 0 0 [] := ⟨rfl, [], rfl, (fun _ h => by cases h), (fun j q cs h => by simp at h), Rd.nil_.2 (by omega)⟩
/-- what Look tells -/
def LookRR (w : World) (Ab : Option Addr) (r : Option (List (Int × St))) (e : Ending) (w' : World) : Prop := Below w.heap.size w w' ∧ match r with
  | none => e = .returned (.tuple #[.slice none 0 0, .bool false])
  | some ways => ∃ A n c, e = .returned (.tuple #[.slice A n c, .bool true]) ∧ WaysR w Ab w' A n c ways ∧ ∀ b o, A = some ⟨b, o, none⟩ → w.heap.size ≤ b
/-- one way, two ways, in a row that was just made -/
theorem rways_one {w0 w W : World} {Ab : Option Addr} {g : Nat} {to h : Int} {A : Option Addr} {n c : Nat} {bl : List (Int × Int)} (hc : BlAt W A n c bl) (hf : ∀ b o, A = some ⟨b, o, none⟩ → w0.heap.size ≤ b ∨ ∃ o', Ab = some ⟨b, o', none⟩)
    (hW : W = w.alloc (.cells #[.int .i64 to, .int .i64 h, .slice A n c] 50)) (hg : g = w.heap.size) :
    WaysR w0 Ab W (some ⟨g, 0, none⟩) 1 1 [(to, ⟨h, bl⟩)] := by
  subst hW
  subst hg
  obtain ⟨A', c', e, hr, _⟩ := Own.rd (Own.made (t := 50) (sz := 3) w #[.int .i64 to, .int .i64 h, .slice A n c] 1 (by omega) rfl)
  injection e with e1 e2 e3
  subst e1 e3
  refine ⟨rfl, [[.int .i64 to, .int .i64 h, .slice A n c]], rfl, fun cs hc => by simp at hc; rw [hc]; rfl, fun j q' cs hq hcs => ?_, hr⟩
  cases j with
  | zero => simp at hq hcs; subst hq; subst hcs; exact ⟨A, n, c, rfl, hc, hf⟩
  | succ j => simp at hq
theorem rways_two {w0 w W : World} {Ab : Option Addr} {g : Nat} {to h to' h' : Int} {A A1 : Option Addr} {n c n1 c1 : Nat} {bl bl' : List (Int × Int)} (hc : BlAt W A n c bl) (hf : ∀ b o, A = some ⟨b, o, none⟩ → w0.heap.size ≤ b ∨ ∃ o', Ab = some ⟨b, o', none⟩)
    (hc' : BlAt W A1 n1 c1 bl') (hf' : ∀ b o, A1 = some ⟨b, o, none⟩ → w0.heap.size ≤ b ∨ ∃ o', Ab = some ⟨b, o', none⟩)
    (hW : W = w.alloc (.cells #[.int .i64 to, .int .i64 h, .slice A n c, .int .i64 to', .int .i64 h', .slice A1 n1 c1] 50)) (hg : g = w.heap.size) :
    WaysR w0 Ab W (some ⟨g, 0, none⟩) 2 2 [(to, ⟨h, bl⟩), (to', ⟨h', bl'⟩)] := by
  subst hW
  subst hg
  obtain ⟨A', c', e, hr, _⟩ := Own.rd (Own.made (t := 50) (sz := 3) w #[.int .i64 to, .int .i64 h, .slice A n c, .int .i64 to', .int .i64 h', .slice A1 n1 c1] 2 (by omega) rfl)
  injection e with e1 e2 e3
  subst e1 e3
  refine ⟨rfl, [[.int .i64 to, .int .i64 h, .slice A n c], [.int .i64 to', .int .i64 h', .slice A1 n1 c1]], rfl, fun cs hc => by simp at hc; rcases hc with hc | hc <;> rw [hc] <;> rfl, fun j q' cs hq hcs => ?_, hr⟩
  match j with
  | 0 => simp at hq hcs; subst hq; subst hcs; exact ⟨A, n, c, rfl, hc, hf⟩
  | 1 => simp at hq hcs; subst hq; subst hcs; exact ⟨A1, n1, c1, rfl, hc', hf'⟩
  | j + 2 => simp at hq
theorem from_self {w : World} (Ab : Option Addr) : ∀ b o, Ab = some ⟨b, o, none⟩ → w.heap.size ≤ b ∨ ∃ o', Ab = some ⟨b, o', none⟩ := fun b o e => .inr ⟨o, e⟩
theorem BlAt.mod {S : Nat → Prop} {w w' : World} {A : Option Addr} {n c : Nat} {bl : List (Int × Int)} (h : BlAt w A n c bl) (hb : Mod S w w') (hA : ∀ b o, A = some ⟨b, o, none⟩ → ¬ S b) : BlAt w' A n c bl := ⟨h.1, h.2.mod hb hA⟩
/-- the blocks but the inmost -/
theorem BlAt.pop {w : World} {A : Option Addr} {m c : Nat} {x : Int × Int} {r : List (Int × Int)} (h : BlAt w A (m + 1) c (x :: r)) : BlAt w A m c r := by
  have hl := h.len
  refine ⟨by simpa using hl, ?_⟩
  have h2 := h.2.lo (show m ≤ m + 1 by omega)
  have e : ((x :: r).reverse.flatMap blkCs).take (m * 2) = r.reverse.flatMap blkCs := by
    rw [List.reverse_cons, List.flatMap_append]
    have hlen : (r.reverse.flatMap blkCs).length = m * 2 := by
      have : ∀ l : List (Int × Int), (l.flatMap blkCs).length = l.length * 2 := by
        intro l
        induction l with
        | nil => rfl
        | cons y l ih => rw [List.flatMap_cons, List.length_append, ih]; simp [blkCs]; omega
      rw [this, List.length_reverse]
      simp at hl
      omega
    rw [← hlen]
    exact List.take_left
  rw [e] at h2
  exact h2
theorem BlAt.top {w : World} {A : Option Addr} {m c : Nat} {x : Int × Int} {r : List (Int × Int)} (h : BlAt w A (m + 1) c (x :: r)) :
    ∃ b o, A = some ⟨b, o, none⟩ ∧ b < w.heap.size ∧ w.cell? ⟨b, o + m * 2, none⟩ = some (.int .i64 x.1) ∧ w.cell? ⟨b, o + m * 2 + 1, none⟩ = some (.int .i64 x.2) := by
  have hl := h.len
  simp at hl
  refine h.at_ ?_
  rw [List.reverse_cons, List.getElem?_append_right (by simp [hl])]
  simp [hl]
set_option maxRecDepth 100000 in
set_option maxHeartbeats 4000000 in
theorem rlook_low {w : World} {A Ab : Option Addr} {n k nb cb : Nat} {bl : List (Int × Int)} {op a T lv h : Int} {i : Nat}
    (hT : ∀ w', Below w.heap.size w w' → Calls Try.prog 19 #[.slice A n k, .agg #[.int .i64 op, .int .i64 a], .int .i64 h] w' (TkR w' T lv))
    (hT0 : 0 ≤ T ∧ T ≤ 281474976710656) (hh : 0 ≤ h ∧ h ≤ 70368744177664) (hlv : 0 ≤ lv ∧ lv ≤ 3) (hi : i ≤ 17592186044416) (hbl : BlAt w Ab nb cb bl) (hnb : nb ≤ 1099511627775) (hlow : h < T) :
    Calls Try.prog 17 #[.slice A n k, .agg #[.int .i64 op, .int .i64 a], .int .i64 i, .agg #[.int .i64 h, .slice Ab nb cb]] w (LookRR w Ab none) := by
  have KT := Lib.hid hT
  have HBL := Lib.hid hbl
  clear hT
  have d0 : decide (h < T) = true := decide_eq_true hlow
  clear hbl hlow
  go_enter Try.func17, Try.ntmps17
  go_wp2_with ((with_reducible refine (KT.out _ (by exact (by repeat (first | exact Below.refl _ _ | assumption | refine Below.setCell ?_ (by first | (simp; done) | (simp; omega) | omega) _ | refine below_drewN ?_ _ | refine Below.drew ?_ | refine Below.alloc ?_ (by first | (simp; done) | (simp; omega) | omega) _)))).mono ?_); rintro e w2 ⟨rfl, hw2⟩; have HW2 := Lib.hid hw2; obtain ⟨hc2, hf2⟩ := bcell hw2; have hz2 := hw2.size; simp at hz2; have z0 : w.heap.size < w2.heap.size := (by omega); have z1 : w.heap.size + 1 < w2.heap.size := (by omega); clear hw2)
  go_quiet (fail)
  generalize hW3 : w2.drewN nq = w3
  have hw3 := below_drewN HW2.out nq
  rw [hW3] at hw3
  clear hc2 hf2 hz2 z0 z1 hW3 HW2
  have HW3 := Lib.hid hw3
  obtain ⟨hc3, hf3⟩ := bcell hw3
  have hz3 := hw3.size
  simp at hz3
  have z0 : w.heap.size < w3.heap.size := by omega
  have z1 : w.heap.size + 1 < w3.heap.size := by omega
  clear hw3
  go_wp2_with fail
  go_ret2
  exact ⟨Below.trans (by exact (by repeat (first | exact Below.refl _ _ | assumption | refine Below.setCell ?_ (by first | (simp; done) | (simp; omega) | omega) _ | refine below_drewN ?_ _ | refine Below.drew ?_ | refine Below.alloc ?_ (by first | (simp; done) | (simp; omega) | omega) _))) ((HW3.out.mono (by simp; omega)).trans (by exact (by repeat (first | exact Below.refl _ _ | assumption | refine Below.setCell ?_ (by first | (simp; done) | (simp; omega) | omega) _ | refine below_drewN ?_ _ | refine Below.drew ?_ | refine Below.alloc ?_ (by first | (simp; done) | (simp; omega) | omega) _)))), rfl⟩
set_option maxRecDepth 100000 in
set_option maxHeartbeats 4000000 in
theorem rlook_deep {w : World} {A Ab : Option Addr} {n k nb cb : Nat} {bl : List (Int × Int)} {op a T lv h : Int} {i : Nat}
    (hT : ∀ w', Below w.heap.size w w' → Calls Try.prog 19 #[.slice A n k, .agg #[.int .i64 op, .int .i64 a], .int .i64 h] w' (TkR w' T lv))
    (hT0 : 0 ≤ T ∧ T ≤ 281474976710656) (hh : 0 ≤ h ∧ h ≤ 70368744177664) (hlv : 0 ≤ lv ∧ lv ≤ 3) (hi : i ≤ 17592186044416) (hbl : BlAt w Ab nb cb bl) (hnb : nb ≤ 1099511627775) (hlow : ¬ h < T) (hd : 43 ≤ op ∧ op ≤ 45) (hle : h ≤ a) :
    Calls Try.prog 17 #[.slice A n k, .agg #[.int .i64 op, .int .i64 a], .int .i64 i, .agg #[.int .i64 h, .slice Ab nb cb]] w (LookRR w Ab none) := by
  have KT := Lib.hid hT
  have HBL := Lib.hid hbl
  clear hT
  have d0 : decide (h < T) = false := decide_eq_false hlow
  have d1 : decide (43 ≤ op) = true := decide_eq_true hd.1
  have d2 : decide (op ≤ 45) = true := decide_eq_true hd.2
  have d3 : decide (h ≤ a) = true := decide_eq_true hle
  clear hbl hlow hd hle
  go_enter Try.func17, Try.ntmps17
  go_wp2_with ((with_reducible refine (KT.out _ (by exact (by repeat (first | exact Below.refl _ _ | assumption | refine Below.setCell ?_ (by first | (simp; done) | (simp; omega) | omega) _ | refine below_drewN ?_ _ | refine Below.drew ?_ | refine Below.alloc ?_ (by first | (simp; done) | (simp; omega) | omega) _)))).mono ?_); rintro e w2 ⟨rfl, hw2⟩; have HW2 := Lib.hid hw2; obtain ⟨hc2, hf2⟩ := bcell hw2; have hz2 := hw2.size; simp at hz2; have z0 : w.heap.size < w2.heap.size := (by omega); have z1 : w.heap.size + 1 < w2.heap.size := (by omega); clear hw2)
  go_quiet (fail)
  generalize hW3 : w2.drewN nq = w3
  have hw3 := below_drewN HW2.out nq
  rw [hW3] at hw3
  clear hc2 hf2 hz2 z0 z1 hW3 HW2
  have HW3 := Lib.hid hw3
  obtain ⟨hc3, hf3⟩ := bcell hw3
  have hz3 := hw3.size
  simp at hz3
  have z0 : w.heap.size < w3.heap.size := by omega
  have z1 : w.heap.size + 1 < w3.heap.size := by omega
  clear hw3
  go_wp2_with fail
  go_ret2
  exact ⟨Below.trans (by exact (by repeat (first | exact Below.refl _ _ | assumption | refine Below.setCell ?_ (by first | (simp; done) | (simp; omega) | omega) _ | refine below_drewN ?_ _ | refine Below.drew ?_ | refine Below.alloc ?_ (by first | (simp; done) | (simp; omega) | omega) _))) ((HW3.out.mono (by simp; omega)).trans (by exact (by repeat (first | exact Below.refl _ _ | assumption | refine Below.setCell ?_ (by first | (simp; done) | (simp; omega) | omega) _ | refine below_drewN ?_ _ | refine Below.drew ?_ | refine Below.alloc ?_ (by first | (simp; done) | (simp; omega) | omega) _)))), rfl⟩
set_option maxRecDepth 100000 in
set_option maxHeartbeats 4000000 in
theorem rlook_end {w : World} {A Ab : Option Addr} {n k nb cb : Nat} {bl : List (Int × Int)} {op a T lv h : Int} {i : Nat}
    (hT : ∀ w', Below w.heap.size w w' → Calls Try.prog 19 #[.slice A n k, .agg #[.int .i64 op, .int .i64 a], .int .i64 h] w' (TkR w' T lv))
    (hT0 : 0 ≤ T ∧ T ≤ 281474976710656) (hh : 0 ≤ h ∧ h ≤ 70368744177664) (hlv : 0 ≤ lv ∧ lv ≤ 3) (hi : i ≤ 17592186044416) (hbl : BlAt w Ab nb cb bl) (hnb : nb ≤ 1099511627775) (hlow : ¬ h < T) (hd : op = 48) (hnil : bl = []) :
    Calls Try.prog 17 #[.slice A n k, .agg #[.int .i64 op, .int .i64 a], .int .i64 i, .agg #[.int .i64 h, .slice Ab nb cb]] w (LookRR w Ab none) := by
  have KT := Lib.hid hT
  have HBL := Lib.hid hbl
  clear hT
  subst hnil
  obtain rfl : nb = 0 := by have := hbl.len; simp at this; omega
  clear hbl
  have d0 : decide (h < T) = false := decide_eq_false hlow
  subst hd
  clear hlow
  go_enter Try.func17, Try.ntmps17
  go_wp2_with ((with_reducible refine (KT.out _ (by exact (by repeat (first | exact Below.refl _ _ | assumption | refine Below.setCell ?_ (by first | (simp; done) | (simp; omega) | omega) _ | refine below_drewN ?_ _ | refine Below.drew ?_ | refine Below.alloc ?_ (by first | (simp; done) | (simp; omega) | omega) _)))).mono ?_); rintro e w2 ⟨rfl, hw2⟩; have HW2 := Lib.hid hw2; obtain ⟨hc2, hf2⟩ := bcell hw2; have hz2 := hw2.size; simp at hz2; have z0 : w.heap.size < w2.heap.size := (by omega); have z1 : w.heap.size + 1 < w2.heap.size := (by omega); clear hw2)
  go_quiet (fail)
  generalize hW3 : w2.drewN nq = w3
  have hw3 := below_drewN HW2.out nq
  rw [hW3] at hw3
  clear hc2 hf2 hz2 z0 z1 hW3 HW2
  have HW3 := Lib.hid hw3
  obtain ⟨hc3, hf3⟩ := bcell hw3
  have hz3 := hw3.size
  simp at hz3
  have z0 : w.heap.size < w3.heap.size := by omega
  have z1 : w.heap.size + 1 < w3.heap.size := by omega
  clear hw3
  go_wp2_with fail
  go_ret2
  exact ⟨Below.trans (by exact (by repeat (first | exact Below.refl _ _ | assumption | refine Below.setCell ?_ (by first | (simp; done) | (simp; omega) | omega) _ | refine below_drewN ?_ _ | refine Below.drew ?_ | refine Below.alloc ?_ (by first | (simp; done) | (simp; omega) | omega) _))) ((HW3.out.mono (by simp; omega)).trans (by exact (by repeat (first | exact Below.refl _ _ | assumption | refine Below.setCell ?_ (by first | (simp; done) | (simp; omega) | omega) _ | refine below_drewN ?_ _ | refine Below.drew ?_ | refine Below.alloc ?_ (by first | (simp; done) | (simp; omega) | omega) _)))), rfl⟩
set_option maxRecDepth 100000 in
set_option maxHeartbeats 4000000 in
theorem rlook_block_a {w : World} {A Ab : Option Addr} {n k nb cb : Nat} {bl : List (Int × Int)} {op a T lv h : Int} {i : Nat}
    (hT : ∀ w', Below w.heap.size w w' → Calls Try.prog 19 #[.slice A n k, .agg #[.int .i64 op, .int .i64 a], .int .i64 h] w' (TkR w' T lv))
    (hT0 : 0 ≤ T ∧ T ≤ 281474976710656) (hh : 0 ≤ h ∧ h ≤ 70368744177664) (hlv : 0 ≤ lv ∧ lv ≤ 3) (hi : i ≤ 17592186044416) (hbl : BlAt w Ab nb cb bl) (hnb : nb ≤ 1099511627775) (hlow : ¬ h < T) (hne : bl ≠ []) (hb : ∃ b ∈ bl.head?, h - T < b.2) (hd : 43 ≤ op ∧ op ≤ 45) (hle : ¬ h ≤ a) :
    Calls Try.prog 17 #[.slice A n k, .agg #[.int .i64 op, .int .i64 a], .int .i64 i, .agg #[.int .i64 h, .slice Ab nb cb]] w (LookRR w Ab none) := by
  have KT := Lib.hid hT
  have HBL := Lib.hid hbl
  clear hT
  obtain ⟨⟨ba, bh⟩, r, rfl⟩ : ∃ b r, bl = b :: r := by
    cases bl with
    | nil => exact absurd rfl hne
    | cons b r => exact ⟨b, r, rfl⟩
  obtain ⟨m, hm⟩ : ∃ m, nb = m + 1 := ⟨nb - 1, by have := hbl.len; simp at this; omega⟩
  have hbl2 : BlAt w Ab (m + 1) cb ((ba, bh) :: r) := hm ▸ hbl
  obtain ⟨bb, bo, rfl, hbb, g0, g1⟩ := hbl2.top
  simp only at g0 g1
  have HPOP := Lib.hid hbl2.pop
  have m0 : m < nb := by omega
  have mc : m ≤ cb := by have := hbl.2.1; omega
  have m1 : 0 < nb := by omega
  have m2 : decide (0 < nb) = true := decide_eq_true m1
  have m3 : decide ((0 : Int) < (nb : Int)) = true := decide_eq_true (by omega)
  have m4 : ((nb : Int) == 0) = false := by simp; omega
  have HM := Lib.hid hm
  clear hne hbl hbl2 hm
  have hb : h - T < bh := by
    obtain ⟨b, hb1, hb2⟩ := hb
    simp at hb1
    subst hb1
    exact hb2
  have d0 : decide (h < T) = false := decide_eq_false hlow
  have d9 : decide (h - T < bh) = true := decide_eq_true hb
  have d1 : decide (43 ≤ op) = true := decide_eq_true hd.1
  have d2 : decide (op ≤ 45) = true := decide_eq_true hd.2
  have d3 : decide (h ≤ a) = false := decide_eq_false hle
  have o48 : (op == 48) = false := by simp; omega
  clear hlow hb hd hle
  go_enter Try.func17, Try.ntmps17
  go_wp2_with ((with_reducible refine (KT.out _ (by exact (by repeat (first | exact Below.refl _ _ | assumption | refine Below.setCell ?_ (by first | (simp; done) | (simp; omega) | omega) _ | refine below_drewN ?_ _ | refine Below.drew ?_ | refine Below.alloc ?_ (by first | (simp; done) | (simp; omega) | omega) _)))).mono ?_); rintro e w2 ⟨rfl, hw2⟩; have HW2 := Lib.hid hw2; obtain ⟨hc2, hf2⟩ := bcell hw2; have hz2 := hw2.size; simp at hz2; have z0 : w.heap.size < w2.heap.size := (by omega); have z1 : w.heap.size + 1 < w2.heap.size := (by omega); have y9 : bb < w2.heap.size := (by omega); have hw9 : Below w.heap.size w w2 := Below.trans (by exact (by repeat (first | exact Below.refl _ _ | assumption | refine Below.setCell ?_ (by first | (simp; done) | (simp; omega) | omega) _ | refine below_drewN ?_ _ | refine Below.drew ?_ | refine Below.alloc ?_ (by first | (simp; done) | (simp; omega) | omega) _))) (hw2.mono (by simp; omega)); have y1 : w2.cell? ⟨bb, bo + m * 2 + 1, none⟩ = some (.int .i64 bh) := (hw9.cell (p := ⟨bb, bo + m * 2 + 1, none⟩) hbb).trans g1; clear hw9; clear hw2)
  have s8 : IntKind.i64.wrap (h - T) = h - T := IntWalk.i64_in _ (by omega)
  have s9 : IntKind.i64.wrap (m : Int) = (m : Int) := IntWalk.i64_in _ (by have := HM.out; omega)
  have s6 : (nb : Int) - 1 = (m : Int) := by have := HM.out; omega
  go_quiet (fail)
  clear s6 s8 s9
  clear y9 y1
  generalize hW3 : w2.drewN nq = w3
  have hw3 := below_drewN HW2.out nq
  rw [hW3] at hw3
  clear hc2 hf2 hz2 z0 z1 hW3 HW2
  have HW3 := Lib.hid hw3
  obtain ⟨hc3, hf3⟩ := bcell hw3
  have hz3 := hw3.size
  simp at hz3
  have z0 : w.heap.size < w3.heap.size := by omega
  have z1 : w.heap.size + 1 < w3.heap.size := by omega
  clear hw3
  go_wp2_with fail
  go_ret2
  exact ⟨Below.trans (by exact (by repeat (first | exact Below.refl _ _ | assumption | refine Below.setCell ?_ (by first | (simp; done) | (simp; omega) | omega) _ | refine below_drewN ?_ _ | refine Below.drew ?_ | refine Below.alloc ?_ (by first | (simp; done) | (simp; omega) | omega) _))) ((HW3.out.mono (by simp; omega)).trans (by exact (by repeat (first | exact Below.refl _ _ | assumption | refine Below.setCell ?_ (by first | (simp; done) | (simp; omega) | omega) _ | refine below_drewN ?_ _ | refine Below.drew ?_ | refine Below.alloc ?_ (by first | (simp; done) | (simp; omega) | omega) _)))), rfl⟩
set_option maxRecDepth 100000 in
set_option maxHeartbeats 4000000 in
theorem rlook_block_b {w : World} {A Ab : Option Addr} {n k nb cb : Nat} {bl : List (Int × Int)} {op a T lv h : Int} {i : Nat}
    (hT : ∀ w', Below w.heap.size w w' → Calls Try.prog 19 #[.slice A n k, .agg #[.int .i64 op, .int .i64 a], .int .i64 h] w' (TkR w' T lv))
    (hT0 : 0 ≤ T ∧ T ≤ 281474976710656) (hh : 0 ≤ h ∧ h ≤ 70368744177664) (hlv : 0 ≤ lv ∧ lv ≤ 3) (hi : i ≤ 17592186044416) (hbl : BlAt w Ab nb cb bl) (hnb : nb ≤ 1099511627775) (hlow : ¬ h < T) (hne : bl ≠ []) (hb : ∃ b ∈ bl.head?, h - T < b.2) (hd : op < 43) :
    Calls Try.prog 17 #[.slice A n k, .agg #[.int .i64 op, .int .i64 a], .int .i64 i, .agg #[.int .i64 h, .slice Ab nb cb]] w (LookRR w Ab none) := by
  have KT := Lib.hid hT
  have HBL := Lib.hid hbl
  clear hT
  obtain ⟨⟨ba, bh⟩, r, rfl⟩ : ∃ b r, bl = b :: r := by
    cases bl with
    | nil => exact absurd rfl hne
    | cons b r => exact ⟨b, r, rfl⟩
  obtain ⟨m, hm⟩ : ∃ m, nb = m + 1 := ⟨nb - 1, by have := hbl.len; simp at this; omega⟩
  have hbl2 : BlAt w Ab (m + 1) cb ((ba, bh) :: r) := hm ▸ hbl
  obtain ⟨bb, bo, rfl, hbb, g0, g1⟩ := hbl2.top
  simp only at g0 g1
  have HPOP := Lib.hid hbl2.pop
  have m0 : m < nb := by omega
  have mc : m ≤ cb := by have := hbl.2.1; omega
  have m1 : 0 < nb := by omega
  have m2 : decide (0 < nb) = true := decide_eq_true m1
  have m3 : decide ((0 : Int) < (nb : Int)) = true := decide_eq_true (by omega)
  have m4 : ((nb : Int) == 0) = false := by simp; omega
  have HM := Lib.hid hm
  clear hne hbl hbl2 hm
  have hb : h - T < bh := by
    obtain ⟨b, hb1, hb2⟩ := hb
    simp at hb1
    subst hb1
    exact hb2
  have d0 : decide (h < T) = false := decide_eq_false hlow
  have d9 : decide (h - T < bh) = true := decide_eq_true hb
  have d1 : decide (43 ≤ op) = false := decide_eq_false (by omega)
  have o48 : (op == 48) = false := by simp; omega
  clear hlow hb hd
  go_enter Try.func17, Try.ntmps17
  go_wp2_with ((with_reducible refine (KT.out _ (by exact (by repeat (first | exact Below.refl _ _ | assumption | refine Below.setCell ?_ (by first | (simp; done) | (simp; omega) | omega) _ | refine below_drewN ?_ _ | refine Below.drew ?_ | refine Below.alloc ?_ (by first | (simp; done) | (simp; omega) | omega) _)))).mono ?_); rintro e w2 ⟨rfl, hw2⟩; have HW2 := Lib.hid hw2; obtain ⟨hc2, hf2⟩ := bcell hw2; have hz2 := hw2.size; simp at hz2; have z0 : w.heap.size < w2.heap.size := (by omega); have z1 : w.heap.size + 1 < w2.heap.size := (by omega); have y9 : bb < w2.heap.size := (by omega); have hw9 : Below w.heap.size w w2 := Below.trans (by exact (by repeat (first | exact Below.refl _ _ | assumption | refine Below.setCell ?_ (by first | (simp; done) | (simp; omega) | omega) _ | refine below_drewN ?_ _ | refine Below.drew ?_ | refine Below.alloc ?_ (by first | (simp; done) | (simp; omega) | omega) _))) (hw2.mono (by simp; omega)); have y1 : w2.cell? ⟨bb, bo + m * 2 + 1, none⟩ = some (.int .i64 bh) := (hw9.cell (p := ⟨bb, bo + m * 2 + 1, none⟩) hbb).trans g1; clear hw9; clear hw2)
  have s8 : IntKind.i64.wrap (h - T) = h - T := IntWalk.i64_in _ (by omega)
  have s9 : IntKind.i64.wrap (m : Int) = (m : Int) := IntWalk.i64_in _ (by have := HM.out; omega)
  have s6 : (nb : Int) - 1 = (m : Int) := by have := HM.out; omega
  go_quiet (fail)
  clear s6 s8 s9
  clear y9 y1
  generalize hW3 : w2.drewN nq = w3
  have hw3 := below_drewN HW2.out nq
  rw [hW3] at hw3
  clear hc2 hf2 hz2 z0 z1 hW3 HW2
  have HW3 := Lib.hid hw3
  obtain ⟨hc3, hf3⟩ := bcell hw3
  have hz3 := hw3.size
  simp at hz3
  have z0 : w.heap.size < w3.heap.size := by omega
  have z1 : w.heap.size + 1 < w3.heap.size := by omega
  clear hw3
  go_wp2_with fail
  go_ret2
  exact ⟨Below.trans (by exact (by repeat (first | exact Below.refl _ _ | assumption | refine Below.setCell ?_ (by first | (simp; done) | (simp; omega) | omega) _ | refine below_drewN ?_ _ | refine Below.drew ?_ | refine Below.alloc ?_ (by first | (simp; done) | (simp; omega) | omega) _))) ((HW3.out.mono (by simp; omega)).trans (by exact (by repeat (first | exact Below.refl _ _ | assumption | refine Below.setCell ?_ (by first | (simp; done) | (simp; omega) | omega) _ | refine below_drewN ?_ _ | refine Below.drew ?_ | refine Below.alloc ?_ (by first | (simp; done) | (simp; omega) | omega) _)))), rfl⟩
set_option maxRecDepth 100000 in
set_option maxHeartbeats 4000000 in
theorem rlook_block_c {w : World} {A Ab : Option Addr} {n k nb cb : Nat} {bl : List (Int × Int)} {op a T lv h : Int} {i : Nat}
    (hT : ∀ w', Below w.heap.size w w' → Calls Try.prog 19 #[.slice A n k, .agg #[.int .i64 op, .int .i64 a], .int .i64 h] w' (TkR w' T lv))
    (hT0 : 0 ≤ T ∧ T ≤ 281474976710656) (hh : 0 ≤ h ∧ h ≤ 70368744177664) (hlv : 0 ≤ lv ∧ lv ≤ 3) (hi : i ≤ 17592186044416) (hbl : BlAt w Ab nb cb bl) (hnb : nb ≤ 1099511627775) (hlow : ¬ h < T) (hne : bl ≠ []) (hb : ∃ b ∈ bl.head?, h - T < b.2) (hd : 45 < op ∧ op ≠ 48) :
    Calls Try.prog 17 #[.slice A n k, .agg #[.int .i64 op, .int .i64 a], .int .i64 i, .agg #[.int .i64 h, .slice Ab nb cb]] w (LookRR w Ab none) := by
  have KT := Lib.hid hT
  have HBL := Lib.hid hbl
  clear hT
  obtain ⟨⟨ba, bh⟩, r, rfl⟩ : ∃ b r, bl = b :: r := by
    cases bl with
    | nil => exact absurd rfl hne
    | cons b r => exact ⟨b, r, rfl⟩
  obtain ⟨m, hm⟩ : ∃ m, nb = m + 1 := ⟨nb - 1, by have := hbl.len; simp at this; omega⟩
  have hbl2 : BlAt w Ab (m + 1) cb ((ba, bh) :: r) := hm ▸ hbl
  obtain ⟨bb, bo, rfl, hbb, g0, g1⟩ := hbl2.top
  simp only at g0 g1
  have HPOP := Lib.hid hbl2.pop
  have m0 : m < nb := by omega
  have mc : m ≤ cb := by have := hbl.2.1; omega
  have m1 : 0 < nb := by omega
  have m2 : decide (0 < nb) = true := decide_eq_true m1
  have m3 : decide ((0 : Int) < (nb : Int)) = true := decide_eq_true (by omega)
  have m4 : ((nb : Int) == 0) = false := by simp; omega
  have HM := Lib.hid hm
  clear hne hbl hbl2 hm
  have hb : h - T < bh := by
    obtain ⟨b, hb1, hb2⟩ := hb
    simp at hb1
    subst hb1
    exact hb2
  have d0 : decide (h < T) = false := decide_eq_false hlow
  have d9 : decide (h - T < bh) = true := decide_eq_true hb
  have d1 : decide (43 ≤ op) = true := decide_eq_true (by omega)
  have d2 : decide (op ≤ 45) = false := decide_eq_false (by omega)
  have o48 : (op == 48) = false := by simp; omega
  clear hlow hb hd
  go_enter Try.func17, Try.ntmps17
  go_wp2_with ((with_reducible refine (KT.out _ (by exact (by repeat (first | exact Below.refl _ _ | assumption | refine Below.setCell ?_ (by first | (simp; done) | (simp; omega) | omega) _ | refine below_drewN ?_ _ | refine Below.drew ?_ | refine Below.alloc ?_ (by first | (simp; done) | (simp; omega) | omega) _)))).mono ?_); rintro e w2 ⟨rfl, hw2⟩; have HW2 := Lib.hid hw2; obtain ⟨hc2, hf2⟩ := bcell hw2; have hz2 := hw2.size; simp at hz2; have z0 : w.heap.size < w2.heap.size := (by omega); have z1 : w.heap.size + 1 < w2.heap.size := (by omega); have y9 : bb < w2.heap.size := (by omega); have hw9 : Below w.heap.size w w2 := Below.trans (by exact (by repeat (first | exact Below.refl _ _ | assumption | refine Below.setCell ?_ (by first | (simp; done) | (simp; omega) | omega) _ | refine below_drewN ?_ _ | refine Below.drew ?_ | refine Below.alloc ?_ (by first | (simp; done) | (simp; omega) | omega) _))) (hw2.mono (by simp; omega)); have y1 : w2.cell? ⟨bb, bo + m * 2 + 1, none⟩ = some (.int .i64 bh) := (hw9.cell (p := ⟨bb, bo + m * 2 + 1, none⟩) hbb).trans g1; clear hw9; clear hw2)
  have s8 : IntKind.i64.wrap (h - T) = h - T := IntWalk.i64_in _ (by omega)
  have s9 : IntKind.i64.wrap (m : Int) = (m : Int) := IntWalk.i64_in _ (by have := HM.out; omega)
  have s6 : (nb : Int) - 1 = (m : Int) := by have := HM.out; omega
  go_quiet (fail)
  clear s6 s8 s9
  clear y9 y1
  generalize hW3 : w2.drewN nq = w3
  have hw3 := below_drewN HW2.out nq
  rw [hW3] at hw3
  clear hc2 hf2 hz2 z0 z1 hW3 HW2
  have HW3 := Lib.hid hw3
  obtain ⟨hc3, hf3⟩ := bcell hw3
  have hz3 := hw3.size
  simp at hz3
  have z0 : w.heap.size < w3.heap.size := by omega
  have z1 : w.heap.size + 1 < w3.heap.size := by omega
  clear hw3
  go_wp2_with fail
  go_ret2
  exact ⟨Below.trans (by exact (by repeat (first | exact Below.refl _ _ | assumption | refine Below.setCell ?_ (by first | (simp; done) | (simp; omega) | omega) _ | refine below_drewN ?_ _ | refine Below.drew ?_ | refine Below.alloc ?_ (by first | (simp; done) | (simp; omega) | omega) _))) ((HW3.out.mono (by simp; omega)).trans (by exact (by repeat (first | exact Below.refl _ _ | assumption | refine Below.setCell ?_ (by first | (simp; done) | (simp; omega) | omega) _ | refine below_drewN ?_ _ | refine Below.drew ?_ | refine Below.alloc ?_ (by first | (simp; done) | (simp; omega) | omega) _)))), rfl⟩
set_option maxRecDepth 100000 in
set_option maxHeartbeats 4000000 in
theorem rlook_block_d {w : World} {A Ab : Option Addr} {n k nb cb : Nat} {bl : List (Int × Int)} {op a T lv h : Int} {i : Nat}
    (hT : ∀ w', Below w.heap.size w w' → Calls Try.prog 19 #[.slice A n k, .agg #[.int .i64 op, .int .i64 a], .int .i64 h] w' (TkR w' T lv))
    (hT0 : 0 ≤ T ∧ T ≤ 281474976710656) (hh : 0 ≤ h ∧ h ≤ 70368744177664) (hlv : 0 ≤ lv ∧ lv ≤ 3) (hi : i ≤ 17592186044416) (hbl : BlAt w Ab nb cb bl) (hnb : nb ≤ 1099511627775) (hlow : ¬ h < T) (hne : bl ≠ []) (hb : ∃ b ∈ bl.head?, h - T < b.2) (hd : op = 48) :
    Calls Try.prog 17 #[.slice A n k, .agg #[.int .i64 op, .int .i64 a], .int .i64 i, .agg #[.int .i64 h, .slice Ab nb cb]] w (LookRR w Ab none) := by
  have KT := Lib.hid hT
  have HBL := Lib.hid hbl
  clear hT
  obtain ⟨⟨ba, bh⟩, r, rfl⟩ : ∃ b r, bl = b :: r := by
    cases bl with
    | nil => exact absurd rfl hne
    | cons b r => exact ⟨b, r, rfl⟩
  obtain ⟨m, hm⟩ : ∃ m, nb = m + 1 := ⟨nb - 1, by have := hbl.len; simp at this; omega⟩
  have hbl2 : BlAt w Ab (m + 1) cb ((ba, bh) :: r) := hm ▸ hbl
  obtain ⟨bb, bo, rfl, hbb, g0, g1⟩ := hbl2.top
  simp only at g0 g1
  have HPOP := Lib.hid hbl2.pop
  have m0 : m < nb := by omega
  have mc : m ≤ cb := by have := hbl.2.1; omega
  have m1 : 0 < nb := by omega
  have m2 : decide (0 < nb) = true := decide_eq_true m1
  have m3 : decide ((0 : Int) < (nb : Int)) = true := decide_eq_true (by omega)
  have m4 : ((nb : Int) == 0) = false := by simp; omega
  have HM := Lib.hid hm
  clear hne hbl hbl2 hm
  have hb : h - T < bh := by
    obtain ⟨b, hb1, hb2⟩ := hb
    simp at hb1
    subst hb1
    exact hb2
  have d0 : decide (h < T) = false := decide_eq_false hlow
  have d9 : decide (h - T < bh) = true := decide_eq_true hb
  subst hd
  clear hlow hb 
  go_enter Try.func17, Try.ntmps17
  go_wp2_with ((with_reducible refine (KT.out _ (by exact (by repeat (first | exact Below.refl _ _ | assumption | refine Below.setCell ?_ (by first | (simp; done) | (simp; omega) | omega) _ | refine below_drewN ?_ _ | refine Below.drew ?_ | refine Below.alloc ?_ (by first | (simp; done) | (simp; omega) | omega) _)))).mono ?_); rintro e w2 ⟨rfl, hw2⟩; have HW2 := Lib.hid hw2; obtain ⟨hc2, hf2⟩ := bcell hw2; have hz2 := hw2.size; simp at hz2; have z0 : w.heap.size < w2.heap.size := (by omega); have z1 : w.heap.size + 1 < w2.heap.size := (by omega); have y9 : bb < w2.heap.size := (by omega); have hw9 : Below w.heap.size w w2 := Below.trans (by exact (by repeat (first | exact Below.refl _ _ | assumption | refine Below.setCell ?_ (by first | (simp; done) | (simp; omega) | omega) _ | refine below_drewN ?_ _ | refine Below.drew ?_ | refine Below.alloc ?_ (by first | (simp; done) | (simp; omega) | omega) _))) (hw2.mono (by simp; omega)); have y1 : w2.cell? ⟨bb, bo + m * 2 + 1, none⟩ = some (.int .i64 bh) := (hw9.cell (p := ⟨bb, bo + m * 2 + 1, none⟩) hbb).trans g1; clear hw9; clear hw2)
  have s8 : IntKind.i64.wrap (h - T) = h - T := IntWalk.i64_in _ (by omega)
  have s9 : IntKind.i64.wrap (m : Int) = (m : Int) := IntWalk.i64_in _ (by have := HM.out; omega)
  have s6 : (nb : Int) - 1 = (m : Int) := by have := HM.out; omega
  go_quiet (fail)
  clear s6 s8 s9
  clear y9 y1
  generalize hW3 : w2.drewN nq = w3
  have hw3 := below_drewN HW2.out nq
  rw [hW3] at hw3
  clear hc2 hf2 hz2 z0 z1 hW3 HW2
  have HW3 := Lib.hid hw3
  obtain ⟨hc3, hf3⟩ := bcell hw3
  have hz3 := hw3.size
  simp at hz3
  have z0 : w.heap.size < w3.heap.size := by omega
  have z1 : w.heap.size + 1 < w3.heap.size := by omega
  clear hw3
  go_wp2_with fail
  go_ret2
  exact ⟨Below.trans (by exact (by repeat (first | exact Below.refl _ _ | assumption | refine Below.setCell ?_ (by first | (simp; done) | (simp; omega) | omega) _ | refine below_drewN ?_ _ | refine Below.drew ?_ | refine Below.alloc ?_ (by first | (simp; done) | (simp; omega) | omega) _))) ((HW3.out.mono (by simp; omega)).trans (by exact (by repeat (first | exact Below.refl _ _ | assumption | refine Below.setCell ?_ (by first | (simp; done) | (simp; omega) | omega) _ | refine below_drewN ?_ _ | refine Below.drew ?_ | refine Below.alloc ?_ (by first | (simp; done) | (simp; omega) | omega) _)))), rfl⟩
end Go.Proofs.Ytgnejkmojfhfpaa
