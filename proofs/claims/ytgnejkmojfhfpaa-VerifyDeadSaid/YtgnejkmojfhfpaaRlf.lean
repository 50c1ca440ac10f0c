/- The reference's Look: blocks. -/
import Derived.Test.YtgnejkmojfhfpaaRla
namespace Go.Proofs.Ytgnejkmojfhfpaa
open Go.RowKit
set_option linter.unusedVariables false
set_option linter.unusedSimpArgs false
set_option maxRecDepth 100000 in
set_option maxHeartbeats 4000000 in
theorem rlook_endtry {w : World} {A Ab : Option Addr} {n k nb cb : Nat} {bl : List (Int × Int)} {op a T lv h : Int} {i : Nat}
    (hT : ∀ w', Below w.heap.size w w' → Calls Try.prog 19 #[.slice A n k, .agg #[.int .i64 op, .int .i64 a], .int .i64 h] w' (TkR w' T lv))
    (hT0 : 0 ≤ T ∧ T ≤ 281474976710656) (hh : 0 ≤ h ∧ h ≤ 70368744177664) (hlv : 0 ≤ lv ∧ lv ≤ 3) (hi : i ≤ 17592186044416) (hbl : BlAt w Ab nb cb bl) (hnb : nb ≤ 1099511627775) (hlow : ¬ h < T) (hblk : ∀ b ∈ bl.head?, ¬ h - T < b.2) (ho : op = 48) (hne : bl ≠ []) :
    Calls Try.prog 17 #[.slice A n k, .agg #[.int .i64 op, .int .i64 a], .int .i64 i, .agg #[.int .i64 h, .slice Ab nb cb]] w (LookRR w Ab (some [((i : Int) + 1, ⟨h - T + lv, bl.tail⟩)])) := by
  have KT := Lib.hid hT
  have HBL := Lib.hid hbl
  clear hT
  have d0 : decide (h < T) = false := decide_eq_false hlow
  clear hlow 
  have hbh : ∀ b ∈ bl.head?, ¬ h - T < b.2 := hblk
  clear hblk
  obtain ⟨⟨ba, bh⟩, r, rfl⟩ : ∃ b r, bl = b :: r := by
    cases bl with
    | nil => exact absurd rfl hne
    | cons b r => exact ⟨b, r, rfl⟩
  obtain ⟨m, hm⟩ : ∃ m, nb = m + 1 := ⟨nb - 1, by have := hbl.len; simp at this; omega⟩
  have hbl2 : BlAt w Ab (m + 1) cb ((ba, bh) :: r) := hm ▸ hbl
  obtain ⟨bb, bo, rfl, hbb, g0, g1⟩ := hbl2.top
  simp only at g0 g1
  have HPOP := Lib.hid hbl2.pop
  have m0 : m < nb := by omega
  have mc : m ≤ cb := by have := hbl.2.1; omega
  have m1 : 0 < nb := by omega
  have m2 : decide (0 < nb) = true := decide_eq_true m1
  have m3 : decide ((0 : Int) < (nb : Int)) = true := decide_eq_true (by omega)
  have m4 : ((nb : Int) == 0) = false := by simp; omega
  have HM := Lib.hid hm
  clear hne hbl hbl2 hm
  have hb0 : ¬ h - T < bh := hbh (ba, bh) (by simp)
  have d9 : decide (h - T < bh) = false := decide_eq_false hb0
  clear hbh hb0
  subst ho
  go_enter Try.func17, Try.ntmps17
  go_wp2_with ((with_reducible refine (KT.out _ (by exact (by repeat (first | exact Below.refl _ _ | assumption | refine Below.setCell ?_ (by first | (simp; done) | (simp; omega) | omega) _ | refine below_drewN ?_ _ | refine Below.drew ?_ | refine Below.alloc ?_ (by first | (simp; done) | (simp; omega) | omega) _)))).mono ?_); rintro e w2 ⟨rfl, hw2⟩; have HW2 := Lib.hid hw2; obtain ⟨hc2, hf2⟩ := bcell hw2; have hz2 := hw2.size; simp at hz2; have z0 : w.heap.size < w2.heap.size := (by omega); have z1 : w.heap.size + 1 < w2.heap.size := (by omega); have y9 : bb < w2.heap.size := (by omega); have hw9 : Below w.heap.size w w2 := Below.trans (by exact (by repeat (first | exact Below.refl _ _ | assumption | refine Below.setCell ?_ (by first | (simp; done) | (simp; omega) | omega) _ | refine below_drewN ?_ _ | refine Below.drew ?_ | refine Below.alloc ?_ (by first | (simp; done) | (simp; omega) | omega) _))) (hw2.mono (by simp; omega)); have y1 : w2.cell? ⟨bb, bo + m * 2 + 1, none⟩ = some (.int .i64 bh) := (hw9.cell (p := ⟨bb, bo + m * 2 + 1, none⟩) hbb).trans g1; clear hw9; clear hw2)
  have s8 : IntKind.i64.wrap (h - T) = h - T := IntWalk.i64_in _ (by omega)
  have s9 : IntKind.i64.wrap (m : Int) = (m : Int) := IntWalk.i64_in _ (by have := HM.out; omega)
  have s6 : (nb : Int) - 1 = (m : Int) := by have := HM.out; omega
  go_quiet (fail)
  clear y9 y1
  generalize hW3 : w2.drewN nq = w3
  have hw3 := below_drewN HW2.out nq
  rw [hW3] at hw3
  clear hc2 hf2 hz2 z0 z1 hW3 HW2
  have HW3 := Lib.hid hw3
  obtain ⟨hc3, hf3⟩ := bcell hw3
  have hz3 := hw3.size
  simp at hz3
  have z0 : w.heap.size < w3.heap.size := by omega
  have z1 : w.heap.size + 1 < w3.heap.size := by omega
  clear hw3
  go_wp2_with fail
  go_ret2
  exact ⟨(Below.trans (by exact (by repeat (first | exact Below.refl _ _ | assumption | refine Below.setCell ?_ (by first | (simp; done) | (simp; omega) | omega) _ | refine below_drewN ?_ _ | refine Below.drew ?_ | refine Below.alloc ?_ (by first | (simp; done) | (simp; omega) | omega) _))) ((HW3.out.mono (by simp; omega)).trans (by exact (by repeat (first | exact Below.refl _ _ | assumption | refine Below.setCell ?_ (by first | (simp; done) | (simp; omega) | omega) _ | refine below_drewN ?_ _ | refine Below.drew ?_ | refine Below.alloc ?_ (by first | (simp; done) | (simp; omega) | omega) _))))), _, _, _, rfl, rways_one (HPOP.out.new (Below.trans (by exact (by repeat (first | exact Below.refl _ _ | assumption | refine Below.setCell ?_ (by first | (simp; done) | (simp; omega) | omega) _ | refine below_drewN ?_ _ | refine Below.drew ?_ | refine Below.alloc ?_ (by first | (simp; done) | (simp; omega) | omega) _))) ((HW3.out.mono (by simp; omega)).trans (by exact (by repeat (first | exact Below.refl _ _ | assumption | refine Below.setCell ?_ (by first | (simp; done) | (simp; omega) | omega) _ | refine below_drewN ?_ _ | refine Below.drew ?_ | refine Below.alloc ?_ (by first | (simp; done) | (simp; omega) | omega) _)))))) (from_self _) rfl (by simp), fun b o e => by cases e; (first | omega | (simp; omega))⟩
set_option maxRecDepth 100000 in
set_option maxHeartbeats 4000000 in
theorem rlook_try {w : World} {A Ab : Option Addr} {n k nb cb : Nat} {bl : List (Int × Int)} {op a T lv h : Int} {i : Nat}
    (hT : ∀ w', Below w.heap.size w w' → Calls Try.prog 19 #[.slice A n k, .agg #[.int .i64 op, .int .i64 a], .int .i64 h] w' (TkR w' T lv))
    (hT0 : 0 ≤ T ∧ T ≤ 281474976710656) (hh : 0 ≤ h ∧ h ≤ 70368744177664) (hlv : 0 ≤ lv ∧ lv ≤ 3) (hi : i ≤ 17592186044416) (hbl : BlAt w Ab nb cb bl) (hnb : nb ≤ 1099511627775) (hlow : ¬ h < T) (hblk : ∀ b ∈ bl.head?, ¬ h - T < b.2) (ho : op = 47) :
    Calls Try.prog 17 #[.slice A n k, .agg #[.int .i64 op, .int .i64 a], .int .i64 i, .agg #[.int .i64 h, .slice Ab nb cb]] w (LookRR w Ab (some [((i : Int) + 1, ⟨h - T + lv, (a, h) :: bl⟩), (a, ⟨h + 1, bl⟩)])) := by
  have KT := Lib.hid hT
  have HBL := Lib.hid hbl
  clear hT
  have d0 : decide (h < T) = false := decide_eq_false hlow
  clear hlow 
  by_cases hnil : bl = []
  · clear hblk
    subst hnil
    obtain rfl : nb = 0 := by have := hbl.len; simp at this; omega
    clear hbl
    subst ho
    have HXB := Lib.hid ((Blk.new w 43 #[.int .i64 47, .int .i64 a]).alloc (.cells #[.int .i64 h, .slice Ab 0 cb] 41))
    have HSB : Hid (Blk ((w.alloc (.cells #[.int .i64 47, .int .i64 a] 43)).alloc (.cells #[.int .i64 h, .slice Ab 0 cb] 41)) (w.heap.size + 1) 41 #[.int .i64 h, .slice Ab 0 cb]) := Lib.hid (by have := Blk.new (w.alloc (.cells #[.int .i64 47, .int .i64 a] 43)) 41 #[.int .i64 h, .slice Ab 0 cb]; simpa using this)
    go_enter Try.func17, Try.ntmps17
    go_wp2_with ((with_reducible refine (KT.out _ (by exact (by repeat (first | exact Below.refl _ _ | assumption | refine Below.setCell ?_ (by first | (simp; done) | (simp; omega) | omega) _ | refine below_drewN ?_ _ | refine Below.drew ?_ | refine Below.alloc ?_ (by first | (simp; done) | (simp; omega) | omega) _)))).mono ?_); rintro e w2 ⟨rfl, hw2⟩; have HW2 := Lib.hid hw2; obtain ⟨hc2, hf2⟩ := bcell hw2; have hz2 := hw2.size; simp at hz2; have z0 : w.heap.size < w2.heap.size := (by omega); have z1 : w.heap.size + 1 < w2.heap.size := (by omega); clear hw2)
    go_quiet (fail)
    generalize hW3 : w2.drewN nq = w3
    have hw3 := below_drewN HW2.out nq
    rw [hW3] at hw3
    clear hc2 hf2 hz2 z0 z1 hW3 HW2
    have HW3 := Lib.hid hw3
    obtain ⟨hc3, hf3⟩ := bcell hw3
    have hz3 := hw3.size
    simp at hz3
    have z0 : w.heap.size < w3.heap.size := by omega
    have z1 : w.heap.size + 1 < w3.heap.size := by omega
    have HX2 := Lib.hid (HXB.out.new' hw3)
    have HS2 := Lib.hid (HSB.out.new' hw3)
    have HWW : Hid (Below w.heap.size w w3) := Lib.hid (Below.trans (by exact (by repeat (first | exact Below.refl _ _ | assumption | refine Below.setCell ?_ (by first | (simp; done) | (simp; omega) | omega) _ | refine below_drewN ?_ _ | refine Below.drew ?_ | refine Below.alloc ?_ (by first | (simp; done) | (simp; omega) | omega) _))) (hw3.mono (by simp; omega)))
    clear hw3
    go_wp2_with ((with_reducible refine (with_any (HBL.out.new (HWW.out.trans ((show Below w3.heap.size w3 _ from (by exact (by repeat (first | exact Below.refl _ _ | assumption | refine Below.setCell ?_ (by first | (simp; done) | (simp; omega) | omega) _ | refine below_drewN ?_ _ | refine Below.drew ?_ | refine Below.alloc ?_ (by first | (simp; done) | (simp; omega) | omega) _)))).mono HWW.out.size))) (by omega) a h).mono ?_); rintro e w4 ⟨hw4, A3, n3, c3, rfl, hb3, hn3⟩; have hw24 : Below w3.heap.size w3 w4 := Below.trans (by exact (by repeat (first | exact Below.refl _ _ | assumption | refine Below.setCell ?_ (by first | (simp; done) | (simp; omega) | omega) _ | refine below_drewN ?_ _ | refine Below.drew ?_ | refine Below.alloc ?_ (by first | (simp; done) | (simp; omega) | omega) _))) (hw4.mono (by simp)); have HW24 := Lib.hid hw24; have hnx := (Blk.new _ 41 _).below hw4 (by simp); have HB3 := Lib.hid hb3; have HN3 := Lib.hid hn3; have hx4 := HX2.out.new' hw24; have hs4 := HS2.out.new' hw24; have x0 := hx4.cell 0; have x1 := hx4.cell 1; have xl := hx4.lt; have t0 := hs4.cell 0; have t1 := hs4.cell 1; have tl := hs4.lt; have n0 := hnx.cell 0; have n1 := hnx.cell 1; have nl := hnx.lt; have nf := hnx.frozen 1; simp only [List.getElem?_toArray, List.getElem?_cons_zero, List.getElem?_cons_succ] at x0 x1 t0 t1 n0 n1; clear hw4 hb3 hn3 hw24 hnx hx4 hs4)
    have HB5 := (HWW.out.trans (HW24.out.mono HWW.out.size)).setCell (p := ⟨w3.heap.size, 1, none⟩) (by have := HWW.out.size; simpa using this) (.slice A3 n3 c3)
    have HZ4 := HW24.out.size
    have HZ3 := HWW.out.size
    go_ret2
    have HB6 := HB5.alloc (by simp [World.setCell]; omega) (.cells #[.int .i64 ((i : Int) + 1), .int .i64 (h - T + lv), .slice A3 n3 c3, .int .i64 a, .int .i64 (h + 1), .slice Ab 0 cb] 50)
    exact ⟨HB6, _, _, _, rfl, rways_two (BlAt.mod HB3.out (S := fun x => x = w3.heap.size) ((Mod.setCell (S := fun x => x = w3.heap.size) (p := ⟨w3.heap.size, 1, none⟩) (Mod.refl _ _) (fun _ => rfl) _).alloc _) (fun b o e hs => by have h5 := HN3.out b o e; simp at h5; omega)) (fun b o e => .inl (by have h5 := HN3.out b o e; simp at h5; omega)) (HBL.out.new HB6) (from_self _) rfl (by simp [World.setCell]), fun b o e => by cases e; omega⟩
  · have hne : bl ≠ [] := hnil
    clear hnil
    have hbh : ∀ b ∈ bl.head?, ¬ h - T < b.2 := hblk
    clear hblk
    obtain ⟨⟨ba, bh⟩, r, rfl⟩ : ∃ b r, bl = b :: r := by
      cases bl with
      | nil => exact absurd rfl hne
      | cons b r => exact ⟨b, r, rfl⟩
    obtain ⟨m, hm⟩ : ∃ m, nb = m + 1 := ⟨nb - 1, by have := hbl.len; simp at this; omega⟩
    have hbl2 : BlAt w Ab (m + 1) cb ((ba, bh) :: r) := hm ▸ hbl
    obtain ⟨bb, bo, rfl, hbb, g0, g1⟩ := hbl2.top
    simp only at g0 g1
    have HPOP := Lib.hid hbl2.pop
    have m0 : m < nb := by omega
    have mc : m ≤ cb := by have := hbl.2.1; omega
    have m1 : 0 < nb := by omega
    have m2 : decide (0 < nb) = true := decide_eq_true m1
    have m3 : decide ((0 : Int) < (nb : Int)) = true := decide_eq_true (by omega)
    have m4 : ((nb : Int) == 0) = false := by simp; omega
    have HM := Lib.hid hm
    clear hne hbl hbl2 hm
    have hb0 : ¬ h - T < bh := hbh (ba, bh) (by simp)
    have d9 : decide (h - T < bh) = false := decide_eq_false hb0
    clear hbh hb0
    subst ho
    have HXB := Lib.hid ((Blk.new w 43 #[.int .i64 47, .int .i64 a]).alloc (.cells #[.int .i64 h, .slice (some ⟨bb, bo, none⟩) nb cb] 41))
    have HSB : Hid (Blk ((w.alloc (.cells #[.int .i64 47, .int .i64 a] 43)).alloc (.cells #[.int .i64 h, .slice (some ⟨bb, bo, none⟩) nb cb] 41)) (w.heap.size + 1) 41 #[.int .i64 h, .slice (some ⟨bb, bo, none⟩) nb cb]) := Lib.hid (by have := Blk.new (w.alloc (.cells #[.int .i64 47, .int .i64 a] 43)) 41 #[.int .i64 h, .slice (some ⟨bb, bo, none⟩) nb cb]; simpa using this)
    go_enter Try.func17, Try.ntmps17
    go_wp2_with ((with_reducible refine (KT.out _ (by exact (by repeat (first | exact Below.refl _ _ | assumption | refine Below.setCell ?_ (by first | (simp; done) | (simp; omega) | omega) _ | refine below_drewN ?_ _ | refine Below.drew ?_ | refine Below.alloc ?_ (by first | (simp; done) | (simp; omega) | omega) _)))).mono ?_); rintro e w2 ⟨rfl, hw2⟩; have HW2 := Lib.hid hw2; obtain ⟨hc2, hf2⟩ := bcell hw2; have hz2 := hw2.size; simp at hz2; have z0 : w.heap.size < w2.heap.size := (by omega); have z1 : w.heap.size + 1 < w2.heap.size := (by omega); have y9 : bb < w2.heap.size := (by omega); have hw9 : Below w.heap.size w w2 := Below.trans (by exact (by repeat (first | exact Below.refl _ _ | assumption | refine Below.setCell ?_ (by first | (simp; done) | (simp; omega) | omega) _ | refine below_drewN ?_ _ | refine Below.drew ?_ | refine Below.alloc ?_ (by first | (simp; done) | (simp; omega) | omega) _))) (hw2.mono (by simp; omega)); have y1 : w2.cell? ⟨bb, bo + m * 2 + 1, none⟩ = some (.int .i64 bh) := (hw9.cell (p := ⟨bb, bo + m * 2 + 1, none⟩) hbb).trans g1; clear hw9; clear hw2)
    have s8 : IntKind.i64.wrap (h - T) = h - T := IntWalk.i64_in _ (by omega)
    have s9 : IntKind.i64.wrap (m : Int) = (m : Int) := IntWalk.i64_in _ (by have := HM.out; omega)
    have s6 : (nb : Int) - 1 = (m : Int) := by have := HM.out; omega
    go_quiet (fail)
    clear s6 s8 s9
    clear y9 y1
    generalize hW3 : w2.drewN nq = w3
    have hw3 := below_drewN HW2.out nq
    rw [hW3] at hw3
    clear hc2 hf2 hz2 z0 z1 hW3 HW2
    have HW3 := Lib.hid hw3
    obtain ⟨hc3, hf3⟩ := bcell hw3
    have hz3 := hw3.size
    simp at hz3
    have z0 : w.heap.size < w3.heap.size := by omega
    have z1 : w.heap.size + 1 < w3.heap.size := by omega
    have HX2 := Lib.hid (HXB.out.new' hw3)
    have HS2 := Lib.hid (HSB.out.new' hw3)
    have HWW : Hid (Below w.heap.size w w3) := Lib.hid (Below.trans (by exact (by repeat (first | exact Below.refl _ _ | assumption | refine Below.setCell ?_ (by first | (simp; done) | (simp; omega) | omega) _ | refine below_drewN ?_ _ | refine Below.drew ?_ | refine Below.alloc ?_ (by first | (simp; done) | (simp; omega) | omega) _))) (hw3.mono (by simp; omega)))
    clear hw3
    go_wp2_with ((with_reducible refine (with_any (HBL.out.new (HWW.out.trans ((show Below w3.heap.size w3 _ from (by exact (by repeat (first | exact Below.refl _ _ | assumption | refine Below.setCell ?_ (by first | (simp; done) | (simp; omega) | omega) _ | refine below_drewN ?_ _ | refine Below.drew ?_ | refine Below.alloc ?_ (by first | (simp; done) | (simp; omega) | omega) _)))).mono HWW.out.size))) (by omega) a h).mono ?_); rintro e w4 ⟨hw4, A3, n3, c3, rfl, hb3, hn3⟩; have hw24 : Below w3.heap.size w3 w4 := Below.trans (by exact (by repeat (first | exact Below.refl _ _ | assumption | refine Below.setCell ?_ (by first | (simp; done) | (simp; omega) | omega) _ | refine below_drewN ?_ _ | refine Below.drew ?_ | refine Below.alloc ?_ (by first | (simp; done) | (simp; omega) | omega) _))) (hw4.mono (by simp)); have HW24 := Lib.hid hw24; have hnx := (Blk.new _ 41 _).below hw4 (by simp); have HB3 := Lib.hid hb3; have HN3 := Lib.hid hn3; have hx4 := HX2.out.new' hw24; have hs4 := HS2.out.new' hw24; have x0 := hx4.cell 0; have x1 := hx4.cell 1; have xl := hx4.lt; have t0 := hs4.cell 0; have t1 := hs4.cell 1; have tl := hs4.lt; have n0 := hnx.cell 0; have n1 := hnx.cell 1; have nl := hnx.lt; have nf := hnx.frozen 1; simp only [List.getElem?_toArray, List.getElem?_cons_zero, List.getElem?_cons_succ] at x0 x1 t0 t1 n0 n1; clear hw4 hb3 hn3 hw24 hnx hx4 hs4)
    have HB5 := (HWW.out.trans (HW24.out.mono HWW.out.size)).setCell (p := ⟨w3.heap.size, 1, none⟩) (by have := HWW.out.size; simpa using this) (.slice A3 n3 c3)
    have HZ4 := HW24.out.size
    have HZ3 := HWW.out.size
    go_ret2
    have HB6 := HB5.alloc (by simp [World.setCell]; omega) (.cells #[.int .i64 ((i : Int) + 1), .int .i64 (h - T + lv), .slice A3 n3 c3, .int .i64 a, .int .i64 (h + 1), .slice (some ⟨bb, bo, none⟩) nb cb] 50)
    exact ⟨HB6, _, _, _, rfl, rways_two (BlAt.mod HB3.out (S := fun x => x = w3.heap.size) ((Mod.setCell (S := fun x => x = w3.heap.size) (p := ⟨w3.heap.size, 1, none⟩) (Mod.refl _ _) (fun _ => rfl) _).alloc _) (fun b o e hs => by have h5 := HN3.out b o e; simp at h5; omega)) (fun b o e => .inl (by have h5 := HN3.out b o e; simp at h5; omega)) (HBL.out.new HB6) (from_self _) rfl (by simp [World.setCell]), fun b o e => by cases e; omega⟩
end Go.Proofs.Ytgnejkmojfhfpaa
