/- The reference's Look: jumps. -/
import Derived.Test.YtgnejkmojfhfpaaRla
namespace Go.Proofs.Ytgnejkmojfhfpaa
open Go.RowKit
set_option linter.unusedVariables false
set_option linter.unusedSimpArgs false
set_option maxRecDepth 100000 in
set_option maxHeartbeats 4000000 in
theorem rlook_jump {w : World} {A Ab : Option Addr} {n k nb cb : Nat} {bl : List (Int × Int)} {op a T lv h : Int} {i : Nat}
    (hT : ∀ w', Below w.heap.size w w' → Calls Try.prog 19 #[.slice A n k, .agg #[.int .i64 op, .int .i64 a], .int .i64 h] w' (TkR w' T lv))
    (hT0 : 0 ≤ T ∧ T ≤ 281474976710656) (hh : 0 ≤ h ∧ h ≤ 70368744177664) (hlv : 0 ≤ lv ∧ lv ≤ 3) (hi : i ≤ 17592186044416) (hbl : BlAt w Ab nb cb bl) (hnb : nb ≤ 1099511627775) (hlow : ¬ h < T) (hblk : ∀ b ∈ bl.head?, ¬ h - T < b.2) (ho : op = 36) :
    Calls Try.prog 17 #[.slice A n k, .agg #[.int .i64 op, .int .i64 a], .int .i64 i, .agg #[.int .i64 h, .slice Ab nb cb]] w (LookRR w Ab (some [(a, ⟨h, bl⟩)])) := by
  have KT := Lib.hid hT
  have HBL := Lib.hid hbl
  clear hT
  have d0 : decide (h < T) = false := decide_eq_false hlow
  clear hlow 
  by_cases hnil : bl = []
  · clear hblk
    subst hnil
    obtain rfl : nb = 0 := by have := hbl.len; simp at this; omega
    clear hbl
    subst ho
    go_enter Try.func17, Try.ntmps17
    go_wp2_with ((with_reducible refine (KT.out _ (by exact (by repeat (first | exact Below.refl _ _ | assumption | refine Below.setCell ?_ (by first | (simp; done) | (simp; omega) | omega) _ | refine below_drewN ?_ _ | refine Below.drew ?_ | refine Below.alloc ?_ (by first | (simp; done) | (simp; omega) | omega) _)))).mono ?_); rintro e w2 ⟨rfl, hw2⟩; have HW2 := Lib.hid hw2; obtain ⟨hc2, hf2⟩ := bcell hw2; have hz2 := hw2.size; simp at hz2; have z0 : w.heap.size < w2.heap.size := (by omega); have z1 : w.heap.size + 1 < w2.heap.size := (by omega); clear hw2)
    go_quiet (fail)
    generalize hW3 : w2.drewN nq = w3
    have hw3 := below_drewN HW2.out nq
    rw [hW3] at hw3
    clear hc2 hf2 hz2 z0 z1 hW3 HW2
    have HW3 := Lib.hid hw3
    obtain ⟨hc3, hf3⟩ := bcell hw3
    have hz3 := hw3.size
    simp at hz3
    have z0 : w.heap.size < w3.heap.size := by omega
    have z1 : w.heap.size + 1 < w3.heap.size := by omega
    clear hw3
    go_wp2_with fail
    go_ret2
    exact ⟨(Below.trans (by exact (by repeat (first | exact Below.refl _ _ | assumption | refine Below.setCell ?_ (by first | (simp; done) | (simp; omega) | omega) _ | refine below_drewN ?_ _ | refine Below.drew ?_ | refine Below.alloc ?_ (by first | (simp; done) | (simp; omega) | omega) _))) ((HW3.out.mono (by simp; omega)).trans (by exact (by repeat (first | exact Below.refl _ _ | assumption | refine Below.setCell ?_ (by first | (simp; done) | (simp; omega) | omega) _ | refine below_drewN ?_ _ | refine Below.drew ?_ | refine Below.alloc ?_ (by first | (simp; done) | (simp; omega) | omega) _))))), _, _, _, rfl, rways_one (HBL.out.new (Below.trans (by exact (by repeat (first | exact Below.refl _ _ | assumption | refine Below.setCell ?_ (by first | (simp; done) | (simp; omega) | omega) _ | refine below_drewN ?_ _ | refine Below.drew ?_ | refine Below.alloc ?_ (by first | (simp; done) | (simp; omega) | omega) _))) ((HW3.out.mono (by simp; omega)).trans (by exact (by repeat (first | exact Below.refl _ _ | assumption | refine Below.setCell ?_ (by first | (simp; done) | (simp; omega) | omega) _ | refine below_drewN ?_ _ | refine Below.drew ?_ | refine Below.alloc ?_ (by first | (simp; done) | (simp; omega) | omega) _)))))) (from_self _) rfl (by simp), fun b o e => by cases e; (first | omega | (simp; omega))⟩
  · have hne : bl ≠ [] := hnil
    clear hnil
    have hbh : ∀ b ∈ bl.head?, ¬ h - T < b.2 := hblk
    clear hblk
    obtain ⟨⟨ba, bh⟩, r, rfl⟩ : ∃ b r, bl = b :: r := by
      cases bl with
      | nil => exact absurd rfl hne
      | cons b r => exact ⟨b, r, rfl⟩
    obtain ⟨m, hm⟩ : ∃ m, nb = m + 1 := ⟨nb - 1, by have := hbl.len; simp at this; omega⟩
    have hbl2 : BlAt w Ab (m + 1) cb ((ba, bh) :: r) := hm ▸ hbl
    obtain ⟨bb, bo, rfl, hbb, g0, g1⟩ := hbl2.top
    simp only at g0 g1
    have HPOP := Lib.hid hbl2.pop
    have m0 : m < nb := by omega
    have mc : m ≤ cb := by have := hbl.2.1; omega
    have m1 : 0 < nb := by omega
    have m2 : decide (0 < nb) = true := decide_eq_true m1
    have m3 : decide ((0 : Int) < (nb : Int)) = true := decide_eq_true (by omega)
    have m4 : ((nb : Int) == 0) = false := by simp; omega
    have HM := Lib.hid hm
    clear hne hbl hbl2 hm
    have hb0 : ¬ h - T < bh := hbh (ba, bh) (by simp)
    have d9 : decide (h - T < bh) = false := decide_eq_false hb0
    clear hbh hb0
    subst ho
    go_enter Try.func17, Try.ntmps17
    go_wp2_with ((with_reducible refine (KT.out _ (by exact (by repeat (first | exact Below.refl _ _ | assumption | refine Below.setCell ?_ (by first | (simp; done) | (simp; omega) | omega) _ | refine below_drewN ?_ _ | refine Below.drew ?_ | refine Below.alloc ?_ (by first | (simp; done) | (simp; omega) | omega) _)))).mono ?_); rintro e w2 ⟨rfl, hw2⟩; have HW2 := Lib.hid hw2; obtain ⟨hc2, hf2⟩ := bcell hw2; have hz2 := hw2.size; simp at hz2; have z0 : w.heap.size < w2.heap.size := (by omega); have z1 : w.heap.size + 1 < w2.heap.size := (by omega); have y9 : bb < w2.heap.size := (by omega); have hw9 : Below w.heap.size w w2 := Below.trans (by exact (by repeat (first | exact Below.refl _ _ | assumption | refine Below.setCell ?_ (by first | (simp; done) | (simp; omega) | omega) _ | refine below_drewN ?_ _ | refine Below.drew ?_ | refine Below.alloc ?_ (by first | (simp; done) | (simp; omega) | omega) _))) (hw2.mono (by simp; omega)); have y1 : w2.cell? ⟨bb, bo + m * 2 + 1, none⟩ = some (.int .i64 bh) := (hw9.cell (p := ⟨bb, bo + m * 2 + 1, none⟩) hbb).trans g1; clear hw9; clear hw2)
    have s8 : IntKind.i64.wrap (h - T) = h - T := IntWalk.i64_in _ (by omega)
    have s9 : IntKind.i64.wrap (m : Int) = (m : Int) := IntWalk.i64_in _ (by have := HM.out; omega)
    have s6 : (nb : Int) - 1 = (m : Int) := by have := HM.out; omega
    go_quiet (fail)
    clear s6 s8 s9
    clear y9 y1
    generalize hW3 : w2.drewN nq = w3
    have hw3 := below_drewN HW2.out nq
    rw [hW3] at hw3
    clear hc2 hf2 hz2 z0 z1 hW3 HW2
    have HW3 := Lib.hid hw3
    obtain ⟨hc3, hf3⟩ := bcell hw3
    have hz3 := hw3.size
    simp at hz3
    have z0 : w.heap.size < w3.heap.size := by omega
    have z1 : w.heap.size + 1 < w3.heap.size := by omega
    clear hw3
    go_wp2_with fail
    go_ret2
    exact ⟨(Below.trans (by exact (by repeat (first | exact Below.refl _ _ | assumption | refine Below.setCell ?_ (by first | (simp; done) | (simp; omega) | omega) _ | refine below_drewN ?_ _ | refine Below.drew ?_ | refine Below.alloc ?_ (by first | (simp; done) | (simp; omega) | omega) _))) ((HW3.out.mono (by simp; omega)).trans (by exact (by repeat (first | exact Below.refl _ _ | assumption | refine Below.setCell ?_ (by first | (simp; done) | (simp; omega) | omega) _ | refine below_drewN ?_ _ | refine Below.drew ?_ | refine Below.alloc ?_ (by first | (simp; done) | (simp; omega) | omega) _))))), _, _, _, rfl, rways_one (HBL.out.new (Below.trans (by exact (by repeat (first | exact Below.refl _ _ | assumption | refine Below.setCell ?_ (by first | (simp; done) | (simp; omega) | omega) _ | refine below_drewN ?_ _ | refine Below.drew ?_ | refine Below.alloc ?_ (by first | (simp; done) | (simp; omega) | omega) _))) ((HW3.out.mono (by simp; omega)).trans (by exact (by repeat (first | exact Below.refl _ _ | assumption | refine Below.setCell ?_ (by first | (simp; done) | (simp; omega) | omega) _ | refine below_drewN ?_ _ | refine Below.drew ?_ | refine Below.alloc ?_ (by first | (simp; done) | (simp; omega) | omega) _)))))) (from_self _) rfl (by simp), fun b o e => by cases e; (first | omega | (simp; omega))⟩
set_option maxRecDepth 100000 in
set_option maxHeartbeats 4000000 in
theorem rlook_both {w : World} {A Ab : Option Addr} {n k nb cb : Nat} {bl : List (Int × Int)} {op a T lv h : Int} {i : Nat}
    (hT : ∀ w', Below w.heap.size w w' → Calls Try.prog 19 #[.slice A n k, .agg #[.int .i64 op, .int .i64 a], .int .i64 h] w' (TkR w' T lv))
    (hT0 : 0 ≤ T ∧ T ≤ 281474976710656) (hh : 0 ≤ h ∧ h ≤ 70368744177664) (hlv : 0 ≤ lv ∧ lv ≤ 3) (hi : i ≤ 17592186044416) (hbl : BlAt w Ab nb cb bl) (hnb : nb ≤ 1099511627775) (hlow : ¬ h < T) (hblk : ∀ b ∈ bl.head?, ¬ h - T < b.2) (ho : op = 37 ∨ op = 38) :
    Calls Try.prog 17 #[.slice A n k, .agg #[.int .i64 op, .int .i64 a], .int .i64 i, .agg #[.int .i64 h, .slice Ab nb cb]] w (LookRR w Ab (some [((i : Int) + 1, ⟨h - T + lv, bl⟩), (a, ⟨h - T + lv, bl⟩)])) := by
  have KT := Lib.hid hT
  have HBL := Lib.hid hbl
  clear hT
  have d0 : decide (h < T) = false := decide_eq_false hlow
  clear hlow 
  by_cases hnil : bl = []
  · clear hblk
    subst hnil
    obtain rfl : nb = 0 := by have := hbl.len; simp at this; omega
    clear hbl
    rcases ho with rfl | rfl
    all_goals
      go_enter Try.func17, Try.ntmps17
      go_wp2_with ((with_reducible refine (KT.out _ (by exact (by repeat (first | exact Below.refl _ _ | assumption | refine Below.setCell ?_ (by first | (simp; done) | (simp; omega) | omega) _ | refine below_drewN ?_ _ | refine Below.drew ?_ | refine Below.alloc ?_ (by first | (simp; done) | (simp; omega) | omega) _)))).mono ?_); rintro e w2 ⟨rfl, hw2⟩; have HW2 := Lib.hid hw2; obtain ⟨hc2, hf2⟩ := bcell hw2; have hz2 := hw2.size; simp at hz2; have z0 : w.heap.size < w2.heap.size := (by omega); have z1 : w.heap.size + 1 < w2.heap.size := (by omega); clear hw2)
      go_quiet (fail)
      generalize hW3 : w2.drewN nq = w3
      have hw3 := below_drewN HW2.out nq
      rw [hW3] at hw3
      clear hc2 hf2 hz2 z0 z1 hW3 HW2
      have HW3 := Lib.hid hw3
      obtain ⟨hc3, hf3⟩ := bcell hw3
      have hz3 := hw3.size
      simp at hz3
      have z0 : w.heap.size < w3.heap.size := by omega
      have z1 : w.heap.size + 1 < w3.heap.size := by omega
      clear hw3
      go_wp2_with fail
      go_ret2
      exact ⟨(Below.trans (by exact (by repeat (first | exact Below.refl _ _ | assumption | refine Below.setCell ?_ (by first | (simp; done) | (simp; omega) | omega) _ | refine below_drewN ?_ _ | refine Below.drew ?_ | refine Below.alloc ?_ (by first | (simp; done) | (simp; omega) | omega) _))) ((HW3.out.mono (by simp; omega)).trans (by exact (by repeat (first | exact Below.refl _ _ | assumption | refine Below.setCell ?_ (by first | (simp; done) | (simp; omega) | omega) _ | refine below_drewN ?_ _ | refine Below.drew ?_ | refine Below.alloc ?_ (by first | (simp; done) | (simp; omega) | omega) _))))), _, _, _, rfl, rways_two (HBL.out.new (Below.trans (by exact (by repeat (first | exact Below.refl _ _ | assumption | refine Below.setCell ?_ (by first | (simp; done) | (simp; omega) | omega) _ | refine below_drewN ?_ _ | refine Below.drew ?_ | refine Below.alloc ?_ (by first | (simp; done) | (simp; omega) | omega) _))) ((HW3.out.mono (by simp; omega)).trans (by exact (by repeat (first | exact Below.refl _ _ | assumption | refine Below.setCell ?_ (by first | (simp; done) | (simp; omega) | omega) _ | refine below_drewN ?_ _ | refine Below.drew ?_ | refine Below.alloc ?_ (by first | (simp; done) | (simp; omega) | omega) _)))))) (from_self _) (HBL.out.new (Below.trans (by exact (by repeat (first | exact Below.refl _ _ | assumption | refine Below.setCell ?_ (by first | (simp; done) | (simp; omega) | omega) _ | refine below_drewN ?_ _ | refine Below.drew ?_ | refine Below.alloc ?_ (by first | (simp; done) | (simp; omega) | omega) _))) ((HW3.out.mono (by simp; omega)).trans (by exact (by repeat (first | exact Below.refl _ _ | assumption | refine Below.setCell ?_ (by first | (simp; done) | (simp; omega) | omega) _ | refine below_drewN ?_ _ | refine Below.drew ?_ | refine Below.alloc ?_ (by first | (simp; done) | (simp; omega) | omega) _)))))) (from_self _) rfl (by simp), fun b o e => by cases e; (first | omega | (simp; omega))⟩
  · have hne : bl ≠ [] := hnil
    clear hnil
    have hbh : ∀ b ∈ bl.head?, ¬ h - T < b.2 := hblk
    clear hblk
    obtain ⟨⟨ba, bh⟩, r, rfl⟩ : ∃ b r, bl = b :: r := by
      cases bl with
      | nil => exact absurd rfl hne
      | cons b r => exact ⟨b, r, rfl⟩
    obtain ⟨m, hm⟩ : ∃ m, nb = m + 1 := ⟨nb - 1, by have := hbl.len; simp at this; omega⟩
    have hbl2 : BlAt w Ab (m + 1) cb ((ba, bh) :: r) := hm ▸ hbl
    obtain ⟨bb, bo, rfl, hbb, g0, g1⟩ := hbl2.top
    simp only at g0 g1
    have HPOP := Lib.hid hbl2.pop
    have m0 : m < nb := by omega
    have mc : m ≤ cb := by have := hbl.2.1; omega
    have m1 : 0 < nb := by omega
    have m2 : decide (0 < nb) = true := decide_eq_true m1
    have m3 : decide ((0 : Int) < (nb : Int)) = true := decide_eq_true (by omega)
    have m4 : ((nb : Int) == 0) = false := by simp; omega
    have HM := Lib.hid hm
    clear hne hbl hbl2 hm
    have hb0 : ¬ h - T < bh := hbh (ba, bh) (by simp)
    have d9 : decide (h - T < bh) = false := decide_eq_false hb0
    clear hbh hb0
    rcases ho with rfl | rfl
    all_goals
      go_enter Try.func17, Try.ntmps17
      go_wp2_with ((with_reducible refine (KT.out _ (by exact (by repeat (first | exact Below.refl _ _ | assumption | refine Below.setCell ?_ (by first | (simp; done) | (simp; omega) | omega) _ | refine below_drewN ?_ _ | refine Below.drew ?_ | refine Below.alloc ?_ (by first | (simp; done) | (simp; omega) | omega) _)))).mono ?_); rintro e w2 ⟨rfl, hw2⟩; have HW2 := Lib.hid hw2; obtain ⟨hc2, hf2⟩ := bcell hw2; have hz2 := hw2.size; simp at hz2; have z0 : w.heap.size < w2.heap.size := (by omega); have z1 : w.heap.size + 1 < w2.heap.size := (by omega); have y9 : bb < w2.heap.size := (by omega); have hw9 : Below w.heap.size w w2 := Below.trans (by exact (by repeat (first | exact Below.refl _ _ | assumption | refine Below.setCell ?_ (by first | (simp; done) | (simp; omega) | omega) _ | refine below_drewN ?_ _ | refine Below.drew ?_ | refine Below.alloc ?_ (by first | (simp; done) | (simp; omega) | omega) _))) (hw2.mono (by simp; omega)); have y1 : w2.cell? ⟨bb, bo + m * 2 + 1, none⟩ = some (.int .i64 bh) := (hw9.cell (p := ⟨bb, bo + m * 2 + 1, none⟩) hbb).trans g1; clear hw9; clear hw2)
      have s8 : IntKind.i64.wrap (h - T) = h - T := IntWalk.i64_in _ (by omega)
      have s9 : IntKind.i64.wrap (m : Int) = (m : Int) := IntWalk.i64_in _ (by have := HM.out; omega)
      have s6 : (nb : Int) - 1 = (m : Int) := by have := HM.out; omega
      go_quiet (fail)
      clear s6 s8 s9
      clear y9 y1
      generalize hW3 : w2.drewN nq = w3
      have hw3 := below_drewN HW2.out nq
      rw [hW3] at hw3
      clear hc2 hf2 hz2 z0 z1 hW3 HW2
      have HW3 := Lib.hid hw3
      obtain ⟨hc3, hf3⟩ := bcell hw3
      have hz3 := hw3.size
      simp at hz3
      have z0 : w.heap.size < w3.heap.size := by omega
      have z1 : w.heap.size + 1 < w3.heap.size := by omega
      clear hw3
      go_wp2_with fail
      go_ret2
      exact ⟨(Below.trans (by exact (by repeat (first | exact Below.refl _ _ | assumption | refine Below.setCell ?_ (by first | (simp; done) | (simp; omega) | omega) _ | refine below_drewN ?_ _ | refine Below.drew ?_ | refine Below.alloc ?_ (by first | (simp; done) | (simp; omega) | omega) _))) ((HW3.out.mono (by simp; omega)).trans (by exact (by repeat (first | exact Below.refl _ _ | assumption | refine Below.setCell ?_ (by first | (simp; done) | (simp; omega) | omega) _ | refine below_drewN ?_ _ | refine Below.drew ?_ | refine Below.alloc ?_ (by first | (simp; done) | (simp; omega) | omega) _))))), _, _, _, rfl, rways_two (HBL.out.new (Below.trans (by exact (by repeat (first | exact Below.refl _ _ | assumption | refine Below.setCell ?_ (by first | (simp; done) | (simp; omega) | omega) _ | refine below_drewN ?_ _ | refine Below.drew ?_ | refine Below.alloc ?_ (by first | (simp; done) | (simp; omega) | omega) _))) ((HW3.out.mono (by simp; omega)).trans (by exact (by repeat (first | exact Below.refl _ _ | assumption | refine Below.setCell ?_ (by first | (simp; done) | (simp; omega) | omega) _ | refine below_drewN ?_ _ | refine Below.drew ?_ | refine Below.alloc ?_ (by first | (simp; done) | (simp; omega) | omega) _)))))) (from_self _) (HBL.out.new (Below.trans (by exact (by repeat (first | exact Below.refl _ _ | assumption | refine Below.setCell ?_ (by first | (simp; done) | (simp; omega) | omega) _ | refine below_drewN ?_ _ | refine Below.drew ?_ | refine Below.alloc ?_ (by first | (simp; done) | (simp; omega) | omega) _))) ((HW3.out.mono (by simp; omega)).trans (by exact (by repeat (first | exact Below.refl _ _ | assumption | refine Below.setCell ?_ (by first | (simp; done) | (simp; omega) | omega) _ | refine below_drewN ?_ _ | refine Below.drew ?_ | refine Below.alloc ?_ (by first | (simp; done) | (simp; omega) | omega) _)))))) (from_self _) rfl (by simp), fun b o e => by cases e; (first | omega | (simp; omega))⟩
set_option maxRecDepth 100000 in
set_option maxHeartbeats 4000000 in
theorem rlook_next {w : World} {A Ab : Option Addr} {n k nb cb : Nat} {bl : List (Int × Int)} {op a T lv h : Int} {i : Nat}
    (hT : ∀ w', Below w.heap.size w w' → Calls Try.prog 19 #[.slice A n k, .agg #[.int .i64 op, .int .i64 a], .int .i64 h] w' (TkR w' T lv))
    (hT0 : 0 ≤ T ∧ T ≤ 281474976710656) (hh : 0 ≤ h ∧ h ≤ 70368744177664) (hlv : 0 ≤ lv ∧ lv ≤ 3) (hi : i ≤ 17592186044416) (hbl : BlAt w Ab nb cb bl) (hnb : nb ≤ 1099511627775) (hlow : ¬ h < T) (hblk : ∀ b ∈ bl.head?, ¬ h - T < b.2) (ho : op = 42) :
    Calls Try.prog 17 #[.slice A n k, .agg #[.int .i64 op, .int .i64 a], .int .i64 i, .agg #[.int .i64 h, .slice Ab nb cb]] w (LookRR w Ab (some [((i : Int) + 1, ⟨h - T + lv, bl⟩), (a, ⟨h - 1, bl⟩)])) := by
  have KT := Lib.hid hT
  have HBL := Lib.hid hbl
  clear hT
  have d0 : decide (h < T) = false := decide_eq_false hlow
  clear hlow 
  by_cases hnil : bl = []
  · clear hblk
    subst hnil
    obtain rfl : nb = 0 := by have := hbl.len; simp at this; omega
    clear hbl
    subst ho
    go_enter Try.func17, Try.ntmps17
    go_wp2_with ((with_reducible refine (KT.out _ (by exact (by repeat (first | exact Below.refl _ _ | assumption | refine Below.setCell ?_ (by first | (simp; done) | (simp; omega) | omega) _ | refine below_drewN ?_ _ | refine Below.drew ?_ | refine Below.alloc ?_ (by first | (simp; done) | (simp; omega) | omega) _)))).mono ?_); rintro e w2 ⟨rfl, hw2⟩; have HW2 := Lib.hid hw2; obtain ⟨hc2, hf2⟩ := bcell hw2; have hz2 := hw2.size; simp at hz2; have z0 : w.heap.size < w2.heap.size := (by omega); have z1 : w.heap.size + 1 < w2.heap.size := (by omega); clear hw2)
    go_quiet (fail)
    generalize hW3 : w2.drewN nq = w3
    have hw3 := below_drewN HW2.out nq
    rw [hW3] at hw3
    clear hc2 hf2 hz2 z0 z1 hW3 HW2
    have HW3 := Lib.hid hw3
    obtain ⟨hc3, hf3⟩ := bcell hw3
    have hz3 := hw3.size
    simp at hz3
    have z0 : w.heap.size < w3.heap.size := by omega
    have z1 : w.heap.size + 1 < w3.heap.size := by omega
    clear hw3
    go_wp2_with fail
    go_ret2
    exact ⟨(Below.trans (by exact (by repeat (first | exact Below.refl _ _ | assumption | refine Below.setCell ?_ (by first | (simp; done) | (simp; omega) | omega) _ | refine below_drewN ?_ _ | refine Below.drew ?_ | refine Below.alloc ?_ (by first | (simp; done) | (simp; omega) | omega) _))) ((HW3.out.mono (by simp; omega)).trans (by exact (by repeat (first | exact Below.refl _ _ | assumption | refine Below.setCell ?_ (by first | (simp; done) | (simp; omega) | omega) _ | refine below_drewN ?_ _ | refine Below.drew ?_ | refine Below.alloc ?_ (by first | (simp; done) | (simp; omega) | omega) _))))), _, _, _, rfl, rways_two (HBL.out.new (Below.trans (by exact (by repeat (first | exact Below.refl _ _ | assumption | refine Below.setCell ?_ (by first | (simp; done) | (simp; omega) | omega) _ | refine below_drewN ?_ _ | refine Below.drew ?_ | refine Below.alloc ?_ (by first | (simp; done) | (simp; omega) | omega) _))) ((HW3.out.mono (by simp; omega)).trans (by exact (by repeat (first | exact Below.refl _ _ | assumption | refine Below.setCell ?_ (by first | (simp; done) | (simp; omega) | omega) _ | refine below_drewN ?_ _ | refine Below.drew ?_ | refine Below.alloc ?_ (by first | (simp; done) | (simp; omega) | omega) _)))))) (from_self _) (HBL.out.new (Below.trans (by exact (by repeat (first | exact Below.refl _ _ | assumption | refine Below.setCell ?_ (by first | (simp; done) | (simp; omega) | omega) _ | refine below_drewN ?_ _ | refine Below.drew ?_ | refine Below.alloc ?_ (by first | (simp; done) | (simp; omega) | omega) _))) ((HW3.out.mono (by simp; omega)).trans (by exact (by repeat (first | exact Below.refl _ _ | assumption | refine Below.setCell ?_ (by first | (simp; done) | (simp; omega) | omega) _ | refine below_drewN ?_ _ | refine Below.drew ?_ | refine Below.alloc ?_ (by first | (simp; done) | (simp; omega) | omega) _)))))) (from_self _) rfl (by simp), fun b o e => by cases e; (first | omega | (simp; omega))⟩
  · have hne : bl ≠ [] := hnil
    clear hnil
    have hbh : ∀ b ∈ bl.head?, ¬ h - T < b.2 := hblk
    clear hblk
    obtain ⟨⟨ba, bh⟩, r, rfl⟩ : ∃ b r, bl = b :: r := by
      cases bl with
      | nil => exact absurd rfl hne
      | cons b r => exact ⟨b, r, rfl⟩
    obtain ⟨m, hm⟩ : ∃ m, nb = m + 1 := ⟨nb - 1, by have := hbl.len; simp at this; omega⟩
    have hbl2 : BlAt w Ab (m + 1) cb ((ba, bh) :: r) := hm ▸ hbl
    obtain ⟨bb, bo, rfl, hbb, g0, g1⟩ := hbl2.top
    simp only at g0 g1
    have HPOP := Lib.hid hbl2.pop
    have m0 : m < nb := by omega
    have mc : m ≤ cb := by have := hbl.2.1; omega
    have m1 : 0 < nb := by omega
    have m2 : decide (0 < nb) = true := decide_eq_true m1
    have m3 : decide ((0 : Int) < (nb : Int)) = true := decide_eq_true (by omega)
    have m4 : ((nb : Int) == 0) = false := by simp; omega
    have HM := Lib.hid hm
    clear hne hbl hbl2 hm
    have hb0 : ¬ h - T < bh := hbh (ba, bh) (by simp)
    have d9 : decide (h - T < bh) = false := decide_eq_false hb0
    clear hbh hb0
    subst ho
    go_enter Try.func17, Try.ntmps17
    go_wp2_with ((with_reducible refine (KT.out _ (by exact (by repeat (first | exact Below.refl _ _ | assumption | refine Below.setCell ?_ (by first | (simp; done) | (simp; omega) | omega) _ | refine below_drewN ?_ _ | refine Below.drew ?_ | refine Below.alloc ?_ (by first | (simp; done) | (simp; omega) | omega) _)))).mono ?_); rintro e w2 ⟨rfl, hw2⟩; have HW2 := Lib.hid hw2; obtain ⟨hc2, hf2⟩ := bcell hw2; have hz2 := hw2.size; simp at hz2; have z0 : w.heap.size < w2.heap.size := (by omega); have z1 : w.heap.size + 1 < w2.heap.size := (by omega); have y9 : bb < w2.heap.size := (by omega); have hw9 : Below w.heap.size w w2 := Below.trans (by exact (by repeat (first | exact Below.refl _ _ | assumption | refine Below.setCell ?_ (by first | (simp; done) | (simp; omega) | omega) _ | refine below_drewN ?_ _ | refine Below.drew ?_ | refine Below.alloc ?_ (by first | (simp; done) | (simp; omega) | omega) _))) (hw2.mono (by simp; omega)); have y1 : w2.cell? ⟨bb, bo + m * 2 + 1, none⟩ = some (.int .i64 bh) := (hw9.cell (p := ⟨bb, bo + m * 2 + 1, none⟩) hbb).trans g1; clear hw9; clear hw2)
    have s8 : IntKind.i64.wrap (h - T) = h - T := IntWalk.i64_in _ (by omega)
    have s9 : IntKind.i64.wrap (m : Int) = (m : Int) := IntWalk.i64_in _ (by have := HM.out; omega)
    have s6 : (nb : Int) - 1 = (m : Int) := by have := HM.out; omega
    go_quiet (fail)
    clear s6 s8 s9
    clear y9 y1
    generalize hW3 : w2.drewN nq = w3
    have hw3 := below_drewN HW2.out nq
    rw [hW3] at hw3
    clear hc2 hf2 hz2 z0 z1 hW3 HW2
    have HW3 := Lib.hid hw3
    obtain ⟨hc3, hf3⟩ := bcell hw3
    have hz3 := hw3.size
    simp at hz3
    have z0 : w.heap.size < w3.heap.size := by omega
    have z1 : w.heap.size + 1 < w3.heap.size := by omega
    clear hw3
    go_wp2_with fail
    go_ret2
    exact ⟨(Below.trans (by exact (by repeat (first | exact Below.refl _ _ | assumption | refine Below.setCell ?_ (by first | (simp; done) | (simp; omega) | omega) _ | refine below_drewN ?_ _ | refine Below.drew ?_ | refine Below.alloc ?_ (by first | (simp; done) | (simp; omega) | omega) _))) ((HW3.out.mono (by simp; omega)).trans (by exact (by repeat (first | exact Below.refl _ _ | assumption | refine Below.setCell ?_ (by first | (simp; done) | (simp; omega) | omega) _ | refine below_drewN ?_ _ | refine Below.drew ?_ | refine Below.alloc ?_ (by first | (simp; done) | (simp; omega) | omega) _))))), _, _, _, rfl, rways_two (HBL.out.new (Below.trans (by exact (by repeat (first | exact Below.refl _ _ | assumption | refine Below.setCell ?_ (by first | (simp; done) | (simp; omega) | omega) _ | refine below_drewN ?_ _ | refine Below.drew ?_ | refine Below.alloc ?_ (by first | (simp; done) | (simp; omega) | omega) _))) ((HW3.out.mono (by simp; omega)).trans (by exact (by repeat (first | exact Below.refl _ _ | assumption | refine Below.setCell ?_ (by first | (simp; done) | (simp; omega) | omega) _ | refine below_drewN ?_ _ | refine Below.drew ?_ | refine Below.alloc ?_ (by first | (simp; done) | (simp; omega) | omega) _)))))) (from_self _) (HBL.out.new (Below.trans (by exact (by repeat (first | exact Below.refl _ _ | assumption | refine Below.setCell ?_ (by first | (simp; done) | (simp; omega) | omega) _ | refine below_drewN ?_ _ | refine Below.drew ?_ | refine Below.alloc ?_ (by first | (simp; done) | (simp; omega) | omega) _))) ((HW3.out.mono (by simp; omega)).trans (by exact (by repeat (first | exact Below.refl _ _ | assumption | refine Below.setCell ?_ (by first | (simp; done) | (simp; omega) | omega) _ | refine below_drewN ?_ _ | refine Below.drew ?_ | refine Below.alloc ?_ (by first | (simp; done) | (simp; omega) | omega) _)))))) (from_self _) rfl (by simp), fun b o e => by cases e; (first | omega | (simp; omega))⟩
set_option maxRecDepth 100000 in
set_option maxHeartbeats 4000000 in
theorem rlook_keep {w : World} {A Ab : Option Addr} {n k nb cb : Nat} {bl : List (Int × Int)} {op a T lv h : Int} {i : Nat}
    (hT : ∀ w', Below w.heap.size w w' → Calls Try.prog 19 #[.slice A n k, .agg #[.int .i64 op, .int .i64 a], .int .i64 h] w' (TkR w' T lv))
    (hT0 : 0 ≤ T ∧ T ≤ 281474976710656) (hh : 0 ≤ h ∧ h ≤ 70368744177664) (hlv : 0 ≤ lv ∧ lv ≤ 3) (hi : i ≤ 17592186044416) (hbl : BlAt w Ab nb cb bl) (hnb : nb ≤ 1099511627775) (hlow : ¬ h < T) (hblk : ∀ b ∈ bl.head?, ¬ h - T < b.2) (ho : op = 39 ∨ op = 40) :
    Calls Try.prog 17 #[.slice A n k, .agg #[.int .i64 op, .int .i64 a], .int .i64 i, .agg #[.int .i64 h, .slice Ab nb cb]] w (LookRR w Ab (some [((i : Int) + 1, ⟨h - T + lv, bl⟩), (a, ⟨h, bl⟩)])) := by
  have KT := Lib.hid hT
  have HBL := Lib.hid hbl
  clear hT
  have d0 : decide (h < T) = false := decide_eq_false hlow
  clear hlow 
  by_cases hnil : bl = []
  · clear hblk
    subst hnil
    obtain rfl : nb = 0 := by have := hbl.len; simp at this; omega
    clear hbl
    rcases ho with rfl | rfl
    all_goals
      go_enter Try.func17, Try.ntmps17
      go_wp2_with ((with_reducible refine (KT.out _ (by exact (by repeat (first | exact Below.refl _ _ | assumption | refine Below.setCell ?_ (by first | (simp; done) | (simp; omega) | omega) _ | refine below_drewN ?_ _ | refine Below.drew ?_ | refine Below.alloc ?_ (by first | (simp; done) | (simp; omega) | omega) _)))).mono ?_); rintro e w2 ⟨rfl, hw2⟩; have HW2 := Lib.hid hw2; obtain ⟨hc2, hf2⟩ := bcell hw2; have hz2 := hw2.size; simp at hz2; have z0 : w.heap.size < w2.heap.size := (by omega); have z1 : w.heap.size + 1 < w2.heap.size := (by omega); clear hw2)
      go_quiet (fail)
      generalize hW3 : w2.drewN nq = w3
      have hw3 := below_drewN HW2.out nq
      rw [hW3] at hw3
      clear hc2 hf2 hz2 z0 z1 hW3 HW2
      have HW3 := Lib.hid hw3
      obtain ⟨hc3, hf3⟩ := bcell hw3
      have hz3 := hw3.size
      simp at hz3
      have z0 : w.heap.size < w3.heap.size := by omega
      have z1 : w.heap.size + 1 < w3.heap.size := by omega
      clear hw3
      go_wp2_with fail
      go_ret2
      exact ⟨(Below.trans (by exact (by repeat (first | exact Below.refl _ _ | assumption | refine Below.setCell ?_ (by first | (simp; done) | (simp; omega) | omega) _ | refine below_drewN ?_ _ | refine Below.drew ?_ | refine Below.alloc ?_ (by first | (simp; done) | (simp; omega) | omega) _))) ((HW3.out.mono (by simp; omega)).trans (by exact (by repeat (first | exact Below.refl _ _ | assumption | refine Below.setCell ?_ (by first | (simp; done) | (simp; omega) | omega) _ | refine below_drewN ?_ _ | refine Below.drew ?_ | refine Below.alloc ?_ (by first | (simp; done) | (simp; omega) | omega) _))))), _, _, _, rfl, rways_two (HBL.out.new (Below.trans (by exact (by repeat (first | exact Below.refl _ _ | assumption | refine Below.setCell ?_ (by first | (simp; done) | (simp; omega) | omega) _ | refine below_drewN ?_ _ | refine Below.drew ?_ | refine Below.alloc ?_ (by first | (simp; done) | (simp; omega) | omega) _))) ((HW3.out.mono (by simp; omega)).trans (by exact (by repeat (first | exact Below.refl _ _ | assumption | refine Below.setCell ?_ (by first | (simp; done) | (simp; omega) | omega) _ | refine below_drewN ?_ _ | refine Below.drew ?_ | refine Below.alloc ?_ (by first | (simp; done) | (simp; omega) | omega) _)))))) (from_self _) (HBL.out.new (Below.trans (by exact (by repeat (first | exact Below.refl _ _ | assumption | refine Below.setCell ?_ (by first | (simp; done) | (simp; omega) | omega) _ | refine below_drewN ?_ _ | refine Below.drew ?_ | refine Below.alloc ?_ (by first | (simp; done) | (simp; omega) | omega) _))) ((HW3.out.mono (by simp; omega)).trans (by exact (by repeat (first | exact Below.refl _ _ | assumption | refine Below.setCell ?_ (by first | (simp; done) | (simp; omega) | omega) _ | refine below_drewN ?_ _ | refine Below.drew ?_ | refine Below.alloc ?_ (by first | (simp; done) | (simp; omega) | omega) _)))))) (from_self _) rfl (by simp), fun b o e => by cases e; (first | omega | (simp; omega))⟩
  · have hne : bl ≠ [] := hnil
    clear hnil
    have hbh : ∀ b ∈ bl.head?, ¬ h - T < b.2 := hblk
    clear hblk
    obtain ⟨⟨ba, bh⟩, r, rfl⟩ : ∃ b r, bl = b :: r := by
      cases bl with
      | nil => exact absurd rfl hne
      | cons b r => exact ⟨b, r, rfl⟩
    obtain ⟨m, hm⟩ : ∃ m, nb = m + 1 := ⟨nb - 1, by have := hbl.len; simp at this; omega⟩
    have hbl2 : BlAt w Ab (m + 1) cb ((ba, bh) :: r) := hm ▸ hbl
    obtain ⟨bb, bo, rfl, hbb, g0, g1⟩ := hbl2.top
    simp only at g0 g1
    have HPOP := Lib.hid hbl2.pop
    have m0 : m < nb := by omega
    have mc : m ≤ cb := by have := hbl.2.1; omega
    have m1 : 0 < nb := by omega
    have m2 : decide (0 < nb) = true := decide_eq_true m1
    have m3 : decide ((0 : Int) < (nb : Int)) = true := decide_eq_true (by omega)
    have m4 : ((nb : Int) == 0) = false := by simp; omega
    have HM := Lib.hid hm
    clear hne hbl hbl2 hm
    have hb0 : ¬ h - T < bh := hbh (ba, bh) (by simp)
    have d9 : decide (h - T < bh) = false := decide_eq_false hb0
    clear hbh hb0
    rcases ho with rfl | rfl
    all_goals
      go_enter Try.func17, Try.ntmps17
      go_wp2_with ((with_reducible refine (KT.out _ (by exact (by repeat (first | exact Below.refl _ _ | assumption | refine Below.setCell ?_ (by first | (simp; done) | (simp; omega) | omega) _ | refine below_drewN ?_ _ | refine Below.drew ?_ | refine Below.alloc ?_ (by first | (simp; done) | (simp; omega) | omega) _)))).mono ?_); rintro e w2 ⟨rfl, hw2⟩; have HW2 := Lib.hid hw2; obtain ⟨hc2, hf2⟩ := bcell hw2; have hz2 := hw2.size; simp at hz2; have z0 : w.heap.size < w2.heap.size := (by omega); have z1 : w.heap.size + 1 < w2.heap.size := (by omega); have y9 : bb < w2.heap.size := (by omega); have hw9 : Below w.heap.size w w2 := Below.trans (by exact (by repeat (first | exact Below.refl _ _ | assumption | refine Below.setCell ?_ (by first | (simp; done) | (simp; omega) | omega) _ | refine below_drewN ?_ _ | refine Below.drew ?_ | refine Below.alloc ?_ (by first | (simp; done) | (simp; omega) | omega) _))) (hw2.mono (by simp; omega)); have y1 : w2.cell? ⟨bb, bo + m * 2 + 1, none⟩ = some (.int .i64 bh) := (hw9.cell (p := ⟨bb, bo + m * 2 + 1, none⟩) hbb).trans g1; clear hw9; clear hw2)
      have s8 : IntKind.i64.wrap (h - T) = h - T := IntWalk.i64_in _ (by omega)
      have s9 : IntKind.i64.wrap (m : Int) = (m : Int) := IntWalk.i64_in _ (by have := HM.out; omega)
      have s6 : (nb : Int) - 1 = (m : Int) := by have := HM.out; omega
      go_quiet (fail)
      clear s6 s8 s9
      clear y9 y1
      generalize hW3 : w2.drewN nq = w3
      have hw3 := below_drewN HW2.out nq
      rw [hW3] at hw3
      clear hc2 hf2 hz2 z0 z1 hW3 HW2
      have HW3 := Lib.hid hw3
      obtain ⟨hc3, hf3⟩ := bcell hw3
      have hz3 := hw3.size
      simp at hz3
      have z0 : w.heap.size < w3.heap.size := by omega
      have z1 : w.heap.size + 1 < w3.heap.size := by omega
      clear hw3
      go_wp2_with fail
      go_ret2
      exact ⟨(Below.trans (by exact (by repeat (first | exact Below.refl _ _ | assumption | refine Below.setCell ?_ (by first | (simp; done) | (simp; omega) | omega) _ | refine below_drewN ?_ _ | refine Below.drew ?_ | refine Below.alloc ?_ (by first | (simp; done) | (simp; omega) | omega) _))) ((HW3.out.mono (by simp; omega)).trans (by exact (by repeat (first | exact Below.refl _ _ | assumption | refine Below.setCell ?_ (by first | (simp; done) | (simp; omega) | omega) _ | refine below_drewN ?_ _ | refine Below.drew ?_ | refine Below.alloc ?_ (by first | (simp; done) | (simp; omega) | omega) _))))), _, _, _, rfl, rways_two (HBL.out.new (Below.trans (by exact (by repeat (first | exact Below.refl _ _ | assumption | refine Below.setCell ?_ (by first | (simp; done) | (simp; omega) | omega) _ | refine below_drewN ?_ _ | refine Below.drew ?_ | refine Below.alloc ?_ (by first | (simp; done) | (simp; omega) | omega) _))) ((HW3.out.mono (by simp; omega)).trans (by exact (by repeat (first | exact Below.refl _ _ | assumption | refine Below.setCell ?_ (by first | (simp; done) | (simp; omega) | omega) _ | refine below_drewN ?_ _ | refine Below.drew ?_ | refine Below.alloc ?_ (by first | (simp; done) | (simp; omega) | omega) _)))))) (from_self _) (HBL.out.new (Below.trans (by exact (by repeat (first | exact Below.refl _ _ | assumption | refine Below.setCell ?_ (by first | (simp; done) | (simp; omega) | omega) _ | refine below_drewN ?_ _ | refine Below.drew ?_ | refine Below.alloc ?_ (by first | (simp; done) | (simp; omega) | omega) _))) ((HW3.out.mono (by simp; omega)).trans (by exact (by repeat (first | exact Below.refl _ _ | assumption | refine Below.setCell ?_ (by first | (simp; done) | (simp; omega) | omega) _ | refine below_drewN ?_ _ | refine Below.drew ?_ | refine Below.alloc ?_ (by first | (simp; done) | (simp; omega) | omega) _)))))) (from_self _) rfl (by simp), fun b o e => by cases e; (first | omega | (simp; omega))⟩
end Go.Proofs.Ytgnejkmojfhfpaa
