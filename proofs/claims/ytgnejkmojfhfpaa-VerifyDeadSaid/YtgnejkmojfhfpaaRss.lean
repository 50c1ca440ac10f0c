/- The reference's SameState. -/
import Derived.Test.YtgnejkmojfhfpaaRwi
import Derived.Laws.StructEq
import Derived.Deep.QuietTactic
import Derived.BigQuiet
namespace Go.Proofs.Ytgnejkmojfhfpaa
open Go.RowKit
set_option linter.unusedVariables false
set_option linter.unusedSimpArgs false

theorem BlAt.at_ {w : World} {A : Option Addr} {n c : Nat} {bl : List (Int × Int)} (h : BlAt w A n c bl) {i : Nat} {x : Int × Int} (hx : bl.reverse[i]? = some x) :
    ∃ b o, A = some ⟨b, o, none⟩ ∧ b < w.heap.size ∧ w.cell? ⟨b, o + i * 2, none⟩ = some (.int .i64 x.1) ∧ w.cell? ⟨b, o + i * 2 + 1, none⟩ = some (.int .i64 x.2) := by
  obtain ⟨b, o, e, hb, hc⟩ := RdF.at_ (f := blkCs) (m := 2) (fun _ => rfl) h hx
  exact ⟨b, o, e, hb, hc 0 _ rfl, hc 1 _ rfl⟩
/-- the same state? -/
def sameR (a b : St) : Bool := decide (a = b)
theorem sameR_h {h1 h2 : Int} {l1 l2 : List (Int × Int)} (h : h1 ≠ h2) : sameR ⟨h1, l1⟩ ⟨h2, l2⟩ = false := decide_eq_false (by simp [h])
theorem take_eq {α : Type} {xs ys : List α} {k : Nat} {x : α} (h : xs.take k = ys.take k) (hx : xs[k]? = some x) (hy : ys[k]? = some x) : xs.take (k + 1) = ys.take (k + 1) := by
  rw [List.take_add_one, List.take_add_one, h, hx, hy]
set_option maxRecDepth 100000 in
set_option maxHeartbeats 4000000 in
theorem samestate_any {w : World} {A B : Option Addr} {n c m d : Nat} {l1 l2 : List (Int × Int)} {h1 h2 : Int} (hA : BlAt w A n c l1) (hB : BlAt w B m d l2) :
    Calls Try.prog 59 #[.agg #[.int .i64 h1, .slice A n c], .agg #[.int .i64 h2, .slice B m d]] w fun e w' => e = .returned (.bool (sameR ⟨h1, l1⟩ ⟨h2, l2⟩)) ∧ Below w.heap.size w w' := by
  have hn := RdF.le hA
  have hm := RdF.le hB
  have HA := Lib.hid hA
  have HB := Lib.hid hB
  have lA := Lib.hid hA.1
  have lB := Lib.hid hB.1
  clear hA hB
  by_cases hh : h1 = h2
  case neg =>
    have hh1 : (h1 == h2) = false := by simpa using hh
    have hh2 : (h1 != h2) = true := by simpa using hh
    rw [sameR_h hh]
    clear hh
    go_enter Try.func59, Try.ntmps59
    go_wp2_with fail
    go_ret
    exact ⟨rfl, (by repeat (first | exact Below.refl _ _ | assumption | refine Below.setCell ?_ (by first | (simp; done) | (simp; omega) | omega) _ | refine below_drewN ?_ _ | refine Below.drew ?_ | refine Below.alloc ?_ (by first | (simp; done) | (simp; omega) | omega) _))⟩
  subst hh
  by_cases hnm : n = m
  case neg =>
    have hd : decide ((n : Int) = (m : Int)) = false := by simp; omega
    have HF : Hid (sameR ⟨h1, l1⟩ ⟨h1, l2⟩ = false) := Lib.hid (decide_eq_false (by
      intro h
      injection h with _ h
      subst h
      have := lA.out
      have := lB.out
      omega))
    go_enter Try.func59, Try.ntmps59
    go_wp2_with fail
    go_ret
    exact ⟨ret_bool HF.out.symm, (by repeat (first | exact Below.refl _ _ | assumption | refine Below.setCell ?_ (by first | (simp; done) | (simp; omega) | omega) _ | refine below_drewN ?_ _ | refine Below.drew ?_ | refine Below.alloc ?_ (by first | (simp; done) | (simp; omega) | omega) _))⟩
  subst hnm
  have HW : Hid (∀ q, Below w.heap.size w (((w.alloc (.cells #[.int .i64 h1, .slice A n c] 41)).alloc (.cells #[.int .i64 h1, .slice B n d] 41)).drewN q)) := Lib.hid fun q => (by repeat (first | exact Below.refl _ _ | assumption | refine Below.setCell ?_ (by first | (simp; done) | (simp; omega) | omega) _ | refine below_drewN ?_ _ | refine Below.drew ?_ | refine Below.alloc ?_ (by first | (simp; done) | (simp; omega) | omega) _))
  go_enter Try.func59, Try.ntmps59
  go_wp2_with fail
  go_loopw [5] (fun i wr => ∃ k q : Nat, k ≤ n ∧ i = .int .i64 k ∧ Hid (l1.reverse.take k = l2.reverse.take k) ∧ wr = ((w.alloc (.cells #[.int .i64 h1, .slice A n c] 41)).alloc (.cells #[.int .i64 h1, .slice B n d] 41)).drewN q) (fun i _ => n - (intOf i).toNat)
  case atStart => exact ⟨0, 0, Nat.zero_le _, rfl, Lib.hid rfl, rfl⟩
  case round =>
    obtain ⟨k, q, hk, rfl, hno, rfl⟩ := hrel
    by_cases hlt : k < n
    · obtain ⟨⟨x1, y1⟩, hx⟩ : ∃ x, l1.reverse[k]? = some x := ⟨_, List.getElem?_eq_getElem (by rw [lA.out]; exact hlt)⟩
      obtain ⟨⟨x2, y2⟩, hy⟩ : ∃ x, l2.reverse[k]? = some x := ⟨_, List.getElem?_eq_getElem (by rw [lB.out]; exact hlt)⟩
      obtain ⟨b, o, rfl, hb, g0, g1⟩ := HA.out.at_ hx
      obtain ⟨b', o', rfl, hb', g0', g1'⟩ := HB.out.at_ hy
      simp only at g0 g1 g0' g1'
      have HX := Lib.hid hx
      have HY := Lib.hid hy
      clear hx hy
      by_cases e : x1 = x2 ∧ y1 = y2
      · obtain ⟨rfl, rfl⟩ := e
        have hst := Lib.hid (take_eq hno.out HX.out HY.out)
        go_wp2_with fail
        go_quiet (fail)
        go_wp2_with fail
        go_roundw
        case rel => exact ⟨k + 1, _, by omega, by go_num, hst, rfl⟩
        case measure => simp [intOf]; omega
      · have HF : Hid (sameR ⟨h1, l1⟩ ⟨h1, l2⟩ = false) := Lib.hid (decide_eq_false (by
          intro h
          injection h with _ h
          subst h
          have h3 := HX.out.symm.trans HY.out
          simp at h3
          exact e h3))
        by_cases e1 : x1 = x2
        · subst e1
          have e2 : ¬ y1 = y2 := fun h => e ⟨rfl, h⟩
          have d1 : (y1 == y2) = false := by simpa using e2
          have d2 : (y1 != y2) = true := by simpa using e2
          clear e e2
          go_wp2_with fail
          go_quiet (fail)
          go_wp2_with fail
          go_ret
          exact ⟨ret_bool HF.out.symm, (by repeat (first | exact Below.refl _ _ | assumption | refine Below.setCell ?_ (by first | (simp; done) | (simp; omega) | omega) _ | refine below_drewN ?_ _ | refine Below.drew ?_ | refine Below.alloc ?_ (by first | (simp; done) | (simp; omega) | omega) _))⟩
        · have d1 : (x1 == x2) = false := by simpa using e1
          have d2 : (x1 != x2) = true := by simpa using e1
          clear e e1
          go_wp2_with fail
          go_quiet (fail)
          go_wp2_with fail
          go_ret
          exact ⟨ret_bool HF.out.symm, (by repeat (first | exact Below.refl _ _ | assumption | refine Below.setCell ?_ (by first | (simp; done) | (simp; omega) | omega) _ | refine below_drewN ?_ _ | refine Below.drew ?_ | refine Below.alloc ?_ (by first | (simp; done) | (simp; omega) | omega) _))⟩
    · obtain rfl : k = n := by omega
      have HF : Hid (sameR ⟨h1, l1⟩ ⟨h1, l2⟩ = true) := Lib.hid (decide_eq_true (by
        have h3 := hno.out
        rw [List.take_of_length_le (by rw [lA.out]; omega), List.take_of_length_le (by rw [lB.out]; omega)] at h3
        rw [List.reverse_inj.1 h3]))
      go_wp2_with fail
      go_ret
      exact ⟨ret_bool HF.out.symm, (by repeat (first | exact Below.refl _ _ | assumption | refine Below.setCell ?_ (by first | (simp; done) | (simp; omega) | omega) _ | refine below_drewN ?_ _ | refine Below.drew ?_ | refine Below.alloc ?_ (by first | (simp; done) | (simp; omega) | omega) _))⟩
end Go.Proofs.Ytgnejkmojfhfpaa
