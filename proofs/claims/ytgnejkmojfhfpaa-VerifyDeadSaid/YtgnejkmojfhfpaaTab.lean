/- verify.flat, verify.tables. -/
import Derived.Test.YtgnejkmojfhfpaaPrg
namespace Go.Proofs.Ytgnejkmojfhfpaa
open Go.RowKit
set_option linter.unusedVariables false
set_option linter.unusedSimpArgs false

set_option maxRecDepth 100000 in
set_option maxHeartbeats 1000000 in
theorem flat_any (k n : Int) (s : ByteArray) (w : World) : Calls Try.prog 34 #[.agg #[.int .i64 k, .int .i64 n, .string s]] w fun e w' => e = .returned (.bool (flatV ⟨k, n, s⟩)) ∧ Below w.heap.size w w' := by
  have hs : s = ⟨#[]⟩ ∨ (¬ s = ⟨#[]⟩ ∧ (s == ⟨#[]⟩) = false ∧ s.toList.isEmpty = false) := by
    by_cases h : s = ⟨#[]⟩
    · exact .inl h
    · right
      obtain ⟨⟨l⟩⟩ := s
      cases l with
      | nil => exact absurd rfl h
      | cons x l => exact ⟨h, rfl, by rw [ByteArray.toList_eq]; rfl⟩
  by_cases h0 : k = 0
  · subst h0
    rcases hs with rfl | ⟨h1, h2, h3⟩
    · by_cases hn : n = 0
      · subst hn
        go_enter Try.func34, Try.ntmps34
        go_wp2_with fail
        go_ret
        exact ⟨rfl, (by repeat (first | exact Below.refl _ _ | assumption | refine Below.setCell ?_ (by first | (simp; done) | (simp; omega) | omega) _ | refine below_drewN ?_ _ | refine Below.drew ?_ | refine Below.alloc ?_ (by first | (simp; done) | (simp; omega) | omega) _))⟩
      · have hn1 : (n == 0) = false := by simpa using hn
        rw [show flatV ⟨0, n, ⟨#[]⟩⟩ = false by simp [flatV, hn]]
        go_enter Try.func34, Try.ntmps34
        go_wp2_with fail
        go_ret
        exact ⟨rfl, (by repeat (first | exact Below.refl _ _ | assumption | refine Below.setCell ?_ (by first | (simp; done) | (simp; omega) | omega) _ | refine below_drewN ?_ _ | refine Below.drew ?_ | refine Below.alloc ?_ (by first | (simp; done) | (simp; omega) | omega) _))⟩
    · rw [show flatV ⟨0, n, s⟩ = false by simp [flatV, h1]]
      by_cases hn : n = 0
      · subst hn
        go_enter Try.func34, Try.ntmps34
        go_wp2_with fail
        go_ret
        exact ⟨rfl, (by repeat (first | exact Below.refl _ _ | assumption | refine Below.setCell ?_ (by first | (simp; done) | (simp; omega) | omega) _ | refine below_drewN ?_ _ | refine Below.drew ?_ | refine Below.alloc ?_ (by first | (simp; done) | (simp; omega) | omega) _))⟩
      · have hn1 : (n == 0) = false := by simpa using hn
        go_enter Try.func34, Try.ntmps34
        go_wp2_with fail
        go_ret
        exact ⟨rfl, (by repeat (first | exact Below.refl _ _ | assumption | refine Below.setCell ?_ (by first | (simp; done) | (simp; omega) | omega) _ | refine below_drewN ?_ _ | refine Below.drew ?_ | refine Below.alloc ?_ (by first | (simp; done) | (simp; omega) | omega) _))⟩
  have k0 : (k == 0) = false := by simpa using h0
  by_cases h1 : k = 1
  · subst h1
    rcases hs with rfl | ⟨h1, h2, h3⟩
    · by_cases hn : n = 0
      · subst hn
        go_enter Try.func34, Try.ntmps34
        go_wp2_with fail
        go_ret
        exact ⟨rfl, (by repeat (first | exact Below.refl _ _ | assumption | refine Below.setCell ?_ (by first | (simp; done) | (simp; omega) | omega) _ | refine below_drewN ?_ _ | refine Below.drew ?_ | refine Below.alloc ?_ (by first | (simp; done) | (simp; omega) | omega) _))⟩
      · have hn1 : (n == 0) = false := by simpa using hn
        by_cases hm : n = 1
        · subst hm
          go_enter Try.func34, Try.ntmps34
          go_wp2_with fail
          go_ret
          exact ⟨rfl, (by repeat (first | exact Below.refl _ _ | assumption | refine Below.setCell ?_ (by first | (simp; done) | (simp; omega) | omega) _ | refine below_drewN ?_ _ | refine Below.drew ?_ | refine Below.alloc ?_ (by first | (simp; done) | (simp; omega) | omega) _))⟩
        · have hm1 : (n == 1) = false := by simpa using hm
          rw [show flatV ⟨1, n, ⟨#[]⟩⟩ = false by simp [flatV, hn, hm]]
          go_enter Try.func34, Try.ntmps34
          go_wp2_with fail
          go_ret
          exact ⟨rfl, (by repeat (first | exact Below.refl _ _ | assumption | refine Below.setCell ?_ (by first | (simp; done) | (simp; omega) | omega) _ | refine below_drewN ?_ _ | refine Below.drew ?_ | refine Below.alloc ?_ (by first | (simp; done) | (simp; omega) | omega) _))⟩
    · rw [show flatV ⟨1, n, s⟩ = false by simp [flatV, h1]]
      go_enter Try.func34, Try.ntmps34
      go_wp2_with fail
      go_ret
      exact ⟨rfl, (by repeat (first | exact Below.refl _ _ | assumption | refine Below.setCell ?_ (by first | (simp; done) | (simp; omega) | omega) _ | refine below_drewN ?_ _ | refine Below.drew ?_ | refine Below.alloc ?_ (by first | (simp; done) | (simp; omega) | omega) _))⟩
  have k1 : (k == 1) = false := by simpa using h1
  by_cases h2 : k = 2
  · subst h2
    rcases hs with rfl | ⟨h1, h2, h3⟩
    · go_enter Try.func34, Try.ntmps34
      go_wp2_with fail
      go_ret
      exact ⟨rfl, (by repeat (first | exact Below.refl _ _ | assumption | refine Below.setCell ?_ (by first | (simp; done) | (simp; omega) | omega) _ | refine below_drewN ?_ _ | refine Below.drew ?_ | refine Below.alloc ?_ (by first | (simp; done) | (simp; omega) | omega) _))⟩
    · rw [show flatV ⟨2, n, s⟩ = false by simp [flatV, h1]]
      go_enter Try.func34, Try.ntmps34
      go_wp2_with fail
      go_ret
      exact ⟨rfl, (by repeat (first | exact Below.refl _ _ | assumption | refine Below.setCell ?_ (by first | (simp; done) | (simp; omega) | omega) _ | refine below_drewN ?_ _ | refine Below.drew ?_ | refine Below.alloc ?_ (by first | (simp; done) | (simp; omega) | omega) _))⟩
  have k2 : (k == 2) = false := by simpa using h2
  clear hs
  by_cases h3 : k = 3
  · subst h3
    by_cases hn : n = 0
    · subst hn
      go_enter Try.func34, Try.ntmps34
      go_wp2_with fail
      go_ret
      exact ⟨rfl, (by repeat (first | exact Below.refl _ _ | assumption | refine Below.setCell ?_ (by first | (simp; done) | (simp; omega) | omega) _ | refine below_drewN ?_ _ | refine Below.drew ?_ | refine Below.alloc ?_ (by first | (simp; done) | (simp; omega) | omega) _))⟩
    · have hn1 : (n == 0) = false := by simpa using hn
      rw [show flatV ⟨3, n, s⟩ = false by simp [flatV, hn]]
      go_enter Try.func34, Try.ntmps34
      go_wp2_with fail
      go_ret
      exact ⟨rfl, (by repeat (first | exact Below.refl _ _ | assumption | refine Below.setCell ?_ (by first | (simp; done) | (simp; omega) | omega) _ | refine below_drewN ?_ _ | refine Below.drew ?_ | refine Below.alloc ?_ (by first | (simp; done) | (simp; omega) | omega) _))⟩
  · have k3 : (k == 3) = false := by simpa using h3
    rw [show flatV ⟨k, n, s⟩ = false by simp [flatV, h0, h1, h2, h3]]
    clear h0 h1 h2 h3
    go_enter Try.func34, Try.ntmps34
    go_wp2_with fail
    go_ret
    exact ⟨rfl, (by repeat (first | exact Below.refl _ _ | assumption | refine Below.setCell ?_ (by first | (simp; done) | (simp; omega) | omega) _ | refine below_drewN ?_ _ | refine Below.drew ?_ | refine Below.alloc ?_ (by first | (simp; done) | (simp; omega) | omega) _))⟩
end Go.Proofs.Ytgnejkmojfhfpaa
