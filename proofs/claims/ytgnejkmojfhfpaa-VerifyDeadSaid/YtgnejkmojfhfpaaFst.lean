/- verify.first. -/
import Derived.Test.YtgnejkmojfhfpaaPrg
namespace Go.Proofs.Ytgnejkmojfhfpaa
open Go.RowKit
set_option linter.unusedVariables false
set_option linter.unusedSimpArgs false

def bvs (l : List Bool) : List Value := l.map Value.bool
def firstI (l : List Bool) : Int := match firstE l with
  | some i => i
  | none => -1
theorem firstI_at {l : List Bool} {k : Nat} (h : l[k]? = some true) (h0 : ∀ j, j < k → l[j]? = some false) : firstI l = k := by
  have : firstE l = some k := by
    unfold firstE
    rw [List.findIdx?_eq_some_iff_getElem]
    obtain ⟨h1, h2⟩ := List.getElem?_eq_some_iff.1 h
    refine ⟨h1, by simpa using h2, fun j hj => ?_⟩
    obtain ⟨_, h4⟩ := List.getElem?_eq_some_iff.1 (h0 j hj)
    simp [h4]
  unfold firstI
  rw [this]
theorem firstI_no {l : List Bool} (h0 : ∀ j, j < l.length → l[j]? = some false) : firstI l = -1 := by
  have : firstE l = none := by
    unfold firstE
    rw [List.findIdx?_eq_none_iff]
    intro x hx
    obtain ⟨j, hj, rfl⟩ := List.mem_iff_getElem.1 hx
    obtain ⟨_, h4⟩ := List.getElem?_eq_some_iff.1 (h0 j hj)
    simp [h4]
  unfold firstI
  rw [this]
set_option maxRecDepth 100000 in
set_option maxHeartbeats 1000000 in
theorem index_any {w : World} {A : Option Addr} {n c : Nat} {l : List Bool} (hl : l.length = n) (hr : Rd w A n c 1 (bvs l)) :
    Calls Try.prog 54 #[.slice A n c, .bool true] w fun e w' => e = .returned (.int .i64 (firstI l)) ∧ w = w' := by
  have hn := hr.le
  have HR := Lib.hid hr
  clear hr
  go_enter Try.func54, Try.ntmps54
  go_wp2_with fail
  go_loop [8] (fun i => ∃ k : Nat, k ≤ n ∧ i = .int .i64 k ∧ Hid (∀ j, j < k → l[j]? = some false)) (fun i => n - (intOf i).toNat)
  case atStart => exact ⟨0, by omega, rfl, Lib.hid fun j hj => by omega⟩
  case round =>
    obtain ⟨k, hk, rfl, H0⟩ := hrel
    by_cases hlt : k < n
    · obtain ⟨b, o, rfl, hb, hc⟩ := HR.out.2.2.2 (by omega)
      obtain ⟨x, hx⟩ : ∃ x, l[k]? = some x := ⟨_, List.getElem?_eq_getElem (by omega)⟩
      have hce : w.cell? ⟨b, o + k, none⟩ = some (.bool x) := hc k _ (by simp [bvs, hx])
      have HX := Lib.hid hx
      clear hx hc
      cases x with
      | true =>
        go_wp2_with fail
        go_ret
        exact ⟨ret_int (firstI_at HX.out H0.out).symm, rfl⟩
      | false =>
        go_wp2_with fail
        go_round
        case rel => exact ⟨k + 1, by omega, by go_num, Lib.hid fun j hj => by
          by_cases e : j = k
          · rw [e]; exact HX.out
          · exact H0.out j (by omega)⟩
        case measure => simp [intOf]; omega
    · obtain rfl : k = n := by omega
      have HF := Lib.hid (firstI_no (l := l) fun j hj => H0.out j (by omega))
      go_wp2_with fail
      go_ret
      exact ⟨ret_int HF.out.symm, rfl⟩
theorem first_any {w : World} {A : Option Addr} {n c : Nat} {l : List Bool} (hl : l.length = n) (hr : Rd w A n c 1 (bvs l)) :
    Calls Try.prog 23 #[.slice A n c] w fun e w' => e = .returned (.int .i64 (firstI l)) ∧ w = w' := by
  have K := Lib.hid (index_any hl hr)
  clear hr hl
  go_enter Try.func23, Try.ntmps23
  go_wp2_with ((with_reducible refine K.out.mono ?_); rintro e w' ⟨rfl, rfl⟩)
  go_ret
  exact ⟨rfl, rfl⟩
end Go.Proofs.Ytgnejkmojfhfpaa
