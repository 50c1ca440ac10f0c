/- The reference: in. -/
import Derived.Test.YthdkloojhenlkaaNewC
namespace Go.Proofs.Ythdkloojhenlkaa
open Go.RowKit

set_option maxHeartbeats 400000 in
theorem in_any (A : Option Addr) (n c : Nat) (xs : List ByteArray) (s : ByteArray) (w : World) (hA : RdS w A n c xs) :
    Calls Try.prog 38 #[.slice A n c, .string s] w fun e w' => e = .returned (.bool (hasS xs s)) ∧ w' = w := by
  have hn := hA.le
  go_enter Try.func38, Try.ntmps38
  go_wp2
  go_loop [5] (fun i => ∃ k : Nat, k ≤ n ∧ i = .int .i64 k ∧ Hid (hasS (xs.take k) s = false)) (fun i => n - (intOf i).toNat)
  case atStart => exact ⟨0, Nat.zero_le _, rfl, by simp [Hid, hasS]⟩
  case round =>
    obtain ⟨k, hk, rfl, hno⟩ := hrel
    by_cases hlt : k < n
    · obtain ⟨b, o, rfl, hb, h0⟩ := hA.at_ hlt
      have hx : k < xs.length := by rw [hA.1]; exact hlt
      go_wp2
      · rename_i h _
        have e : s = xs[k] := ((toList_inj _ _).1 (by simpa using h)).symm
        go_ret
        exact ⟨ret_bool (hasS_true hx e).symm, rfl⟩
      · rename_i h
        have e : ¬ s = xs[k] := fun e => by rw [(toList_inj _ _).2 e] at h; simp at h
        go_round
        case rel => exact ⟨k + 1, by omega, by go_num, by unfold Hid; rw [hasS_take hx, hno.out]; simp [e]⟩
        case measure => simp [intOf]; omega
    · have HF : Hid (hasS xs s = false) := by
        have := hno.out
        rw [List.take_of_length_le (by rw [hA.1]; omega)] at this
        exact this
      go_wp2
      go_ret
      exact ⟨ret_bool HF.out.symm, rfl⟩
end Go.Proofs.Ythdkloojhenlkaa
