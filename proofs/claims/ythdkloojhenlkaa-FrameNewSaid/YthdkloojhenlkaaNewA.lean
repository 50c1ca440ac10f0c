/- slices.Index and slices.Contains of strings. -/
import Derived.Test.YthdkloojhenlkaaFrE
import Derived.Test.YthdkloojhenlkaaMemB
namespace Go.Proofs.Ythdkloojhenlkaa
open Go.RowKit

def hasS (l : List ByteArray) (s : ByteArray) : Bool := l.any fun t => decide (s = t)
theorem hasS_take {l : List ByteArray} {s : ByteArray} {k : Nat} (h : k < l.length) : hasS (l.take (k + 1)) s = (hasS (l.take k) s || decide (s = l[k])) := by
  unfold hasS
  rw [List.take_succ_eq_append_getElem h, List.any_append]
  simp
theorem hasS_true {l : List ByteArray} {s : ByteArray} {k : Nat} (h : k < l.length) (e : s = l[k]) : hasS l s = true := by
  unfold hasS
  rw [List.any_eq_true]
  exact ⟨l[k], List.getElem_mem h, by simpa using e⟩
def IdxOk (xs : List ByteArray) (s : ByteArray) (w : World) (e : Ending) (w' : World) : Prop := ∃ r : Int, e = .returned (.int .i64 r) ∧ decide (0 ≤ r) = hasS xs s ∧ w = w'

set_option maxHeartbeats 400000 in
theorem index_any (A : Option Addr) (n c : Nat) (xs : List ByteArray) (s : ByteArray) (w : World) (hA : RdS w A n c xs) :
    Calls Try.prog 53 #[.slice A n c, .string s] w (IdxOk xs s w) := by
  have hn := hA.le
  go_enter Try.func53, Try.ntmps53
  go_wp2
  go_loop [8] (fun i => ∃ k : Nat, k ≤ n ∧ i = .int .i64 k ∧ Hid (hasS (xs.take k) s = false)) (fun i => n - (intOf i).toNat)
  case atStart => exact ⟨0, Nat.zero_le _, rfl, by simp [Hid, hasS]⟩
  case round =>
    obtain ⟨k, hk, rfl, hno⟩ := hrel
    by_cases hlt : k < n
    · obtain ⟨b, o, rfl, hb, h0⟩ := hA.at_ hlt
      have hx : k < xs.length := by rw [hA.1]; exact hlt
      go_wp2
      · rename_i h _
        have e : s = xs[k] := (toList_inj _ _).1 (by simpa using h)
        go_ret
        exact ⟨k, rfl, by rw [hasS_true hx e]; simp, rfl⟩
      · rename_i h
        have e : ¬ s = xs[k] := fun e => by rw [(toList_inj _ _).2 e] at h; simp at h
        go_round
        case rel => exact ⟨k + 1, by omega, by go_num, by unfold Hid; rw [hasS_take hx, hno.out]; simp [e]⟩
        case measure => simp [intOf]; omega
    · have HF : Hid (hasS xs s = false) := by
        have := hno.out
        rw [List.take_of_length_le (by rw [hA.1]; omega)] at this
        exact this
      go_wp2
      go_ret
      exact ⟨-1, rfl, by rw [HF.out]; rfl, rfl⟩

theorem contains_any (A : Option Addr) (n c : Nat) (xs : List ByteArray) (s : ByteArray) (w : World) (hA : RdS w A n c xs) :
    Calls Try.prog 37 #[.slice A n c, .string s] w fun e w' => e = .returned (.bool (hasS xs s)) ∧ w' = w := by
  have H := Lib.hid (index_any A n c xs s w hA)
  go_enter Try.func37, Try.ntmps37
  go_wp2_with (go_at_call 53; refine H.out.mono ?_; rintro e w' ⟨r, rfl, hr, rfl⟩; have HR := Lib.hid hr; clear hr)
  go_ret
  exact ⟨ret_bool HR.out, rfl⟩
end Go.Proofs.Ythdkloojhenlkaa
