/- behind: does a number stand in a row's tail? -/
import Derived.Test.YtbfjkjkanckcjaaNum
import Derived.BigQuiet
import Derived.Deep.QuietTactic
import Derived.IntWalk
namespace Go.Proofs.Ytbfjkjkanckcjaa
open Go.RowKit

def IdxOk (b : Bool) (w : World) (e : Ending) (w' : World) : Prop := ∃ r : Int, e = .returned (.int .i64 r) ∧ decide (0 ≤ r) = b ∧ w = w'
/-- is a number in a row? (kept shut) -/
def hasI (l : List Int) (x : Int) : Bool := l.contains x
theorem hasI_iff {l : List Int} {x : Int} : hasI l x = true ↔ x ∈ l := by simp [hasI]
theorem hasI_not {l : List Int} {x : Int} : hasI l x = false ↔ x ∉ l := by simp [hasI]
theorem contains_take {xs : List Int} {x : Int} {k : Nat} (h : k < xs.length) : hasI (xs.take (k + 1)) x = (hasI (xs.take k) x || decide (x = xs[k])) := by
  unfold hasI
  rw [List.take_succ_eq_append_getElem h, Bool.eq_iff_iff]
  simp only [List.contains_iff_mem, List.mem_append, List.mem_singleton, Bool.or_eq_true, decide_eq_true_eq]

set_option maxHeartbeats 400000 in
theorem index_any (A : Option Addr) (n c : Nat) (xs : List Int) (x : Int) (w : World) (hA : RdI w A n c xs) :
    Calls Try.prog 38 #[.slice A n c, .int .i64 x] w (IdxOk (hasI xs x) w) := by
  have hn := hA.le
  go_enter Try.func38, Try.ntmps38
  go_wp2_with fail
  go_loop [8] (fun i => ∃ k : Nat, k ≤ n ∧ i = .int .i64 k ∧ Hid (hasI (xs.take k) x = false)) (fun i => n - (intOf i).toNat)
  case atStart => exact ⟨0, Nat.zero_le _, rfl, by simp [Hid, hasI]⟩
  case round =>
    obtain ⟨k, hk, rfl, hno⟩ := hrel
    by_cases hlt : k < n
    · obtain ⟨b, o, rfl, hb, h0⟩ := hA.at_ hlt
      have hx : k < xs.length := by rw [hA.1]; exact hlt
      by_cases e : x = xs[k]
      · have hb : (x == xs[k]) = true := by simpa using e
        have HC : Hid (hasI xs x = true) := by
          show hasI xs x = true
          rw [hasI_iff, e]
          exact List.getElem_mem hx
        have E := Lib.hid e
        clear e
        go_wp2
        go_ret
        exact ⟨_, rfl, by rw [HC.out]; simp, rfl⟩
      · have hb : (x == xs[k]) = false := by simpa using e
        have E := Lib.hid e
        clear e
        go_wp2
        go_round
        case rel => exact ⟨k + 1, by omega, by go_num, by unfold Hid; rw [contains_take hx, hno.out]; simpa using E.out⟩
        case measure => simp [intOf]; omega
    · have HF : Hid (hasI xs x = false) := by
        have := hno.out
        rw [List.take_of_length_le (by rw [hA.1]; omega)] at this
        exact this
      go_wp2
      go_ret
      exact ⟨_, rfl, by rw [HF.out]; rfl, rfl⟩

set_option maxHeartbeats 400000 in
theorem contains_any (A : Option Addr) (n c : Nat) (xs : List Int) (x : Int) (w : World) (hA : RdI w A n c xs) :
    Calls Try.prog 33 #[.slice A n c, .int .i64 x] w fun e w' => e = .returned (.bool (hasI xs x)) ∧ w' = w := by
  go_enter Try.func33, Try.ntmps33
  go_wp2_with (go_at_call 38; refine (index_any A n c xs x _ hA).mono ?_; rintro e w' ⟨r, rfl, hr, rfl⟩; have HR := Lib.hid hr; clear hr)
  go_ret
  exact ⟨ret_bool HR.out, rfl⟩

set_option maxRecDepth 100000 in
set_option maxHeartbeats 400000 in
theorem behind1_any (A : Option Addr) (n c : Nat) (xs : List Int) (x : Int) (B : Nat) (w : World) (hA : RdI w A n c xs) (hB : w.cell? ⟨B, 0, none⟩ = some (.int .i64 x)) :
    Calls Try.prog 37 #[.slice A n c, .pointer (some ⟨B, 0, none⟩)] w fun e w' => e = .returned (.bool (hasI xs.tail x)) ∧ ∃ q, w' = w.drewN q := by
  have hn := hA.le
  have hc := hA.2.2.1
  by_cases h0 : n = 0
  · subst h0
    have hx : xs = [] := List.eq_nil_of_length_eq_zero hA.1
    subst hx
    have hd : decide (0 < 0) = false := by simp
    go_enter Try.func37, Try.ntmps37
    go_wp2_with fail
    go_quiet (fail)
    go_wp2_with fail
    go_ret
    exact ⟨rfl, _, rfl⟩
  · have hpos : 0 < n := by omega
    have hd : decide (0 < n) = true := by simpa using hpos
    have hnc := hA.2.1
    have i1 : 1 ≤ n := by omega
    have i2 : n ≤ c := by omega
    have htl : xs.drop 1 = xs.tail := List.drop_one
    by_cases h1 : c = 1
    · have hr : ∀ q, RdI (w.drewN q) A (n - 1) (c - 1) xs.tail := fun q => by rw [← htl]; exact (hA.hi (by omega) (fun h => absurd h (by omega))).new (below_drewN (Below.refl _ _) q)
      have HR := Lib.hid hr
      clear hr htl
      obtain rfl : n = 1 := by omega
      subst h1
      go_enter Try.func37, Try.ntmps37
      go_wp2_with fail
      go_quiet ((go_at_call 33; exact Calls.quiet_of_same (contains_any _ _ _ _ x _ (HR.out _))))
      go_wp2_with fail
      go_ret
      exact ⟨rfl, _, rfl⟩
    · have hr : ∀ q, RdI (w.drewN q) (A.map (·.add (1 * 1))) (n - 1) (c - 1) xs.tail := fun q => by rw [← htl]; exact (hA.hi (by omega) (fun h => rfl)).new (below_drewN (Below.refl _ _) q)
      have HR := Lib.hid hr
      clear hr htl
      go_enter Try.func37, Try.ntmps37
      go_wp2_with fail
      go_quiet ((go_at_call 33; exact Calls.quiet_of_same (contains_any _ _ _ _ x _ (HR.out _))))
      go_wp2_with fail
      go_ret
      exact ⟨rfl, _, rfl⟩
end Go.Proofs.Ytbfjkjkanckcjaa
