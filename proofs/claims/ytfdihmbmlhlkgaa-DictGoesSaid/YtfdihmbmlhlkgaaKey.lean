/- Which values may be keys; the keys that are made. -/
import Derived.Test.YtfdihmbmlhlkgaaMap
import Derived.Test.YtfdihmbmlhlkgaaBit
namespace Go.Proofs.Ytfdihmbmlhlkgaa
open Go.RowKit
attribute [local go_sem high] guardV eqV neqV
attribute [local go_sem] V.v

/-- may the value be a key? (kept shut) -/
def isKey (x : V) : Bool := (decide (x.k = 0) && (decide (x.n = 0) && decide (x.s = ⟨#[]⟩))) || (decide (x.k = 1) && ((decide (x.n = 0) || decide (x.n = 1)) && decide (x.s = ⟨#[]⟩))) || (decide (x.k = 2) && decide (x.s = ⟨#[]⟩)) || (decide (x.k = 3) && decide (x.n = 0))

theorem nil_iff (s : ByteArray) : s.toList = [] ↔ s = ⟨#[]⟩ := by
  have h := toList_inj s ⟨#[]⟩
  rw [ByteArray.toList_eq ⟨#[]⟩] at h
  exact h
theorem empty_iff (s : ByteArray) : s.toList.isEmpty = decide (s = ⟨#[]⟩) := by
  by_cases e : s = ⟨#[]⟩
  · rw [decide_eq_true e, List.isEmpty_iff, nil_iff]; exact e
  · rw [decide_eq_false e]
    cases hl : s.toList with
    | nil => exact absurd ((nil_iff s).1 hl) e
    | cons a l => rfl
theorem half_iff (n : Int) : decide (n / 2 = 0) = (decide (n = 0) || decide (n = 1)) := by
  by_cases h : n = 0 ∨ n = 1
  · rcases h with rfl | rfl <;> rfl
  · have h1 : ¬ n / 2 = 0 := by omega
    have h2 : ¬ n = 0 := by omega
    have h3 : ¬ n = 1 := by omega
    simp [h1, h2, h3]
theorem beq_dec (n m : Int) : (n == m) = decide (n = m) := by
  by_cases h : n = m <;> simp [h]
set_option maxRecDepth 100000 in
set_option maxHeartbeats 400000 in
theorem rkey_any (k n : Int) (s : ByteArray) (w : World) :
    Calls Try.prog 26 #[.agg #[.int .i64 k, .int .i64 n, .string s]] w fun e w' => e = .returned (.bool (isKey ⟨k, n, s⟩)) ∧ Below w.heap.size w w' := by
  go_enter Try.func26, Try.ntmps26
  go_wp2_with fail
  all_goals (go_ret; refine ⟨ret_bool ?_, (by repeat (first | exact Below.refl _ _ | assumption | refine Below.setCell ?_ (by first | (simp; done) | (simp; omega) | omega) _ | refine below_drewN ?_ _ | refine Below.drew ?_ | refine Below.alloc ?_ (by first | (simp; done) | (simp; omega) | omega) _))⟩)
  all_goals simp_all [isKey, empty_iff, beq_dec]

set_option maxRecDepth 100000 in
set_option maxHeartbeats 400000 in
theorem dkey_any (k n : Int) (s : ByteArray) (w : World) :
    Calls Try.prog 27 #[.agg #[.int .i64 k, .int .i64 n, .string s]] w fun e w' => e = .returned (.bool (isKey ⟨k, n, s⟩)) ∧ Below w.heap.size w w' := by
  go_enter Try.func27, Try.ntmps27
  go_wp2_with fail
  all_goals (go_ret; refine ⟨ret_bool ?_, (by repeat (first | exact Below.refl _ _ | assumption | refine Below.setCell ?_ (by first | (simp; done) | (simp; omega) | omega) _ | refine below_drewN ?_ _ | refine Below.drew ?_ | refine Below.alloc ?_ (by first | (simp; done) | (simp; omega) | omega) _))⟩)
  all_goals simp_all [isKey, empty_iff, beq_dec, half_iff, nil_iff, V.same, V.mk.injEq]

/-- the key that is made of a value -/
def fitV (x : V) : V :=
  if bits BinOp.and .i64 x.k 3 = 0 then ⟨0, 0, ⟨#[]⟩⟩ else if bits BinOp.and .i64 x.k 3 = 1 then ⟨1, bits BinOp.and .i64 x.n 1, ⟨#[]⟩⟩ else if bits BinOp.and .i64 x.k 3 = 2 then ⟨2, x.n, ⟨#[]⟩⟩ else ⟨3, 0, x.s⟩
theorem fitV_key (x : V) : isKey (fitV x) = true := by
  obtain ⟨a, ha, e⟩ := and_small x.n 1 (by omega)
  replace e : bits BinOp.and .i64 x.n 1 = (a : Int) := e
  unfold fitV
  split
  · rfl
  · split
    · have : a = 0 ∨ a = 1 := by omega
      rcases this with rfl | rfl <;> simp [isKey, e]
    · split
      · simp [isKey]
      · simp [isKey]
theorem fitV_ok {x : V} (h : x.Ok) : (fitV x).Ok := by
  obtain ⟨a, ha, e⟩ := and_small x.n 1 (by omega)
  replace e : bits BinOp.and .i64 x.n 1 = (a : Int) := e
  unfold fitV
  split
  · exact ⟨rfl, rfl, Nat.zero_le _⟩
  · split
    · have : a = 0 ∨ a = 1 := by omega
      refine ⟨rfl, ?_, Nat.zero_le _⟩
      rcases this with rfl | rfl <;> simp only [e] <;> rfl
    · split
      · exact ⟨rfl, h.2.1, Nat.zero_le _⟩
      · exact ⟨rfl, rfl, h.2.2⟩

set_option maxRecDepth 100000 in
set_option maxHeartbeats 400000 in
theorem fit_any (k n : Int) (s : ByteArray) (w : World) :
    Calls Try.prog 14 #[.agg #[.int .i64 k, .int .i64 n, .string s]] w fun e w' => e = .returned (fitV ⟨k, n, s⟩).v ∧ Below w.heap.size w w' := by
  go_enter Try.func14, Try.ntmps14
  go_wp2_with fail
  all_goals refine bodyPost_ret (by simp [results, Try.results14, go_sem]; try rfl) rfl ?_
  all_goals refine ⟨?_, (by repeat (first | exact Below.refl _ _ | assumption | refine Below.setCell ?_ (by first | (simp; done) | (simp; omega) | omega) _ | refine below_drewN ?_ _ | refine Below.drew ?_ | refine Below.alloc ?_ (by first | (simp; done) | (simp; omega) | omega) _))⟩
  all_goals simp_all [fitV, V.v]
end Go.Proofs.Ytfdihmbmlhlkgaa
