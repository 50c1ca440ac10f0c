/- New: where there is no frame. -/
import Derived.Test.YthdkloojhenlkaaHel
namespace Go.Proofs.Ythdkloojhenlkaa
open Go.RowKit
attribute [local go_sem high] guardV eqV neqV
attribute [local go_sem] V.v

def NoFrame (w : World) (e : Ending) (w' : World) : Prop := e = .returned (.tuple #[.pointer none, .bool false]) ∧ Below w.heap.size w w'

set_option maxRecDepth 100000 in
set_option maxHeartbeats 1000000 in
/-- a number that is no code's -/
theorem new_out (Ap : Option Addr) (np cp : Nat) (k : Int) (A : Option Addr) (m c : Nat) (A' : Option Addr) (m' c' : Nat) (w : World) (hk : k < 0 ∨ (np : Int) ≤ k) :
    Calls Try.prog 16 #[.slice Ap np cp, .int .i64 k, .slice A m c, .slice A' m' c'] w (NoFrame w) := by
  rcases hk with hk | hk
  · have hd : decide (k < 0) = true := by simpa using hk
    go_enter Try.func16, Try.ntmps16
    go_wp2
    go_ret2
    exact ⟨rfl, Below.refl _ _⟩
  · by_cases h0 : k < 0
    · have hd : decide (k < 0) = true := by simpa using h0
      go_enter Try.func16, Try.ntmps16
      go_wp2
      go_ret2
      exact ⟨rfl, Below.refl _ _⟩
    · have hd : decide (k < 0) = false := by simpa using h0
      go_enter Try.func16, Try.ntmps16
      go_wp2
      go_ret2
      exact ⟨rfl, Below.refl _ _⟩

set_option maxRecDepth 100000 in
set_option maxHeartbeats 1000000 in
/-- arguments or cells that do not fit -/
theorem new_no (Ap : Option Addr) (np cp k : Nat) (params : Int) (LL CC : List ByteArray) (nf : Nat) (A : Option Addr) (m c : Nat) (A' : Option Addr) (m' c' : Nat) (w : World)
    (hk : k < np) (hC : CodeAt w Ap k params LL CC nf) (hCl : CC.length + nf ≤ 1000000) (hno : ¬ ((m : Int) = params ∧ m ≤ LL.length ∧ m' = CC.length + nf)) :
    Calls Try.prog 16 #[.slice Ap np cp, .int .i64 k, .slice A m c, .slice A' m' c'] w (NoFrame w) := by
  obtain ⟨b, o, s0, k1, k3, b4, AL, nL, cL, AC, nC, cC, AF, cF, A8, n8, c8, A9, n9, c9, A10, n10, c10, rfl, hb, q0, q1, q2, q3, q4, q5, q6, q7, q8, q9, q10, hRL, hRC⟩ := hC
  have hnC : nC + nf ≤ 1000000 := by rw [← hRC.1]; exact hCl
  rw [hRL.1, hRC.1] at hno
  clear hRL hRC hCl
  by_cases h1 : (m : Int) = params
  · subst h1
    have e1 : ((m : Int) != (m : Int)) = false := by simp
    by_cases h2 : m ≤ nL
    · have h3 : m' ≠ nC + nf := fun h => hno ⟨rfl, h2, h⟩
      have e2 : ((m' : Int) != ((nC : Int) + (nf : Int))) = true := by rw [bne_iff_ne]; omega
      have e3 : decide (nL < m) = false := by simpa using h2
      clear hno
      go_enter Try.func16, Try.ntmps16
      go_wp2
      go_ret2
      exact ⟨rfl, (by repeat (first | exact Below.refl _ _ | assumption | refine Below.setCell ?_ (by first | (simp; done) | (simp; omega) | omega) _ | refine below_drewN ?_ _ | refine Below.drew ?_ | refine Below.alloc ?_ (by first | (simp; done) | (simp; omega) | omega) _))⟩
    · have e3 : decide (nL < m) = true := by simpa using h2
      clear hno
      go_enter Try.func16, Try.ntmps16
      go_wp2
      go_ret2
      exact ⟨rfl, (by repeat (first | exact Below.refl _ _ | assumption | refine Below.setCell ?_ (by first | (simp; done) | (simp; omega) | omega) _ | refine below_drewN ?_ _ | refine Below.drew ?_ | refine Below.alloc ?_ (by first | (simp; done) | (simp; omega) | omega) _))⟩
  · have e1 : ((m : Int) != params) = true := by rw [bne_iff_ne]; exact h1
    clear hno
    go_enter Try.func16, Try.ntmps16
    go_wp2
    go_ret2
    exact ⟨rfl, (by repeat (first | exact Below.refl _ _ | assumption | refine Below.setCell ?_ (by first | (simp; done) | (simp; omega) | omega) _ | refine below_drewN ?_ _ | refine Below.drew ?_ | refine Below.alloc ?_ (by first | (simp; done) | (simp; omega) | omega) _))⟩
end Go.Proofs.Ythdkloojhenlkaa
