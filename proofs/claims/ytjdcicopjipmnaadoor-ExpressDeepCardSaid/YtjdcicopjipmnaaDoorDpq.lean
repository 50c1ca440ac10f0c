/- ExpressDeep in plain words: kind 5, brackets; all of them. -/
import Derived.Test.YtjdcicopjipmnaaDoorDpp
import Derived.Test.YtjdcicopjipmnaaDoorDpr
import Derived.Test.YtjdcicopjipmnaaDoorLDe
namespace Go.Proofs.YtjdcicopjipmnaaDoor
open Go.RowKit
set_option maxRecDepth 100000 in
theorem deep_all50 : ((List.range 20).all fun m => deepOk 5 (m + 1)) = true := by kernel_rfl
set_option maxRecDepth 100000 in
theorem deep_all51 : ((List.range 20).all fun m => deepOk 5 (m + 21)) = true := by kernel_rfl
set_option maxRecDepth 100000 in
theorem deep_all52 : ((List.range 20).all fun m => deepOk 5 (m + 41)) = true := by kernel_rfl
set_option maxRecDepth 100000 in
theorem deep_all53 : ((List.range 20).all fun m => deepOk 5 (m + 61)) = true := by kernel_rfl
set_option maxRecDepth 100000 in
theorem round_all0 : ((List.range 20).all fun m => roundOk (m + 1)) = true := by kernel_rfl
set_option maxRecDepth 100000 in
theorem round_all1 : ((List.range 20).all fun m => roundOk (m + 21)) = true := by kernel_rfl
set_option maxRecDepth 100000 in
theorem round_all2 : ((List.range 20).all fun m => roundOk (m + 41)) = true := by kernel_rfl
set_option maxRecDepth 100000 in
theorem round_all3 : ((List.range 20).all fun m => roundOk (m + 61)) = true := by kernel_rfl
theorem deep_k0 (m : Nat) (h : m < 80) : deepOk 0 (m + 1) = true := by
  have hj : m / 20 = 0 ∨ m / 20 = 1 ∨ m / 20 = 2 ∨ m / 20 = 3 := by omega
  have hi : m % 20 < 20 := Nat.mod_lt _ (by omega)
  rcases hj with hj | hj | hj | hj
  · have := List.all_eq_true.1 deep_all00 (m % 20) (List.mem_range.2 hi)
    rwa [show m % 20 + 1 = m + 1 from by omega] at this
  · have := List.all_eq_true.1 deep_all01 (m % 20) (List.mem_range.2 hi)
    rwa [show m % 20 + 21 = m + 1 from by omega] at this
  · have := List.all_eq_true.1 deep_all02 (m % 20) (List.mem_range.2 hi)
    rwa [show m % 20 + 41 = m + 1 from by omega] at this
  · have := List.all_eq_true.1 deep_all03 (m % 20) (List.mem_range.2 hi)
    rwa [show m % 20 + 61 = m + 1 from by omega] at this
theorem deep_k1 (m : Nat) (h : m < 80) : deepOk 1 (m + 1) = true := by
  have hj : m / 20 = 0 ∨ m / 20 = 1 ∨ m / 20 = 2 ∨ m / 20 = 3 := by omega
  have hi : m % 20 < 20 := Nat.mod_lt _ (by omega)
  rcases hj with hj | hj | hj | hj
  · have := List.all_eq_true.1 deep_all10 (m % 20) (List.mem_range.2 hi)
    rwa [show m % 20 + 1 = m + 1 from by omega] at this
  · have := List.all_eq_true.1 deep_all11 (m % 20) (List.mem_range.2 hi)
    rwa [show m % 20 + 21 = m + 1 from by omega] at this
  · have := List.all_eq_true.1 deep_all12 (m % 20) (List.mem_range.2 hi)
    rwa [show m % 20 + 41 = m + 1 from by omega] at this
  · have := List.all_eq_true.1 deep_all13 (m % 20) (List.mem_range.2 hi)
    rwa [show m % 20 + 61 = m + 1 from by omega] at this
theorem deep_k2 (m : Nat) (h : m < 80) : deepOk 2 (m + 1) = true := by
  have hj : m / 20 = 0 ∨ m / 20 = 1 ∨ m / 20 = 2 ∨ m / 20 = 3 := by omega
  have hi : m % 20 < 20 := Nat.mod_lt _ (by omega)
  rcases hj with hj | hj | hj | hj
  · have := List.all_eq_true.1 deep_all20 (m % 20) (List.mem_range.2 hi)
    rwa [show m % 20 + 1 = m + 1 from by omega] at this
  · have := List.all_eq_true.1 deep_all21 (m % 20) (List.mem_range.2 hi)
    rwa [show m % 20 + 21 = m + 1 from by omega] at this
  · have := List.all_eq_true.1 deep_all22 (m % 20) (List.mem_range.2 hi)
    rwa [show m % 20 + 41 = m + 1 from by omega] at this
  · have := List.all_eq_true.1 deep_all23 (m % 20) (List.mem_range.2 hi)
    rwa [show m % 20 + 61 = m + 1 from by omega] at this
theorem deep_k3 (m : Nat) (h : m < 80) : deepOk 3 (m + 1) = true := by
  have hj : m / 20 = 0 ∨ m / 20 = 1 ∨ m / 20 = 2 ∨ m / 20 = 3 := by omega
  have hi : m % 20 < 20 := Nat.mod_lt _ (by omega)
  rcases hj with hj | hj | hj | hj
  · have := List.all_eq_true.1 deep_all30 (m % 20) (List.mem_range.2 hi)
    rwa [show m % 20 + 1 = m + 1 from by omega] at this
  · have := List.all_eq_true.1 deep_all31 (m % 20) (List.mem_range.2 hi)
    rwa [show m % 20 + 21 = m + 1 from by omega] at this
  · have := List.all_eq_true.1 deep_all32 (m % 20) (List.mem_range.2 hi)
    rwa [show m % 20 + 41 = m + 1 from by omega] at this
  · have := List.all_eq_true.1 deep_all33 (m % 20) (List.mem_range.2 hi)
    rwa [show m % 20 + 61 = m + 1 from by omega] at this
theorem deep_k4 (m : Nat) (h : m < 80) : deepOk 4 (m + 1) = true := by
  have hj : m / 20 = 0 ∨ m / 20 = 1 ∨ m / 20 = 2 ∨ m / 20 = 3 := by omega
  have hi : m % 20 < 20 := Nat.mod_lt _ (by omega)
  rcases hj with hj | hj | hj | hj
  · have := List.all_eq_true.1 deep_all40 (m % 20) (List.mem_range.2 hi)
    rwa [show m % 20 + 1 = m + 1 from by omega] at this
  · have := List.all_eq_true.1 deep_all41 (m % 20) (List.mem_range.2 hi)
    rwa [show m % 20 + 21 = m + 1 from by omega] at this
  · have := List.all_eq_true.1 deep_all42 (m % 20) (List.mem_range.2 hi)
    rwa [show m % 20 + 41 = m + 1 from by omega] at this
  · have := List.all_eq_true.1 deep_all43 (m % 20) (List.mem_range.2 hi)
    rwa [show m % 20 + 61 = m + 1 from by omega] at this
theorem deep_k5 (m : Nat) (h : m < 80) : deepOk 5 (m + 1) = true := by
  have hj : m / 20 = 0 ∨ m / 20 = 1 ∨ m / 20 = 2 ∨ m / 20 = 3 := by omega
  have hi : m % 20 < 20 := Nat.mod_lt _ (by omega)
  rcases hj with hj | hj | hj | hj
  · have := List.all_eq_true.1 deep_all50 (m % 20) (List.mem_range.2 hi)
    rwa [show m % 20 + 1 = m + 1 from by omega] at this
  · have := List.all_eq_true.1 deep_all51 (m % 20) (List.mem_range.2 hi)
    rwa [show m % 20 + 21 = m + 1 from by omega] at this
  · have := List.all_eq_true.1 deep_all52 (m % 20) (List.mem_range.2 hi)
    rwa [show m % 20 + 41 = m + 1 from by omega] at this
  · have := List.all_eq_true.1 deep_all53 (m % 20) (List.mem_range.2 hi)
    rwa [show m % 20 + 61 = m + 1 from by omega] at this
theorem round_k (m : Nat) (h : m < 80) : roundOk (m + 1) = true := by
  have hj : m / 20 = 0 ∨ m / 20 = 1 ∨ m / 20 = 2 ∨ m / 20 = 3 := by omega
  have hi : m % 20 < 20 := Nat.mod_lt _ (by omega)
  rcases hj with hj | hj | hj | hj
  · have := List.all_eq_true.1 round_all0 (m % 20) (List.mem_range.2 hi)
    rwa [show m % 20 + 1 = m + 1 from by omega] at this
  · have := List.all_eq_true.1 round_all1 (m % 20) (List.mem_range.2 hi)
    rwa [show m % 20 + 21 = m + 1 from by omega] at this
  · have := List.all_eq_true.1 round_all2 (m % 20) (List.mem_range.2 hi)
    rwa [show m % 20 + 41 = m + 1 from by omega] at this
  · have := List.all_eq_true.1 round_all3 (m % 20) (List.mem_range.2 hi)
    rwa [show m % 20 + 61 = m + 1 from by omega] at this
theorem deep_ok (k m : Nat) (hk : k < 6) (h1 : 1 ≤ m) (h2 : m ≤ 80) : deepOk k m = true := by
  obtain ⟨m, rfl⟩ : ∃ j, m = j + 1 := ⟨m - 1, by omega⟩
  have : k = 0 ∨ k = 1 ∨ k = 2 ∨ k = 3 ∨ k = 4 ∨ k = 5 := by omega
  rcases this with rfl | rfl | rfl | rfl | rfl | rfl
  · exact deep_k0 m (by omega)
  · exact deep_k1 m (by omega)
  · exact deep_k2 m (by omega)
  · exact deep_k3 m (by omega)
  · exact deep_k4 m (by omega)
  · exact deep_k5 m (by omega)
theorem round_ok (m : Nat) (h1 : 1 ≤ m) (h2 : m ≤ 80) : roundOk m = true := by
  obtain ⟨m, rfl⟩ : ∃ j, m = j + 1 := ⟨m - 1, by omega⟩
  exact round_k m (by omega)
theorem deep_int (a b : Int) (ha : (Lit.int .u8 a).wf = true) (hb : (Lit.int .u8 b).wf = true) (w : World) (htab : Asp w) : Calls Tryd.prog 10 #[.int .u8 a, .int .u8 b] w fun e w' => e = .returned (.bool true) ∧ Below w.heap.size w w' := by
  obtain ⟨a, rfl, h1⟩ := byte_of ha
  obtain ⟨b, rfl, h2⟩ := byte_of hb
  exact deep_walk a b h1 h2 deep_ok round_ok w htab
end Go.Proofs.YtjdcicopjipmnaaDoor
