/- Bits of numbers of 64 bits: a mask, and what is turned by xor. -/
import Derived.WalkKit
import Derived.Laws.Entries
namespace Go.Proofs.YtcfelfhjhkenaaaDoor
open Go.RowKit

theorem wrap_nat {n : Nat} (h : n < 9223372036854775808) : IntKind.i64.wrap (n : Int) = (n : Int) := by
  rw [IntKind.wrap_i64]
  omega
/-- a mask leaves a number that is no greater -/
theorem and_small (x : Int) (m : Nat) (hm : m < 9223372036854775808) : ∃ a : Nat, a ≤ m ∧ bits BinOp.and IntKind.i64 x (m : Int) = (a : Int) := by
  have hb : (BitVec.ofInt 64 (m : Int)).toNat = m := by
    rw [BitVec.ofInt_natCast, BitVec.toNat_ofNat]
    exact Nat.mod_eq_of_lt (by omega)
  have h : (BitVec.ofInt 64 x &&& BitVec.ofInt 64 (m : Int)).toNat ≤ m := by
    rw [BitVec.toNat_and, hb]
    exact Nat.and_le_right
  refine ⟨_, h, ?_⟩
  show IntKind.i64.wrap ((BitVec.ofInt 64 x &&& BitVec.ofInt 64 (m : Int)).toNat : Int) = _
  exact wrap_nat (by omega)
theorem wrap_toNat (u : BitVec 64) : IntKind.i64.wrap (u.toNat : Int) = u.toInt := by
  rw [IntKind.wrap_i64, BitVec.toInt_eq_toNat_cond]
  have := u.isLt
  split <;> omega
theorem xor_toInt (y x : Int) : bits BinOp.xor IntKind.i64 y x = (BitVec.ofInt 64 y ^^^ BitVec.ofInt 64 x).toInt := wrap_toNat _
theorem ofInt_in {y : Int} (h : -9223372036854775808 ≤ y ∧ y ≤ 9223372036854775807) : (BitVec.ofInt 64 y).toInt = y := by
  rw [BitVec.toInt_ofInt]
  simp only [Int.bmod]
  omega
/-- xor, where it is one; else as it is -/
def xorI (x y : Int) : Int := if -9223372036854775808 ≤ y ∧ y ≤ 9223372036854775807 then bits BinOp.xor IntKind.i64 y x else y
theorem xorI_in {x y : Int} (h : -9223372036854775808 ≤ y ∧ y ≤ 9223372036854775807) : xorI x y = bits BinOp.xor IntKind.i64 y x := if_pos h
theorem xorI_range {x y : Int} (h : -9223372036854775808 ≤ y ∧ y ≤ 9223372036854775807) : -9223372036854775808 ≤ xorI x y ∧ xorI x y ≤ 9223372036854775807 := by
  rw [xorI_in h, xor_toInt]
  have h1 := BitVec.le_toInt (BitVec.ofInt 64 y ^^^ BitVec.ofInt 64 x)
  have h2 := BitVec.toInt_lt (x := BitVec.ofInt 64 y ^^^ BitVec.ofInt 64 x)
  simp only [Nat.reduceSub, Int.reducePow, Int.reduceNeg] at h1 h2
  omega
theorem xorI_inj (x a b : Int) (h : xorI x a = xorI x b) : a = b := by
  by_cases ha : -9223372036854775808 ≤ a ∧ a ≤ 9223372036854775807
  · by_cases hb : -9223372036854775808 ≤ b ∧ b ≤ 9223372036854775807
    · rw [xorI_in ha, xorI_in hb, xor_toInt, xor_toInt] at h
      have h2 := BitVec.eq_of_toInt_eq h
      have h3 : BitVec.ofInt 64 a = BitVec.ofInt 64 b := by
        have := congrArg (· ^^^ BitVec.ofInt 64 x) h2
        simpa [BitVec.xor_assoc] using this
      rw [← ofInt_in ha, ← ofInt_in hb, h3]
    · have h1 := xorI_range (x := x) ha
      rw [h, show xorI x b = b from if_neg hb] at h1
      exact absurd h1 hb
  · by_cases hb : -9223372036854775808 ≤ b ∧ b ≤ 9223372036854775807
    · have h1 := xorI_range (x := x) hb
      rw [← h, show xorI x a = a from if_neg ha] at h1
      exact absurd h1 ha
    · rw [show xorI x a = a from if_neg ha, show xorI x b = b from if_neg hb] at h
      exact h
end Go.Proofs.YtcfelfhjhkenaaaDoor
