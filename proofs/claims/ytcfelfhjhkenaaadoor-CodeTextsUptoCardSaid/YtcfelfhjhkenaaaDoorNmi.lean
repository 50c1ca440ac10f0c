/- in.number, in.text. -/
import Derived.Test.YtcfelfhjhkenaaaDoorTak
namespace Go.Proofs.YtcfelfhjhkenaaaDoor
open Go.RowKit
set_option linter.unusedVariables false
set_option linter.unusedSimpArgs false
attribute [local go_sem] Oper.semAt_some

theorem Took.ok' {α : Type} {w : World} {x : Nat} {V : World → α → Value → Prop} {r : Except Int (α × List UInt8)} {a : α} {l : List UInt8} {e : Ending} {w' : World} (h : Took w x V r e w') (hr : r = .ok (a, l)) : ∃ v, e = .returned v ∧ V w' a v ∧ Blk w' x 70 #[.string (bstr l)] ∧ Mod (fun i => i = x) w w' := by
  subst hr
  exact h.ok
theorem Took.err' {α : Type} {w : World} {x : Nat} {V : World → α → Value → Prop} {r : Except Int (α × List UInt8)} {y : Int} {e : Ending} {w' : World} (h : Took w x V r e w') (hr : r = .error y) : e = .panicked [{ v := .iface 24 (.int .i64 y), recovered := false }] ∧ Mod (fun i => i = x) w w' := by
  subst hr
  exact ⟨h.2, h.1⟩
theorem mod_trans {x : Nat} {a b c : World} (h : Mod (fun i => i = x) a b) (k : Mod (fun i => i = x) b c) : Mod (fun i => i = x) a c := h.trans k fun _ _ e => e
theorem mod_refl (x : Nat) (a : World) : Mod (fun i => i = x) a a := Mod.refl _ _
def NatV (_ : World) (n : Nat) (v : Value) : Prop := v = .int .i64 n
theorem or_nat {a b : Nat} (ha : a < 4611686018427387904) (hb : b < 4611686018427387904) : bits BinOp.or .i64 (a : Int) (b : Int) = ((a ||| b : Nat) : Int) := by
  have h1 : (BitVec.ofInt 64 (a : Int)).toNat = a := by rw [BitVec.ofInt_natCast, BitVec.toNat_ofNat]; exact Nat.mod_eq_of_lt (by omega)
  have h2 : (BitVec.ofInt 64 (b : Int)).toNat = b := by rw [BitVec.ofInt_natCast, BitVec.toNat_ofNat]; exact Nat.mod_eq_of_lt (by omega)
  have h3 : (BitVec.ofInt 64 (a : Int) ||| BitVec.ofInt 64 (b : Int)).toNat = a ||| b := by rw [BitVec.toNat_or, h1, h2]
  have h4 : a ||| b < 2 ^ 62 := Nat.or_lt_two_pow (by omega) (by omega)
  show IntKind.i64.wrap ((BitVec.ofInt 64 (a : Int) ||| BitVec.ofInt 64 (b : Int)).toNat : Int) = _
  rw [h3]
  exact wrap_nat (by omega)
set_option maxRecDepth 100000 in
theorem and127 (b : UInt8) : bits BinOp.and .u8 (b.toNat : Int) 127 = ((b.toNat % 128 : Nat) : Int) := by
  have h : ∀ j : Fin 256, bits BinOp.and .u8 ((j.val : Nat) : Int) 127 = ((j.val % 128 : Nat) : Int) := by decide
  exact h ⟨b.toNat, b.toNat_lt⟩
theorem or_low {k c s : Nat} (hk : k < 2 ^ s) : k ||| c * 2 ^ s = k + c * 2 ^ s := by
  rw [Nat.or_comm, Nat.mul_comm, Nat.add_comm, Nat.two_pow_add_eq_or_of_lt hk]
theorem step_or {k i : Nat} (b : UInt8) (hk : k < 128 ^ i) (hi : i ≤ 4) (p : Int) (hp : p = ((128 ^ i : Nat) : Int)) : bits BinOp.or .i64 (k : Int) (wrap64 (wrap64 (bits BinOp.and .u8 (b.toNat : Int) 127) * p)) = ((k + b.toNat % 128 * 128 ^ i : Nat) : Int) := by
  have e2 : (128 : Nat) ^ i = 2 ^ (7 * i) := by rw [Nat.pow_mul]
  have hpw : 128 ^ i ≤ 268435456 := by
    have := Nat.pow_le_pow_right (show 0 < 128 by decide) hi
    omega
  have hmul : b.toNat % 128 * 128 ^ i ≤ 127 * 268435456 := Nat.mul_le_mul (by omega) hpw
  have hw1 : wrap64 ((b.toNat % 128 : Nat) : Int) = ((b.toNat % 128 : Nat) : Int) := by unfold wrap64; omega
  have hw2 : wrap64 ((b.toNat % 128 * 128 ^ i : Nat) : Int) = ((b.toNat % 128 * 128 ^ i : Nat) : Int) := by unfold wrap64; omega
  rw [and127, hw1, hp, ← Int.natCast_mul, hw2, or_nat (by omega) (by omega)]
  congr 1
  rw [e2] at hk ⊢
  exact or_low hk
theorem numL_nil (most k i n : Nat) : numL most (k + 1) i n [] = .error 50 := rfl

set_option maxRecDepth 100000 in
set_option maxHeartbeats 4000000 in
theorem number_in {w : World} {x : Nat} {l : List UInt8} (h : Blk w x 70 #[.string (bstr l)]) (most : Nat) (hm : most ≤ 2147483647) :
    Calls Tryd.prog 52 #[.pointer (some ⟨x, 0, none⟩), .int .i64 most] w (Took w x NatV (numP most l)) := by
  have H := Lib.hid h
  clear h
  go_enter Tryd.func52, Tryd.ntmps52
  go_wp2_with fail
  go_loopw [5, 6] (fun n b wr => ∃ (i k : Nat) (rest : List UInt8), i ≤ 4 ∧ k < 128 ^ i ∧ n = .int .i64 k ∧ b = .int .i64 (7 * (i : Int)) ∧ numP most l = numL most (5 - i) i k rest ∧ Blk wr x 70 #[.string (bstr rest)] ∧ Mod (fun i => i = x) w wr) (fun _ b _ => (35 - intOf b).toNat)
  case atStart => exact ⟨0, 0, l, by omega, by simp, rfl, rfl, rfl, H.out, Mod.refl _ _⟩
  case round =>
    clear H
    obtain ⟨i, k, rest, hi, hk, rfl, rfl, hN, hB, hM⟩ := hrel
    rw [show 5 - i = (4 - i) + 1 by omega] at hN
    have HB := Lib.hid hB
    have HM := Lib.hid hM
    clear hB hM
    cases rest with
    | nil =>
      rw [numL_nil] at hN
      have HN := Lib.hid hN
      clear hN
      go_wp2_with fail
      refine (among_any HB.out 0 255).mono ?_
      rintro e w1 ht
      obtain ⟨rfl, hm1⟩ := ht.err' rfl
      exact ⟨rfl, mod_trans HM.out hm1, by rw [HN.out]⟩
    | cons b r =>
      rw [numL_cons] at hN
      go_wp2_with fail
      refine (among_any HB.out 0 255).mono ?_
      rintro e w1 ht
      obtain ⟨v, rfl, rfl, hB, hm1⟩ := ht.ok' (if_pos (by have := b.toNat_lt; omega))
      have HB1 := Lib.hid hB
      have HM1 := Lib.hid (mod_trans HM.out hm1)
      clear ht hB hm1 HB HM
      have hb := b.toNat_lt
      rcases (show i = 0 ∨ i = 1 ∨ i = 2 ∨ i = 3 ∨ i = 4 by omega) with rfl | rfl | rfl | rfl | rfl
      · have hst := step_or b hk (by omega) 1 (by decide)
        simp only [Int.mul_one] at hst
        obtain ⟨m, hmm⟩ : ∃ m : Nat, m = k + b.toNat % 128 * 128 ^ 0 := ⟨_, rfl⟩
        rw [← hmm] at hst hN
        have hml : m < 128 ^ (0 + 1) := by omega
        clear hmm hk
        by_cases hlo : b.toNat < 128
        · rw [if_pos hlo] at hN
          by_cases hz : 0 = 0 ∨ 0 < b.toNat
          · by_cases hb31 : m ≤ 2147483647
            · rw [if_pos ⟨hz, hb31⟩] at hN
              have hd1 : decide ((m : Int) ≤ 2147483647) = true := decide_eq_true (by omega)
              clear hz hb31
              by_cases hmo : m ≤ most
              · rw [if_pos hmo] at hN
                have HN := Lib.hid hN
                clear hN
                have hd2 : decide (m ≤ most) = true := decide_eq_true hmo
                go_wp2_with fail
                refine (need_yes 50 _).mono ?_
                rintro e w2 ⟨rfl, rfl⟩
                go_wp2_with fail
                refine (need_yes 2 _).mono ?_
                rintro e w2 ⟨rfl, rfl⟩
                go_wp2_with fail
                go_ret
                rw [HN.out]
                exact ⟨HM1.out, ⟨_, rfl, rfl⟩, HB1.out⟩
              · rw [if_neg hmo] at hN
                have HN := Lib.hid hN
                clear hN
                have hd2 : decide (m ≤ most) = false := decide_eq_false hmo
                go_wp2_with fail
                refine (need_yes 50 _).mono ?_
                rintro e w2 ⟨rfl, rfl⟩
                go_wp2_with fail
                refine (need_no 2 _).mono ?_
                rintro e w2 ⟨rfl, rfl⟩
                exact ⟨rfl, HM1.out, by rw [HN.out]⟩
            · rw [if_neg (fun h => hb31 h.2)] at hN
              have HN := Lib.hid hN
              clear hN
              have hd1 : decide ((m : Int) ≤ 2147483647) = false := decide_eq_false (by omega)
              clear hz hb31
              go_wp2_with fail
              refine (need_no 50 _).mono ?_
              rintro e w2 ⟨rfl, rfl⟩
              exact ⟨rfl, HM1.out, by rw [HN.out]⟩
          · rw [if_neg (fun h => hz h.1)] at hN
            exact absurd (Or.inl rfl) hz
        · rw [if_neg hlo] at hN
          have HN := Lib.hid hN
          clear hN
          go_wp2_with fail
          refine (need_yes 50 _).mono ?_
          rintro e w2 ⟨rfl, rfl⟩
          go_wp2
          go_roundw
          case rel => exact ⟨1, m, r, by omega, hml, rfl, rfl, HN.out, HB1.out, HM1.out⟩
          case measure => simp [intOf]
      · have hst := step_or b hk (by omega) 128 (by decide)
        obtain ⟨m, hmm⟩ : ∃ m : Nat, m = k + b.toNat % 128 * 128 ^ 1 := ⟨_, rfl⟩
        rw [← hmm] at hst hN
        have hml : m < 128 ^ (1 + 1) := by omega
        clear hmm hk
        by_cases hlo : b.toNat < 128
        · rw [if_pos hlo] at hN
          by_cases hz : 1 = 0 ∨ 0 < b.toNat
          · by_cases hb31 : m ≤ 2147483647
            · rw [if_pos ⟨hz, hb31⟩] at hN
              have hz : 0 < b.toNat := by omega
              have hdz : decide (0 < (b.toNat : Int)) = true := decide_eq_true (by omega)
              have hd1 : decide ((m : Int) ≤ 2147483647) = true := decide_eq_true (by omega)
              clear hz hb31
              by_cases hmo : m ≤ most
              · rw [if_pos hmo] at hN
                have HN := Lib.hid hN
                clear hN
                have hd2 : decide (m ≤ most) = true := decide_eq_true hmo
                go_wp2_with fail
                refine (need_yes 50 _).mono ?_
                rintro e w2 ⟨rfl, rfl⟩
                go_wp2_with fail
                refine (need_yes 2 _).mono ?_
                rintro e w2 ⟨rfl, rfl⟩
                go_wp2_with fail
                go_ret
                rw [HN.out]
                exact ⟨HM1.out, ⟨_, rfl, rfl⟩, HB1.out⟩
              · rw [if_neg hmo] at hN
                have HN := Lib.hid hN
                clear hN
                have hd2 : decide (m ≤ most) = false := decide_eq_false hmo
                go_wp2_with fail
                refine (need_yes 50 _).mono ?_
                rintro e w2 ⟨rfl, rfl⟩
                go_wp2_with fail
                refine (need_no 2 _).mono ?_
                rintro e w2 ⟨rfl, rfl⟩
                exact ⟨rfl, HM1.out, by rw [HN.out]⟩
            · rw [if_neg (fun h => hb31 h.2)] at hN
              have hz : 0 < b.toNat := by omega
              have hdz : decide (0 < (b.toNat : Int)) = true := decide_eq_true (by omega)
              have HN := Lib.hid hN
              clear hN
              have hd1 : decide ((m : Int) ≤ 2147483647) = false := decide_eq_false (by omega)
              clear hz hb31
              go_wp2_with fail
              refine (need_no 50 _).mono ?_
              rintro e w2 ⟨rfl, rfl⟩
              exact ⟨rfl, HM1.out, by rw [HN.out]⟩
          · rw [if_neg (fun h => hz h.1)] at hN
            have HN := Lib.hid hN
            clear hN
            have hz : ¬ 0 < b.toNat := fun h => hz (.inr h)
            have hdz : decide (0 < (b.toNat : Int)) = false := decide_eq_false (by omega)
            go_wp2_with fail
            refine (need_no 50 _).mono ?_
            rintro e w2 ⟨rfl, rfl⟩
            exact ⟨rfl, HM1.out, by rw [HN.out]⟩
        · rw [if_neg hlo] at hN
          have HN := Lib.hid hN
          clear hN
          go_wp2_with fail
          refine (need_yes 50 _).mono ?_
          rintro e w2 ⟨rfl, rfl⟩
          go_wp2
          go_roundw
          case rel => exact ⟨2, m, r, by omega, hml, rfl, rfl, HN.out, HB1.out, HM1.out⟩
          case measure => simp [intOf]
      · have hst := step_or b hk (by omega) 16384 (by decide)
        obtain ⟨m, hmm⟩ : ∃ m : Nat, m = k + b.toNat % 128 * 128 ^ 2 := ⟨_, rfl⟩
        rw [← hmm] at hst hN
        have hml : m < 128 ^ (2 + 1) := by omega
        clear hmm hk
        by_cases hlo : b.toNat < 128
        · rw [if_pos hlo] at hN
          by_cases hz : 2 = 0 ∨ 0 < b.toNat
          · by_cases hb31 : m ≤ 2147483647
            · rw [if_pos ⟨hz, hb31⟩] at hN
              have hz : 0 < b.toNat := by omega
              have hdz : decide (0 < (b.toNat : Int)) = true := decide_eq_true (by omega)
              have hd1 : decide ((m : Int) ≤ 2147483647) = true := decide_eq_true (by omega)
              clear hz hb31
              by_cases hmo : m ≤ most
              · rw [if_pos hmo] at hN
                have HN := Lib.hid hN
                clear hN
                have hd2 : decide (m ≤ most) = true := decide_eq_true hmo
                go_wp2_with fail
                refine (need_yes 50 _).mono ?_
                rintro e w2 ⟨rfl, rfl⟩
                go_wp2_with fail
                refine (need_yes 2 _).mono ?_
                rintro e w2 ⟨rfl, rfl⟩
                go_wp2_with fail
                go_ret
                rw [HN.out]
                exact ⟨HM1.out, ⟨_, rfl, rfl⟩, HB1.out⟩
              · rw [if_neg hmo] at hN
                have HN := Lib.hid hN
                clear hN
                have hd2 : decide (m ≤ most) = false := decide_eq_false hmo
                go_wp2_with fail
                refine (need_yes 50 _).mono ?_
                rintro e w2 ⟨rfl, rfl⟩
                go_wp2_with fail
                refine (need_no 2 _).mono ?_
                rintro e w2 ⟨rfl, rfl⟩
                exact ⟨rfl, HM1.out, by rw [HN.out]⟩
            · rw [if_neg (fun h => hb31 h.2)] at hN
              have hz : 0 < b.toNat := by omega
              have hdz : decide (0 < (b.toNat : Int)) = true := decide_eq_true (by omega)
              have HN := Lib.hid hN
              clear hN
              have hd1 : decide ((m : Int) ≤ 2147483647) = false := decide_eq_false (by omega)
              clear hz hb31
              go_wp2_with fail
              refine (need_no 50 _).mono ?_
              rintro e w2 ⟨rfl, rfl⟩
              exact ⟨rfl, HM1.out, by rw [HN.out]⟩
          · rw [if_neg (fun h => hz h.1)] at hN
            have HN := Lib.hid hN
            clear hN
            have hz : ¬ 0 < b.toNat := fun h => hz (.inr h)
            have hdz : decide (0 < (b.toNat : Int)) = false := decide_eq_false (by omega)
            go_wp2_with fail
            refine (need_no 50 _).mono ?_
            rintro e w2 ⟨rfl, rfl⟩
            exact ⟨rfl, HM1.out, by rw [HN.out]⟩
        · rw [if_neg hlo] at hN
          have HN := Lib.hid hN
          clear hN
          go_wp2_with fail
          refine (need_yes 50 _).mono ?_
          rintro e w2 ⟨rfl, rfl⟩
          go_wp2
          go_roundw
          case rel => exact ⟨3, m, r, by omega, hml, rfl, rfl, HN.out, HB1.out, HM1.out⟩
          case measure => simp [intOf]
      · have hst := step_or b hk (by omega) 2097152 (by decide)
        obtain ⟨m, hmm⟩ : ∃ m : Nat, m = k + b.toNat % 128 * 128 ^ 3 := ⟨_, rfl⟩
        rw [← hmm] at hst hN
        have hml : m < 128 ^ (3 + 1) := by omega
        clear hmm hk
        by_cases hlo : b.toNat < 128
        · rw [if_pos hlo] at hN
          by_cases hz : 3 = 0 ∨ 0 < b.toNat
          · by_cases hb31 : m ≤ 2147483647
            · rw [if_pos ⟨hz, hb31⟩] at hN
              have hz : 0 < b.toNat := by omega
              have hdz : decide (0 < (b.toNat : Int)) = true := decide_eq_true (by omega)
              have hd1 : decide ((m : Int) ≤ 2147483647) = true := decide_eq_true (by omega)
              clear hz hb31
              by_cases hmo : m ≤ most
              · rw [if_pos hmo] at hN
                have HN := Lib.hid hN
                clear hN
                have hd2 : decide (m ≤ most) = true := decide_eq_true hmo
                go_wp2_with fail
                refine (need_yes 50 _).mono ?_
                rintro e w2 ⟨rfl, rfl⟩
                go_wp2_with fail
                refine (need_yes 2 _).mono ?_
                rintro e w2 ⟨rfl, rfl⟩
                go_wp2_with fail
                go_ret
                rw [HN.out]
                exact ⟨HM1.out, ⟨_, rfl, rfl⟩, HB1.out⟩
              · rw [if_neg hmo] at hN
                have HN := Lib.hid hN
                clear hN
                have hd2 : decide (m ≤ most) = false := decide_eq_false hmo
                go_wp2_with fail
                refine (need_yes 50 _).mono ?_
                rintro e w2 ⟨rfl, rfl⟩
                go_wp2_with fail
                refine (need_no 2 _).mono ?_
                rintro e w2 ⟨rfl, rfl⟩
                exact ⟨rfl, HM1.out, by rw [HN.out]⟩
            · rw [if_neg (fun h => hb31 h.2)] at hN
              have hz : 0 < b.toNat := by omega
              have hdz : decide (0 < (b.toNat : Int)) = true := decide_eq_true (by omega)
              have HN := Lib.hid hN
              clear hN
              have hd1 : decide ((m : Int) ≤ 2147483647) = false := decide_eq_false (by omega)
              clear hz hb31
              go_wp2_with fail
              refine (need_no 50 _).mono ?_
              rintro e w2 ⟨rfl, rfl⟩
              exact ⟨rfl, HM1.out, by rw [HN.out]⟩
          · rw [if_neg (fun h => hz h.1)] at hN
            have HN := Lib.hid hN
            clear hN
            have hz : ¬ 0 < b.toNat := fun h => hz (.inr h)
            have hdz : decide (0 < (b.toNat : Int)) = false := decide_eq_false (by omega)
            go_wp2_with fail
            refine (need_no 50 _).mono ?_
            rintro e w2 ⟨rfl, rfl⟩
            exact ⟨rfl, HM1.out, by rw [HN.out]⟩
        · rw [if_neg hlo] at hN
          have HN := Lib.hid hN
          clear hN
          go_wp2_with fail
          refine (need_yes 50 _).mono ?_
          rintro e w2 ⟨rfl, rfl⟩
          go_wp2
          go_roundw
          case rel => exact ⟨4, m, r, by omega, hml, rfl, rfl, HN.out, HB1.out, HM1.out⟩
          case measure => simp [intOf]
      · have hst := step_or b hk (by omega) 268435456 (by decide)
        obtain ⟨m, hmm⟩ : ∃ m : Nat, m = k + b.toNat % 128 * 128 ^ 4 := ⟨_, rfl⟩
        rw [← hmm] at hst hN
        have hml : m < 128 ^ (4 + 1) := by omega
        clear hmm hk
        by_cases hlo : b.toNat < 128
        · rw [if_pos hlo] at hN
          by_cases hz : 4 = 0 ∨ 0 < b.toNat
          · by_cases hb31 : m ≤ 2147483647
            · rw [if_pos ⟨hz, hb31⟩] at hN
              have hz : 0 < b.toNat := by omega
              have hdz : decide (0 < (b.toNat : Int)) = true := decide_eq_true (by omega)
              have hd1 : decide ((m : Int) ≤ 2147483647) = true := decide_eq_true (by omega)
              clear hz hb31
              by_cases hmo : m ≤ most
              · rw [if_pos hmo] at hN
                have HN := Lib.hid hN
                clear hN
                have hd2 : decide (m ≤ most) = true := decide_eq_true hmo
                go_wp2_with fail
                refine (need_yes 50 _).mono ?_
                rintro e w2 ⟨rfl, rfl⟩
                go_wp2_with fail
                refine (need_yes 2 _).mono ?_
                rintro e w2 ⟨rfl, rfl⟩
                go_wp2_with fail
                go_ret
                rw [HN.out]
                exact ⟨HM1.out, ⟨_, rfl, rfl⟩, HB1.out⟩
              · rw [if_neg hmo] at hN
                have HN := Lib.hid hN
                clear hN
                have hd2 : decide (m ≤ most) = false := decide_eq_false hmo
                go_wp2_with fail
                refine (need_yes 50 _).mono ?_
                rintro e w2 ⟨rfl, rfl⟩
                go_wp2_with fail
                refine (need_no 2 _).mono ?_
                rintro e w2 ⟨rfl, rfl⟩
                exact ⟨rfl, HM1.out, by rw [HN.out]⟩
            · rw [if_neg (fun h => hb31 h.2)] at hN
              have hz : 0 < b.toNat := by omega
              have hdz : decide (0 < (b.toNat : Int)) = true := decide_eq_true (by omega)
              have HN := Lib.hid hN
              clear hN
              have hd1 : decide ((m : Int) ≤ 2147483647) = false := decide_eq_false (by omega)
              clear hz hb31
              go_wp2_with fail
              refine (need_no 50 _).mono ?_
              rintro e w2 ⟨rfl, rfl⟩
              exact ⟨rfl, HM1.out, by rw [HN.out]⟩
          · rw [if_neg (fun h => hz h.1)] at hN
            have HN := Lib.hid hN
            clear hN
            have hz : ¬ 0 < b.toNat := fun h => hz (.inr h)
            have hdz : decide (0 < (b.toNat : Int)) = false := decide_eq_false (by omega)
            go_wp2_with fail
            refine (need_no 50 _).mono ?_
            rintro e w2 ⟨rfl, rfl⟩
            exact ⟨rfl, HM1.out, by rw [HN.out]⟩
        · rw [if_neg hlo] at hN
          have HN := Lib.hid hN
          clear hN
          go_wp2_with fail
          refine (need_no 50 _).mono ?_
          rintro e w2 ⟨rfl, rfl⟩
          exact ⟨rfl, HM1.out, by rw [HN.out]; rfl⟩
set_option maxHeartbeats 400000 in
theorem text_in {w : World} {x : Nat} {l : List UInt8} (h : Blk w x 70 #[.string (bstr l)]) :
    Calls Tryd.prog 59 #[.pointer (some ⟨x, 0, none⟩)] w (Took w x (fun _ s v => v = .string s) (textP l)) := by
  have H := Lib.hid h
  clear h
  go_enter Tryd.func59, Tryd.ntmps59
  go_wp2_with fail
  refine (number_in H.out 65536 (by omega)).mono ?_
  rintro e w1 ht
  cases hx : numP 65536 l with
  | error y =>
    obtain ⟨rfl, hm⟩ := ht.err' hx
    have hr : textP l = .error y := bindP_error hx
    exact ⟨rfl, hm, by rw [hr]⟩
  | ok v =>
    obtain ⟨n, r⟩ := v
    obtain ⟨v, rfl, rfl, hB, hm⟩ := ht.ok' hx
    have HB := Lib.hid hB
    have HM := Lib.hid hm
    have HX := Lib.hid hx
    clear ht hB hm hx H
    go_wp2_with fail
    refine (take_any HB.out n).mono ?_
    rintro e w2 ht
    cases hy : takeP n r with
    | error y =>
      obtain ⟨rfl, hm⟩ := ht.err' hy
      have hr : textP l = .error y := by rw [textP, bindP_ok HX.out, bindP_error hy]
      exact ⟨rfl, mod_trans HM.out hm, by rw [hr]⟩
    | ok v =>
      obtain ⟨t, q⟩ := v
      obtain ⟨v, rfl, rfl, hB, hm⟩ := ht.ok' hy
      have hr : textP l = .ok (bstr t, q) := by rw [textP, bindP_ok HX.out, bindP_ok hy]; rfl
      have HR := Lib.hid hr
      have HB2 := Lib.hid hB
      have HM2 := Lib.hid (mod_trans HM.out hm)
      clear ht hB hm hy hr
      go_wp2_with fail
      go_ret
      rw [HR.out]
      exact ⟨HM2.out, ⟨_, rfl, rfl⟩, HB2.out⟩
end Go.Proofs.YtcfelfhjhkenaaaDoor
