/- scan.Name. -/
import Derived.Test.YtjdcicopjipmnaaDoorKwd
namespace Go.Proofs.YtjdcicopjipmnaaDoor
open Go.RowKit
set_option linter.unusedVariables false
set_option linter.unusedSimpArgs false
attribute [local go_sem] Oper.semAt_some
set_option maxRecDepth 100000 in
set_option maxHeartbeats 1000000 in
theorem digit_any (c : UInt8) (w : World) : Calls Tryd.prog 68 #[.int .u8 c.toNat] w fun e w' => e = .returned (.bool (digitB c)) ∧ w' = w := by
  have e : digitB c = (decide ((48 : Int) ≤ (c.toNat : Int)) && decide ((c.toNat : Int) ≤ 57)) := by
    unfold digitB
    congr 1 <;> simp [UInt8.le_iff_toNat_le] <;> omega
  rw [e]
  by_cases h1 : (48 : Int) ≤ (c.toNat : Int)
  · have d1 : decide ((48 : Int) ≤ (c.toNat : Int)) = true := decide_eq_true h1
    rw [d1, Bool.true_and]
    clear e h1
    go_enter Tryd.func68, Tryd.ntmps68
    go_wp2_with fail
    go_ret
    exact ⟨rfl, rfl⟩
  · have d1 : decide ((48 : Int) ≤ (c.toNat : Int)) = false := decide_eq_false h1
    rw [d1, Bool.false_and]
    clear e h1
    go_enter Tryd.func68, Tryd.ntmps68
    go_wp2_with fail
    go_ret
    exact ⟨rfl, rfl⟩
theorem ret_b {a b : Bool} (h : a = b) : Ending.returned (.bool a) = Ending.returned (.bool b) := congrArg (fun x => Ending.returned (.bool x)) h
def letterI (B n : Int) : Bool := (decide (97 ≤ B) && decide (B ≤ 122) && decide (65 ≤ n)) || decide (n = 95)
theorem letter_fin : ∀ i : Fin 256, letterB (UInt8.ofNat i.val) = letterI (bits BinOp.or IntKind.u8 (i.val : Int) 32) (i.val : Int) := by decide +kernel
theorem letter_eq (c : UInt8) : letterB c = letterI (bits BinOp.or IntKind.u8 (c.toNat : Int) 32) (c.toNat : Int) := by
  have := letter_fin ⟨c.toNat, c.toNat_lt⟩
  simpa using this
set_option maxRecDepth 100000 in
set_option maxHeartbeats 1000000 in
theorem letter_any (c : UInt8) (w : World) : Calls Tryd.prog 43 #[.int .u8 c.toNat] w fun e w' => e = .returned (.bool (letterB c)) ∧ w' = w := by
  rw [letter_eq]
  go_enter Tryd.func43, Tryd.ntmps43
  go_wp2_with fail
  all_goals (go_ret; refine ⟨ret_b ?_, rfl⟩)
  all_goals (generalize bits BinOp.or IntKind.u8 (c.toNat : Int) 32 = B at *)
  all_goals (rw [Bool.eq_iff_iff]; simp only [letterI, Bool.or_eq_true, Bool.and_eq_true, decide_eq_true_eq, beq_iff_eq, true_iff, iff_true]; omega)
def okB (x : UInt8) : Bool := letterB x || digitB x
set_option maxRecDepth 100000 in
set_option maxHeartbeats 1000000 in
theorem word_any (t : ByteArray) (ht : t.size ≤ maxLen) (w : World) : Calls Tryd.prog 44 #[.string t] w fun e w' => (∃ r, e = .returned (.string r) ∧ (r = t ↔ t.data.toList.all okB = true)) ∧ w' = w := by
  have ht2 : t.size ≤ 9223372036854775807 := by have := ht; unfold maxLen at this; omega
  go_enter Tryd.func44, Tryd.ntmps44
  go_wp2_with fail
  go_loopw [6] (fun i wr => ∃ k : Nat, k ≤ t.size ∧ i = .int .i64 k ∧ Hid (∀ j x, j < k → t.data.toList[j]? = some x → okB x = true) ∧ wr = w) (fun i _ => t.size - (intOf i).toNat)
  case atStart => exact ⟨0, Nat.zero_le _, rfl, Lib.hid fun j x hj => absurd hj (by omega), rfl⟩
  case round =>
    obtain ⟨k, hk, rfl, H0, rfl⟩ := hrel
    by_cases hlt : k < t.size
    · have hx : t.data.toList[k]? = some t[k] := by rw [List.getElem?_eq_getElem (by simpa using hlt)]; rfl
      have HX := Lib.hid hx
      clear hx
      by_cases hl : letterB t[k] = true
      · have HL := Lib.hid hl
        go_wp2_with (go_at_call 43; refine (letter_any _ _).mono ?_; rintro e w1 ⟨rfl, rfl⟩)
        go_round
        case rel =>
          refine ⟨k + 1, by omega, by go_num, Lib.hid fun j x hj hx => ?_, by first | rfl | trivial⟩
          by_cases e : j = k
          · subst e
            rw [HX.out] at hx
            obtain rfl := Option.some.inj hx
            unfold okB
            rw [HL.out]; rfl
          · exact H0.out j x (by omega) hx
        case measure => simp [intOf]; omega
      · have hl : letterB t[k] = false := by simpa using hl
        have HL := Lib.hid hl
        by_cases hd : digitB t[k] = true
        · have HD := Lib.hid hd
          go_wp2_with (first | (go_at_call 43; refine (letter_any _ _).mono ?_; rintro e w1 ⟨rfl, rfl⟩) | (go_at_call 68; refine (digit_any _ _).mono ?_; rintro e w1 ⟨rfl, rfl⟩))
          go_round
          case rel =>
            refine ⟨k + 1, by omega, by go_num, Lib.hid fun j x hj hx => ?_, by first | rfl | trivial⟩
            by_cases e : j = k
            · subst e
              rw [HX.out] at hx
              obtain rfl := Option.some.inj hx
              unfold okB
              rw [HD.out, Bool.or_true]
            · exact H0.out j x (by omega) hx
          case measure => simp [intOf]; omega
        · have hd : digitB t[k] = false := by simpa using hd
          have HN : Hid (okB t[k] = false) := by show _ = _; unfold okB; rw [hl, hd]; rfl
          go_wp2_with (first | (go_at_call 43; refine (letter_any _ _).mono ?_; rintro e w1 ⟨rfl, rfl⟩) | (go_at_call 68; refine (digit_any _ _).mono ?_; rintro e w1 ⟨rfl, rfl⟩))
          go_ret
          refine ⟨⟨_, rfl, ?_⟩, rfl⟩
          constructor
          · intro e
            have := congrArg ByteArray.size e
            simp at this
            omega
          · intro e
            rw [List.all_eq_true] at e
            have := e _ (List.mem_of_getElem? HX.out)
            rw [HN.out] at this
            cases this
    · obtain rfl : k = t.size := by omega
      have HA : Hid (t.data.toList.all okB = true) := by
        show _ = _
        rw [List.all_eq_true]
        intro x hx
        obtain ⟨j, hj⟩ := List.getElem?_of_mem hx
        exact H0.out j x (by have := (List.getElem?_eq_some_iff.1 hj).1; simpa using this) hj
      go_wp2_with fail
      go_ret
      exact ⟨⟨_, rfl, ⟨fun _ => HA.out, fun _ => rfl⟩⟩, rfl⟩
end Go.Proofs.YtjdcicopjipmnaaDoor
