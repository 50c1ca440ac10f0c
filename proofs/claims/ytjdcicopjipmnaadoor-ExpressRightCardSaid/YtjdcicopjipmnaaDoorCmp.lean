/- compares: the comparison operator that stands there. -/
import Derived.Test.YtjdcicopjipmnaaDoorFac
namespace Go.Proofs.YtjdcicopjipmnaaDoor
open Go.RowKit
set_option linter.unusedVariables false
set_option linter.unusedSimpArgs false
def cmpL : List ByteArray := [gEqq, gNe, gLt, gLe, gGt, gGe, kIn]
theorem compares_at {L : List TokD} {s : PS} : ∀ {k : Nat} {t : ByteArray}, cmpL[k]? = some t → isP L s t 0 = true → (∀ j x, j < k → cmpL[j]? = some x → isP L s x 0 = false) → compares L s = (t, 1)
  | 0, t, h, h1, h0 => by
    obtain rfl : gEqq = t := Option.some.inj h
    unfold compares
    rw [if_pos h1]
  | 1, t, h, h1, h0 => by
    obtain rfl : gNe = t := Option.some.inj h
    unfold compares
    rw [h0 0 gEqq (by omega) rfl, if_neg Bool.false_ne_true]
    rw [if_pos h1]
  | 2, t, h, h1, h0 => by
    obtain rfl : gLt = t := Option.some.inj h
    unfold compares
    rw [h0 0 gEqq (by omega) rfl, if_neg Bool.false_ne_true]
    rw [h0 1 gNe (by omega) rfl, if_neg Bool.false_ne_true]
    rw [if_pos h1]
  | 3, t, h, h1, h0 => by
    obtain rfl : gLe = t := Option.some.inj h
    unfold compares
    rw [h0 0 gEqq (by omega) rfl, if_neg Bool.false_ne_true]
    rw [h0 1 gNe (by omega) rfl, if_neg Bool.false_ne_true]
    rw [h0 2 gLt (by omega) rfl, if_neg Bool.false_ne_true]
    rw [if_pos h1]
  | 4, t, h, h1, h0 => by
    obtain rfl : gGt = t := Option.some.inj h
    unfold compares
    rw [h0 0 gEqq (by omega) rfl, if_neg Bool.false_ne_true]
    rw [h0 1 gNe (by omega) rfl, if_neg Bool.false_ne_true]
    rw [h0 2 gLt (by omega) rfl, if_neg Bool.false_ne_true]
    rw [h0 3 gLe (by omega) rfl, if_neg Bool.false_ne_true]
    rw [if_pos h1]
  | 5, t, h, h1, h0 => by
    obtain rfl : gGe = t := Option.some.inj h
    unfold compares
    rw [h0 0 gEqq (by omega) rfl, if_neg Bool.false_ne_true]
    rw [h0 1 gNe (by omega) rfl, if_neg Bool.false_ne_true]
    rw [h0 2 gLt (by omega) rfl, if_neg Bool.false_ne_true]
    rw [h0 3 gLe (by omega) rfl, if_neg Bool.false_ne_true]
    rw [h0 4 gGt (by omega) rfl, if_neg Bool.false_ne_true]
    rw [if_pos h1]
  | 6, t, h, h1, h0 => by
    obtain rfl : kIn = t := Option.some.inj h
    unfold compares
    rw [h0 0 gEqq (by omega) rfl, if_neg Bool.false_ne_true]
    rw [h0 1 gNe (by omega) rfl, if_neg Bool.false_ne_true]
    rw [h0 2 gLt (by omega) rfl, if_neg Bool.false_ne_true]
    rw [h0 3 gLe (by omega) rfl, if_neg Bool.false_ne_true]
    rw [h0 4 gGt (by omega) rfl, if_neg Bool.false_ne_true]
    rw [h0 5 gGe (by omega) rfl, if_neg Bool.false_ne_true]
    rw [if_pos h1]
  | k + 7, t, h, h1, h0 => by simp [cmpL] at h
theorem compares_no {L : List TokD} {s : PS} (h0 : ∀ j x, j < 7 → cmpL[j]? = some x → isP L s x 0 = false) : compares L s = if isP L s kNot 0 && isP L s kIn 1 then (tNotIn, 2) else if isP L s kIs 0 && isP L s kNot 1 then (tIsNot, 2) else if isP L s kIs 0 then (kIs, 1) else (⟨#[]⟩, 0) := by
  unfold compares
  rw [h0 0 gEqq (by omega) rfl, if_neg Bool.false_ne_true]
  rw [h0 1 gNe (by omega) rfl, if_neg Bool.false_ne_true]
  rw [h0 2 gLt (by omega) rfl, if_neg Bool.false_ne_true]
  rw [h0 3 gLe (by omega) rfl, if_neg Bool.false_ne_true]
  rw [h0 4 gGt (by omega) rfl, if_neg Bool.false_ne_true]
  rw [h0 5 gGe (by omega) rfl, if_neg Bool.false_ne_true]
  rw [h0 6 kIn (by omega) rfl, if_neg Bool.false_ne_true]
set_option maxRecDepth 100000 in
set_option maxHeartbeats 4000000 in
theorem compares_any {X : Cx} {F : Nat → Prop} {s : PS} : Step X F 107 #[X.p] s (.tuple #[.string (compares X.L s).1, .int .i64 (compares X.L s).2]) s := by
  intro w h
  have HP0 := Lib.hid h
  have KI : Hid (∀ (t : ByteArray) (k : Nat), t.size ≤ 100 → k ≤ 9 → Step X F 102 #[X.p, .string t, .int .i64 k] s (.bool (isP X.L s t k)) s) := Lib.hid fun t k ht hk => is_step t (sml ht) k hk
  clear h
  go_enter Tryd.func107, Tryd.ntmps107
  go_wp2_with fail
  go_loopw [7] (fun i wr => ∃ k : Nat, k ≤ 7 ∧ i = .int .i64 k ∧ PAt X F wr s ∧ Keeps X.B w wr ∧ Hid (∀ j x, j < k → cmpL[j]? = some x → isP X.L s x 0 = false)) (fun i _ => 7 - (intOf i).toNat)
  case atStart => exact ⟨0, by omega, rfl, HP0.out, KeepE.refl _ _ _, Lib.hid fun j x hj => by omega⟩
  case round =>
    obtain ⟨k, hk7, rfl, hp, hk, H0⟩ := hrel
    have HP := Lib.hid hp
    have HK := Lib.hid hk
    clear hp hk HP0
    match k, hk7, H0 with
    | 0, hk7, H0 =>
      have hix : (Instr.index 151 (.agg #[.string ⟨#[61, 61]⟩, .string ⟨#[33, 61]⟩, .string ⟨#[60]⟩, .string ⟨#[60, 61]⟩, .string ⟨#[62]⟩, .string ⟨#[62, 61]⟩, .string ⟨#[105, 110]⟩]) (.int .i64 0)).run Tryd.prog wr = .ok (.string ⟨#[61, 61]⟩) wr := by kernel_rfl
      have k0 := KI.out gEqq 0 (by decide) (by omega)
      cases hi : isP X.L s gEqq 0 with
      | true =>
        rw [hi] at k0
        have HI := Lib.hid hi
        have K0 := Lib.hid k0
        clear hi k0
        go_wp2_with (go_at_call 102; go_must (first | (refine (K0.out _ HP.out).mono ?_; clear K0; rintro e w0 ⟨rfl, hp, hk⟩; replace HP := Lib.hid hp; replace HK := Lib.hid (HK.out.trans hk); clear hp hk)))
        refine bodyPost_ret (v := .tuple #[.string gEqq, .int .i64 1]) (by first | (simp [results, Tryd.results107, go_sem]; done) | (simp [results, Tryd.results107, go_sem]; rfl)) rfl ?_
        rw [compares_at (k := 0) rfl HI.out H0.out]
        exact ⟨rfl, HP.out, HK.out⟩
      | false =>
        rw [hi] at k0
        have HI := Lib.hid hi
        have K0 := Lib.hid k0
        clear hi k0
        go_wp2_with (go_at_call 102; go_must (first | (refine (K0.out _ HP.out).mono ?_; clear K0; rintro e w0 ⟨rfl, hp, hk⟩; replace HP := Lib.hid hp; replace HK := Lib.hid (HK.out.trans hk); clear hp hk)))
        go_round
        case rel =>
          refine ⟨1, by omega, by go_num, HP.out, HK.out, Lib.hid fun j x hj hx => ?_⟩
          by_cases e : j = 0
          · subst e
            obtain rfl := Option.some.inj hx
            exact HI.out
          · exact H0.out j x (by omega) hx
        case measure => simp [intOf]
    | 1, hk7, H0 =>
      have hix : (Instr.index 151 (.agg #[.string ⟨#[61, 61]⟩, .string ⟨#[33, 61]⟩, .string ⟨#[60]⟩, .string ⟨#[60, 61]⟩, .string ⟨#[62]⟩, .string ⟨#[62, 61]⟩, .string ⟨#[105, 110]⟩]) (.int .i64 1)).run Tryd.prog wr = .ok (.string ⟨#[33, 61]⟩) wr := by kernel_rfl
      have k0 := KI.out gNe 0 (by decide) (by omega)
      cases hi : isP X.L s gNe 0 with
      | true =>
        rw [hi] at k0
        have HI := Lib.hid hi
        have K0 := Lib.hid k0
        clear hi k0
        go_wp2_with (go_at_call 102; go_must (first | (refine (K0.out _ HP.out).mono ?_; clear K0; rintro e w0 ⟨rfl, hp, hk⟩; replace HP := Lib.hid hp; replace HK := Lib.hid (HK.out.trans hk); clear hp hk)))
        refine bodyPost_ret (v := .tuple #[.string gNe, .int .i64 1]) (by first | (simp [results, Tryd.results107, go_sem]; done) | (simp [results, Tryd.results107, go_sem]; rfl)) rfl ?_
        rw [compares_at (k := 1) rfl HI.out H0.out]
        exact ⟨rfl, HP.out, HK.out⟩
      | false =>
        rw [hi] at k0
        have HI := Lib.hid hi
        have K0 := Lib.hid k0
        clear hi k0
        go_wp2_with (go_at_call 102; go_must (first | (refine (K0.out _ HP.out).mono ?_; clear K0; rintro e w0 ⟨rfl, hp, hk⟩; replace HP := Lib.hid hp; replace HK := Lib.hid (HK.out.trans hk); clear hp hk)))
        go_round
        case rel =>
          refine ⟨2, by omega, by go_num, HP.out, HK.out, Lib.hid fun j x hj hx => ?_⟩
          by_cases e : j = 1
          · subst e
            obtain rfl := Option.some.inj hx
            exact HI.out
          · exact H0.out j x (by omega) hx
        case measure => simp [intOf]
    | 2, hk7, H0 =>
      have hix : (Instr.index 151 (.agg #[.string ⟨#[61, 61]⟩, .string ⟨#[33, 61]⟩, .string ⟨#[60]⟩, .string ⟨#[60, 61]⟩, .string ⟨#[62]⟩, .string ⟨#[62, 61]⟩, .string ⟨#[105, 110]⟩]) (.int .i64 2)).run Tryd.prog wr = .ok (.string ⟨#[60]⟩) wr := by kernel_rfl
      have k0 := KI.out gLt 0 (by decide) (by omega)
      cases hi : isP X.L s gLt 0 with
      | true =>
        rw [hi] at k0
        have HI := Lib.hid hi
        have K0 := Lib.hid k0
        clear hi k0
        go_wp2_with (go_at_call 102; go_must (first | (refine (K0.out _ HP.out).mono ?_; clear K0; rintro e w0 ⟨rfl, hp, hk⟩; replace HP := Lib.hid hp; replace HK := Lib.hid (HK.out.trans hk); clear hp hk)))
        refine bodyPost_ret (v := .tuple #[.string gLt, .int .i64 1]) (by first | (simp [results, Tryd.results107, go_sem]; done) | (simp [results, Tryd.results107, go_sem]; rfl)) rfl ?_
        rw [compares_at (k := 2) rfl HI.out H0.out]
        exact ⟨rfl, HP.out, HK.out⟩
      | false =>
        rw [hi] at k0
        have HI := Lib.hid hi
        have K0 := Lib.hid k0
        clear hi k0
        go_wp2_with (go_at_call 102; go_must (first | (refine (K0.out _ HP.out).mono ?_; clear K0; rintro e w0 ⟨rfl, hp, hk⟩; replace HP := Lib.hid hp; replace HK := Lib.hid (HK.out.trans hk); clear hp hk)))
        go_round
        case rel =>
          refine ⟨3, by omega, by go_num, HP.out, HK.out, Lib.hid fun j x hj hx => ?_⟩
          by_cases e : j = 2
          · subst e
            obtain rfl := Option.some.inj hx
            exact HI.out
          · exact H0.out j x (by omega) hx
        case measure => simp [intOf]
    | 3, hk7, H0 =>
      have hix : (Instr.index 151 (.agg #[.string ⟨#[61, 61]⟩, .string ⟨#[33, 61]⟩, .string ⟨#[60]⟩, .string ⟨#[60, 61]⟩, .string ⟨#[62]⟩, .string ⟨#[62, 61]⟩, .string ⟨#[105, 110]⟩]) (.int .i64 3)).run Tryd.prog wr = .ok (.string ⟨#[60, 61]⟩) wr := by kernel_rfl
      have k0 := KI.out gLe 0 (by decide) (by omega)
      cases hi : isP X.L s gLe 0 with
      | true =>
        rw [hi] at k0
        have HI := Lib.hid hi
        have K0 := Lib.hid k0
        clear hi k0
        go_wp2_with (go_at_call 102; go_must (first | (refine (K0.out _ HP.out).mono ?_; clear K0; rintro e w0 ⟨rfl, hp, hk⟩; replace HP := Lib.hid hp; replace HK := Lib.hid (HK.out.trans hk); clear hp hk)))
        refine bodyPost_ret (v := .tuple #[.string gLe, .int .i64 1]) (by first | (simp [results, Tryd.results107, go_sem]; done) | (simp [results, Tryd.results107, go_sem]; rfl)) rfl ?_
        rw [compares_at (k := 3) rfl HI.out H0.out]
        exact ⟨rfl, HP.out, HK.out⟩
      | false =>
        rw [hi] at k0
        have HI := Lib.hid hi
        have K0 := Lib.hid k0
        clear hi k0
        go_wp2_with (go_at_call 102; go_must (first | (refine (K0.out _ HP.out).mono ?_; clear K0; rintro e w0 ⟨rfl, hp, hk⟩; replace HP := Lib.hid hp; replace HK := Lib.hid (HK.out.trans hk); clear hp hk)))
        go_round
        case rel =>
          refine ⟨4, by omega, by go_num, HP.out, HK.out, Lib.hid fun j x hj hx => ?_⟩
          by_cases e : j = 3
          · subst e
            obtain rfl := Option.some.inj hx
            exact HI.out
          · exact H0.out j x (by omega) hx
        case measure => simp [intOf]
    | 4, hk7, H0 =>
      have hix : (Instr.index 151 (.agg #[.string ⟨#[61, 61]⟩, .string ⟨#[33, 61]⟩, .string ⟨#[60]⟩, .string ⟨#[60, 61]⟩, .string ⟨#[62]⟩, .string ⟨#[62, 61]⟩, .string ⟨#[105, 110]⟩]) (.int .i64 4)).run Tryd.prog wr = .ok (.string ⟨#[62]⟩) wr := by kernel_rfl
      have k0 := KI.out gGt 0 (by decide) (by omega)
      cases hi : isP X.L s gGt 0 with
      | true =>
        rw [hi] at k0
        have HI := Lib.hid hi
        have K0 := Lib.hid k0
        clear hi k0
        go_wp2_with (go_at_call 102; go_must (first | (refine (K0.out _ HP.out).mono ?_; clear K0; rintro e w0 ⟨rfl, hp, hk⟩; replace HP := Lib.hid hp; replace HK := Lib.hid (HK.out.trans hk); clear hp hk)))
        refine bodyPost_ret (v := .tuple #[.string gGt, .int .i64 1]) (by first | (simp [results, Tryd.results107, go_sem]; done) | (simp [results, Tryd.results107, go_sem]; rfl)) rfl ?_
        rw [compares_at (k := 4) rfl HI.out H0.out]
        exact ⟨rfl, HP.out, HK.out⟩
      | false =>
        rw [hi] at k0
        have HI := Lib.hid hi
        have K0 := Lib.hid k0
        clear hi k0
        go_wp2_with (go_at_call 102; go_must (first | (refine (K0.out _ HP.out).mono ?_; clear K0; rintro e w0 ⟨rfl, hp, hk⟩; replace HP := Lib.hid hp; replace HK := Lib.hid (HK.out.trans hk); clear hp hk)))
        go_round
        case rel =>
          refine ⟨5, by omega, by go_num, HP.out, HK.out, Lib.hid fun j x hj hx => ?_⟩
          by_cases e : j = 4
          · subst e
            obtain rfl := Option.some.inj hx
            exact HI.out
          · exact H0.out j x (by omega) hx
        case measure => simp [intOf]
    | 5, hk7, H0 =>
      have hix : (Instr.index 151 (.agg #[.string ⟨#[61, 61]⟩, .string ⟨#[33, 61]⟩, .string ⟨#[60]⟩, .string ⟨#[60, 61]⟩, .string ⟨#[62]⟩, .string ⟨#[62, 61]⟩, .string ⟨#[105, 110]⟩]) (.int .i64 5)).run Tryd.prog wr = .ok (.string ⟨#[62, 61]⟩) wr := by kernel_rfl
      have k0 := KI.out gGe 0 (by decide) (by omega)
      cases hi : isP X.L s gGe 0 with
      | true =>
        rw [hi] at k0
        have HI := Lib.hid hi
        have K0 := Lib.hid k0
        clear hi k0
        go_wp2_with (go_at_call 102; go_must (first | (refine (K0.out _ HP.out).mono ?_; clear K0; rintro e w0 ⟨rfl, hp, hk⟩; replace HP := Lib.hid hp; replace HK := Lib.hid (HK.out.trans hk); clear hp hk)))
        refine bodyPost_ret (v := .tuple #[.string gGe, .int .i64 1]) (by first | (simp [results, Tryd.results107, go_sem]; done) | (simp [results, Tryd.results107, go_sem]; rfl)) rfl ?_
        rw [compares_at (k := 5) rfl HI.out H0.out]
        exact ⟨rfl, HP.out, HK.out⟩
      | false =>
        rw [hi] at k0
        have HI := Lib.hid hi
        have K0 := Lib.hid k0
        clear hi k0
        go_wp2_with (go_at_call 102; go_must (first | (refine (K0.out _ HP.out).mono ?_; clear K0; rintro e w0 ⟨rfl, hp, hk⟩; replace HP := Lib.hid hp; replace HK := Lib.hid (HK.out.trans hk); clear hp hk)))
        go_round
        case rel =>
          refine ⟨6, by omega, by go_num, HP.out, HK.out, Lib.hid fun j x hj hx => ?_⟩
          by_cases e : j = 5
          · subst e
            obtain rfl := Option.some.inj hx
            exact HI.out
          · exact H0.out j x (by omega) hx
        case measure => simp [intOf]
    | 6, hk7, H0 =>
      have hix : (Instr.index 151 (.agg #[.string ⟨#[61, 61]⟩, .string ⟨#[33, 61]⟩, .string ⟨#[60]⟩, .string ⟨#[60, 61]⟩, .string ⟨#[62]⟩, .string ⟨#[62, 61]⟩, .string ⟨#[105, 110]⟩]) (.int .i64 6)).run Tryd.prog wr = .ok (.string ⟨#[105, 110]⟩) wr := by kernel_rfl
      have k0 := KI.out kIn 0 (by decide) (by omega)
      cases hi : isP X.L s kIn 0 with
      | true =>
        rw [hi] at k0
        have HI := Lib.hid hi
        have K0 := Lib.hid k0
        clear hi k0
        go_wp2_with (go_at_call 102; go_must (first | (refine (K0.out _ HP.out).mono ?_; clear K0; rintro e w0 ⟨rfl, hp, hk⟩; replace HP := Lib.hid hp; replace HK := Lib.hid (HK.out.trans hk); clear hp hk)))
        refine bodyPost_ret (v := .tuple #[.string kIn, .int .i64 1]) (by first | (simp [results, Tryd.results107, go_sem]; done) | (simp [results, Tryd.results107, go_sem]; rfl)) rfl ?_
        rw [compares_at (k := 6) rfl HI.out H0.out]
        exact ⟨rfl, HP.out, HK.out⟩
      | false =>
        rw [hi] at k0
        have HI := Lib.hid hi
        have K0 := Lib.hid k0
        clear hi k0
        go_wp2_with (go_at_call 102; go_must (first | (refine (K0.out _ HP.out).mono ?_; clear K0; rintro e w0 ⟨rfl, hp, hk⟩; replace HP := Lib.hid hp; replace HK := Lib.hid (HK.out.trans hk); clear hp hk)))
        go_round
        case rel =>
          refine ⟨7, by omega, by go_num, HP.out, HK.out, Lib.hid fun j x hj hx => ?_⟩
          by_cases e : j = 6
          · subst e
            obtain rfl := Option.some.inj hx
            exact HI.out
          · exact H0.out j x (by omega) hx
        case measure => simp [intOf]
    | 7, hk7, H0 =>
      have HC := Lib.hid (compares_no H0.out)
      cases h0 : isP X.L s kNot 0 with
      | true =>
        cases h1 : isP X.L s kIn 1 with
        | true =>
          have k0 := KI.out kNot 0 (by decide) (by omega)
          rw [h0] at k0
          have K0 := Lib.hid k0
          clear k0
          have k1 := KI.out kIn 1 (by decide) (by omega)
          rw [h1] at k1
          have K1 := Lib.hid k1
          clear k1
          have HE : Hid (compares X.L s = (tNotIn, 2)) := Lib.hid (by rw [HC.out]; simp [h0, h1])
          clear h0 h1
          go_wp2_with (go_at_call 102; go_must (first | (refine (K0.out _ HP.out).mono ?_; clear K0; rintro e w0 ⟨rfl, hp, hk⟩; replace HP := Lib.hid hp; replace HK := Lib.hid (HK.out.trans hk); clear hp hk) | (refine (K1.out _ HP.out).mono ?_; clear K1; rintro e w1 ⟨rfl, hp, hk⟩; replace HP := Lib.hid hp; replace HK := Lib.hid (HK.out.trans hk); clear hp hk)))
          refine bodyPost_ret (v := .tuple #[.string tNotIn, .int .i64 2]) (by first | (simp [results, Tryd.results107, go_sem]; done) | (simp [results, Tryd.results107, go_sem]; rfl)) rfl ?_
          rw [HE.out]
          exact ⟨rfl, HP.out, HK.out⟩
        | false =>
          cases h2 : isP X.L s kIs 0 with
          | true =>
            cases h3 : isP X.L s kNot 1 with
            | true =>
              have k0 := KI.out kNot 0 (by decide) (by omega)
              rw [h0] at k0
              have K0 := Lib.hid k0
              clear k0
              have k1 := KI.out kIn 1 (by decide) (by omega)
              rw [h1] at k1
              have K1 := Lib.hid k1
              clear k1
              have k2 := KI.out kIs 0 (by decide) (by omega)
              rw [h2] at k2
              have K2 := Lib.hid k2
              clear k2
              have k3 := KI.out kNot 1 (by decide) (by omega)
              rw [h3] at k3
              have K3 := Lib.hid k3
              clear k3
              have HE : Hid (compares X.L s = (tIsNot, 2)) := Lib.hid (by rw [HC.out]; simp [h0, h1, h2, h3])
              clear h0 h1 h2 h3
              go_wp2_with (go_at_call 102; go_must (first | (refine (K0.out _ HP.out).mono ?_; clear K0; rintro e w0 ⟨rfl, hp, hk⟩; replace HP := Lib.hid hp; replace HK := Lib.hid (HK.out.trans hk); clear hp hk) | (refine (K1.out _ HP.out).mono ?_; clear K1; rintro e w1 ⟨rfl, hp, hk⟩; replace HP := Lib.hid hp; replace HK := Lib.hid (HK.out.trans hk); clear hp hk) | (refine (K2.out _ HP.out).mono ?_; clear K2; rintro e w2 ⟨rfl, hp, hk⟩; replace HP := Lib.hid hp; replace HK := Lib.hid (HK.out.trans hk); clear hp hk) | (refine (K3.out _ HP.out).mono ?_; clear K3; rintro e w3 ⟨rfl, hp, hk⟩; replace HP := Lib.hid hp; replace HK := Lib.hid (HK.out.trans hk); clear hp hk)))
              refine bodyPost_ret (v := .tuple #[.string tIsNot, .int .i64 2]) (by first | (simp [results, Tryd.results107, go_sem]; done) | (simp [results, Tryd.results107, go_sem]; rfl)) rfl ?_
              rw [HE.out]
              exact ⟨rfl, HP.out, HK.out⟩
            | false =>
              have k0 := KI.out kNot 0 (by decide) (by omega)
              rw [h0] at k0
              have K0 := Lib.hid k0
              clear k0
              have k1 := KI.out kIn 1 (by decide) (by omega)
              rw [h1] at k1
              have K1 := Lib.hid k1
              clear k1
              have k2 := KI.out kIs 0 (by decide) (by omega)
              rw [h2] at k2
              have K2 := Lib.hid k2
              clear k2
              have k3 := KI.out kNot 1 (by decide) (by omega)
              rw [h3] at k3
              have K3 := Lib.hid k3
              clear k3
              have k4 := KI.out kIs 0 (by decide) (by omega)
              rw [h2] at k4
              have K4 := Lib.hid k4
              clear k4
              have HE : Hid (compares X.L s = (kIs, 1)) := Lib.hid (by rw [HC.out]; simp [h0, h1, h2, h3])
              clear h0 h1 h2 h3
              go_wp2_with (go_at_call 102; go_must (first | (refine (K0.out _ HP.out).mono ?_; clear K0; rintro e w0 ⟨rfl, hp, hk⟩; replace HP := Lib.hid hp; replace HK := Lib.hid (HK.out.trans hk); clear hp hk) | (refine (K1.out _ HP.out).mono ?_; clear K1; rintro e w1 ⟨rfl, hp, hk⟩; replace HP := Lib.hid hp; replace HK := Lib.hid (HK.out.trans hk); clear hp hk) | (refine (K2.out _ HP.out).mono ?_; clear K2; rintro e w2 ⟨rfl, hp, hk⟩; replace HP := Lib.hid hp; replace HK := Lib.hid (HK.out.trans hk); clear hp hk) | (refine (K3.out _ HP.out).mono ?_; clear K3; rintro e w3 ⟨rfl, hp, hk⟩; replace HP := Lib.hid hp; replace HK := Lib.hid (HK.out.trans hk); clear hp hk) | (refine (K4.out _ HP.out).mono ?_; clear K4; rintro e w4 ⟨rfl, hp, hk⟩; replace HP := Lib.hid hp; replace HK := Lib.hid (HK.out.trans hk); clear hp hk)))
              refine bodyPost_ret (v := .tuple #[.string kIs, .int .i64 1]) (by first | (simp [results, Tryd.results107, go_sem]; done) | (simp [results, Tryd.results107, go_sem]; rfl)) rfl ?_
              rw [HE.out]
              exact ⟨rfl, HP.out, HK.out⟩
          | false =>
            have k0 := KI.out kNot 0 (by decide) (by omega)
            rw [h0] at k0
            have K0 := Lib.hid k0
            clear k0
            have k1 := KI.out kIn 1 (by decide) (by omega)
            rw [h1] at k1
            have K1 := Lib.hid k1
            clear k1
            have k2 := KI.out kIs 0 (by decide) (by omega)
            rw [h2] at k2
            have K2 := Lib.hid k2
            clear k2
            have k3 := KI.out kIs 0 (by decide) (by omega)
            rw [h2] at k3
            have K3 := Lib.hid k3
            clear k3
            have HE : Hid (compares X.L s = (⟨#[]⟩, 0)) := Lib.hid (by rw [HC.out]; simp [h0, h1, h2])
            clear h0 h1 h2
            go_wp2_with (go_at_call 102; go_must (first | (refine (K0.out _ HP.out).mono ?_; clear K0; rintro e w0 ⟨rfl, hp, hk⟩; replace HP := Lib.hid hp; replace HK := Lib.hid (HK.out.trans hk); clear hp hk) | (refine (K1.out _ HP.out).mono ?_; clear K1; rintro e w1 ⟨rfl, hp, hk⟩; replace HP := Lib.hid hp; replace HK := Lib.hid (HK.out.trans hk); clear hp hk) | (refine (K2.out _ HP.out).mono ?_; clear K2; rintro e w2 ⟨rfl, hp, hk⟩; replace HP := Lib.hid hp; replace HK := Lib.hid (HK.out.trans hk); clear hp hk) | (refine (K3.out _ HP.out).mono ?_; clear K3; rintro e w3 ⟨rfl, hp, hk⟩; replace HP := Lib.hid hp; replace HK := Lib.hid (HK.out.trans hk); clear hp hk)))
            refine bodyPost_ret (v := .tuple #[.string ⟨#[]⟩, .int .i64 0]) (by first | (simp [results, Tryd.results107, go_sem]; done) | (simp [results, Tryd.results107, go_sem]; rfl)) rfl ?_
            rw [HE.out]
            exact ⟨rfl, HP.out, HK.out⟩
      | false =>
        cases h2 : isP X.L s kIs 0 with
        | true =>
          cases h3 : isP X.L s kNot 1 with
          | true =>
            have k0 := KI.out kNot 0 (by decide) (by omega)
            rw [h0] at k0
            have K0 := Lib.hid k0
            clear k0
            have k1 := KI.out kIs 0 (by decide) (by omega)
            rw [h2] at k1
            have K1 := Lib.hid k1
            clear k1
            have k2 := KI.out kNot 1 (by decide) (by omega)
            rw [h3] at k2
            have K2 := Lib.hid k2
            clear k2
            have HE : Hid (compares X.L s = (tIsNot, 2)) := Lib.hid (by rw [HC.out]; simp [h0, h2, h3])
            clear h0 h2 h3
            go_wp2_with (go_at_call 102; go_must (first | (refine (K0.out _ HP.out).mono ?_; clear K0; rintro e w0 ⟨rfl, hp, hk⟩; replace HP := Lib.hid hp; replace HK := Lib.hid (HK.out.trans hk); clear hp hk) | (refine (K1.out _ HP.out).mono ?_; clear K1; rintro e w1 ⟨rfl, hp, hk⟩; replace HP := Lib.hid hp; replace HK := Lib.hid (HK.out.trans hk); clear hp hk) | (refine (K2.out _ HP.out).mono ?_; clear K2; rintro e w2 ⟨rfl, hp, hk⟩; replace HP := Lib.hid hp; replace HK := Lib.hid (HK.out.trans hk); clear hp hk)))
            refine bodyPost_ret (v := .tuple #[.string tIsNot, .int .i64 2]) (by first | (simp [results, Tryd.results107, go_sem]; done) | (simp [results, Tryd.results107, go_sem]; rfl)) rfl ?_
            rw [HE.out]
            exact ⟨rfl, HP.out, HK.out⟩
          | false =>
            have k0 := KI.out kNot 0 (by decide) (by omega)
            rw [h0] at k0
            have K0 := Lib.hid k0
            clear k0
            have k1 := KI.out kIs 0 (by decide) (by omega)
            rw [h2] at k1
            have K1 := Lib.hid k1
            clear k1
            have k2 := KI.out kNot 1 (by decide) (by omega)
            rw [h3] at k2
            have K2 := Lib.hid k2
            clear k2
            have k3 := KI.out kIs 0 (by decide) (by omega)
            rw [h2] at k3
            have K3 := Lib.hid k3
            clear k3
            have HE : Hid (compares X.L s = (kIs, 1)) := Lib.hid (by rw [HC.out]; simp [h0, h2, h3])
            clear h0 h2 h3
            go_wp2_with (go_at_call 102; go_must (first | (refine (K0.out _ HP.out).mono ?_; clear K0; rintro e w0 ⟨rfl, hp, hk⟩; replace HP := Lib.hid hp; replace HK := Lib.hid (HK.out.trans hk); clear hp hk) | (refine (K1.out _ HP.out).mono ?_; clear K1; rintro e w1 ⟨rfl, hp, hk⟩; replace HP := Lib.hid hp; replace HK := Lib.hid (HK.out.trans hk); clear hp hk) | (refine (K2.out _ HP.out).mono ?_; clear K2; rintro e w2 ⟨rfl, hp, hk⟩; replace HP := Lib.hid hp; replace HK := Lib.hid (HK.out.trans hk); clear hp hk) | (refine (K3.out _ HP.out).mono ?_; clear K3; rintro e w3 ⟨rfl, hp, hk⟩; replace HP := Lib.hid hp; replace HK := Lib.hid (HK.out.trans hk); clear hp hk)))
            refine bodyPost_ret (v := .tuple #[.string kIs, .int .i64 1]) (by first | (simp [results, Tryd.results107, go_sem]; done) | (simp [results, Tryd.results107, go_sem]; rfl)) rfl ?_
            rw [HE.out]
            exact ⟨rfl, HP.out, HK.out⟩
        | false =>
          have k0 := KI.out kNot 0 (by decide) (by omega)
          rw [h0] at k0
          have K0 := Lib.hid k0
          clear k0
          have k1 := KI.out kIs 0 (by decide) (by omega)
          rw [h2] at k1
          have K1 := Lib.hid k1
          clear k1
          have k2 := KI.out kIs 0 (by decide) (by omega)
          rw [h2] at k2
          have K2 := Lib.hid k2
          clear k2
          have HE : Hid (compares X.L s = (⟨#[]⟩, 0)) := Lib.hid (by rw [HC.out]; simp [h0, h2])
          clear h0 h2
          go_wp2_with (go_at_call 102; go_must (first | (refine (K0.out _ HP.out).mono ?_; clear K0; rintro e w0 ⟨rfl, hp, hk⟩; replace HP := Lib.hid hp; replace HK := Lib.hid (HK.out.trans hk); clear hp hk) | (refine (K1.out _ HP.out).mono ?_; clear K1; rintro e w1 ⟨rfl, hp, hk⟩; replace HP := Lib.hid hp; replace HK := Lib.hid (HK.out.trans hk); clear hp hk) | (refine (K2.out _ HP.out).mono ?_; clear K2; rintro e w2 ⟨rfl, hp, hk⟩; replace HP := Lib.hid hp; replace HK := Lib.hid (HK.out.trans hk); clear hp hk)))
          refine bodyPost_ret (v := .tuple #[.string ⟨#[]⟩, .int .i64 0]) (by first | (simp [results, Tryd.results107, go_sem]; done) | (simp [results, Tryd.results107, go_sem]; rfl)) rfl ?_
          rw [HE.out]
          exact ⟨rfl, HP.out, HK.out⟩
end Go.Proofs.YtjdcicopjipmnaaDoor
