/- The maker: expr, whatever it takes. The maker: target, targets. The maker: params. -/
import Derived.Test.YtjdcicopjipmnaaDoorZao
namespace Go.Proofs.YtjdcicopjipmnaaDoor
set_option maxRecDepth 100000
set_option maxHeartbeats 8000000
section
open Go.RowKit
set_option linter.unusedVariables false
set_option linter.unusedSimpArgs false
theorem ex_zero : EX 0 := ⟨fun {B mb at_ F S T w} h hc => by
 have h1 := nextV_ok S at_ (n := 30) (by decide)
 have h2 : 0 ≤ nextV S at_ 30 % 6 ∧ nextV S at_ 30 % 6 < 6 := by omega
 have h3 : nextV S at_ 30 % 6 = 0 ∨ nextV S at_ 30 % 6 = 1 ∨ nextV S at_ 30 % 6 = 2 ∨ nextV S at_ 30 % 6 = 3 ∨ nextV S at_ 30 % 6 = 4 ∨ nextV S at_ 30 % 6 = 5 := by omega
 rcases h3 with h3 | h3 | h3 | h3 | h3 | h3
 ·exact mexpr_0all (k := 0) (by simp) (by omega) h hc (.inr (.inr ⟨by decide, h3⟩))
 ·exact mexpr_1all (k := 1) (by simp) (by omega) h hc (.inr (.inr ⟨by decide, h3⟩))
 ·exact mexpr_1all (k := 2) (by simp) (by omega) h hc (.inr (.inr ⟨by decide, h3⟩))
 ·exact mexpr_1all (k := 3) (by simp) (by omega) h hc (.inr (.inr ⟨by decide, h3⟩))
 ·exact mexpr_4all (k := 4) (by simp) (by omega) h hc (.inr (.inr ⟨by decide, h3⟩))
 ·exact mexpr_5all (k := 5) (by simp) (by omega) h hc (.inr (.inr ⟨by decide, h3⟩))
⟩
theorem ex_succ {d : Nat} (hd : d ≤ 9) (HE : EX d) : EX (d + 1) := ⟨fun {B mb at_ F S T w} h hc => by
 rw [show (((d + 1 : Nat)) : Int) = (d : Int) + 1 from by omega]
 have h1 := nextV_ok S at_ (n := 30) (by decide)
 have hd1 : decide ((d : Int) + 1 ≤ 0) = false := decide_eq_false (by omega)
 by_cases hl : 160 - (T.length : Int) ≤ 0
 ·have h3 : nextV S at_ 30 % 6 = 0 ∨ nextV S at_ 30 % 6 = 1 ∨ nextV S at_ 30 % 6 = 2 ∨ nextV S at_ 30 % 6 = 3 ∨ nextV S at_ 30 % 6 = 4 ∨ nextV S at_ 30 % 6 = 5 := by omega
  rcases h3 with h3 | h3 | h3 | h3 | h3 | h3
  ·exact mexpr_0all (k := 0) (by simp) (by omega) h hc (.inr (.inl ⟨hd1, decide_eq_true hl, h3⟩))
  ·exact mexpr_1all (k := 1) (by simp) (by omega) h hc (.inr (.inl ⟨hd1, decide_eq_true hl, h3⟩))
  ·exact mexpr_1all (k := 2) (by simp) (by omega) h hc (.inr (.inl ⟨hd1, decide_eq_true hl, h3⟩))
  ·exact mexpr_1all (k := 3) (by simp) (by omega) h hc (.inr (.inl ⟨hd1, decide_eq_true hl, h3⟩))
  ·exact mexpr_4all (k := 4) (by simp) (by omega) h hc (.inr (.inl ⟨hd1, decide_eq_true hl, h3⟩))
  ·exact mexpr_5all (k := 5) (by simp) (by omega) h hc (.inr (.inl ⟨hd1, decide_eq_true hl, h3⟩))
 ·have h3 : nextV S at_ 30 = 0 ∨ nextV S at_ 30 = 1 ∨ nextV S at_ 30 = 2 ∨ nextV S at_ 30 = 3 ∨ nextV S at_ 30 = 4 ∨ nextV S at_ 30 = 5 ∨ nextV S at_ 30 = 6 ∨ nextV S at_ 30 = 7 ∨ nextV S at_ 30 = 8 ∨ nextV S at_ 30 = 9 ∨ nextV S at_ 30 = 10 ∨ nextV S at_ 30 = 11 ∨ nextV S at_ 30 = 12 ∨ nextV S at_ 30 = 13 ∨ nextV S at_ 30 = 14 ∨ nextV S at_ 30 = 15 ∨ nextV S at_ 30 = 16 ∨ nextV S at_ 30 = 17 ∨ nextV S at_ 30 = 18 ∨ nextV S at_ 30 = 19 ∨ nextV S at_ 30 = 20 ∨ nextV S at_ 30 = 21 ∨ nextV S at_ 30 = 22 ∨ nextV S at_ 30 = 23 ∨ nextV S at_ 30 = 24 ∨ nextV S at_ 30 = 25 ∨ nextV S at_ 30 = 26 ∨ nextV S at_ 30 = 27 ∨ nextV S at_ 30 = 28 ∨ nextV S at_ 30 = 29 := by omega
  rcases h3 with h3 | h3 | h3 | h3 | h3 | h3 | h3 | h3 | h3 | h3 | h3 | h3 | h3 | h3 | h3 | h3 | h3 | h3 | h3 | h3 | h3 | h3 | h3 | h3 | h3 | h3 | h3 | h3 | h3 | h3
  ·exact mexpr_0all (k := 0) (by simp) (by omega) h hc (.inl ⟨hd1, decide_eq_false hl, h3⟩)
  ·exact mexpr_1all (k := 1) (by simp) (by omega) h hc (.inl ⟨hd1, decide_eq_false hl, h3⟩)
  ·exact mexpr_1all (k := 2) (by simp) (by omega) h hc (.inl ⟨hd1, decide_eq_false hl, h3⟩)
  ·exact mexpr_1all (k := 3) (by simp) (by omega) h hc (.inl ⟨hd1, decide_eq_false hl, h3⟩)
  ·exact mexpr_4all (k := 4) (by simp) (by omega) h hc (.inl ⟨hd1, decide_eq_false hl, h3⟩)
  ·exact mexpr_5all (k := 5) (by simp) (by omega) h hc (.inl ⟨hd1, decide_eq_false hl, h3⟩)
  ·exact mexpr_6free (k := 6) (by simp) hd HE ex_zero h hc hl h3
  ·exact mexpr_6free (k := 7) (by simp) hd HE ex_zero h hc hl h3
  ·exact mexpr_8free (k := 8) (by simp) hd HE ex_zero h hc hl h3
  ·exact mexpr_8free (k := 9) (by simp) hd HE ex_zero h hc hl h3
  ·exact mexpr_10free hd HE ex_zero h hc hl h3
  ·exact mexpr_11free hd HE ex_zero h hc hl h3
  ·exact mexpr_12free hd HE ex_zero h hc hl h3
  ·exact mexpr_13free hd HE ex_zero h hc hl h3
  ·exact mexpr_14free (k := 14) (by simp) hd HE ex_zero h hc hl h3
  ·exact mexpr_14free (k := 15) (by simp) hd HE ex_zero h hc hl h3
  ·exact mexpr_16free hd HE ex_zero h hc hl h3
  ·exact mexpr_17free hd HE ex_zero h hc hl h3
  ·exact mexpr_18free (k := 18) (by simp) hd HE ex_zero h hc hl h3
  ·exact mexpr_18free (k := 19) (by simp) hd HE ex_zero h hc hl h3
  ·exact mexpr_18free (k := 20) (by simp) hd HE ex_zero h hc hl h3
  ·exact mexpr_18free (k := 21) (by simp) hd HE ex_zero h hc hl h3
  ·exact mexpr_22free (k := 22) (by simp) hd HE ex_zero h hc hl h3
  ·exact mexpr_22free (k := 23) (by simp) hd HE ex_zero h hc hl h3
  ·exact mexpr_24free (k := 24) (by simp) hd HE ex_zero h hc hl h3
  ·exact mexpr_24free (k := 25) (by simp) hd HE ex_zero h hc hl h3
  ·exact mexpr_26free hd HE ex_zero h hc hl h3
  ·exact mexpr_27free hd HE ex_zero h hc hl h3
  ·exact mexpr_28free hd HE ex_zero h hc hl h3
  ·exact mexpr_29free hd HE ex_zero h hc hl h3
⟩
theorem ex_one : EX 1 := ex_succ (by decide) ex_zero
theorem ex_two : EX 2 := ex_succ (by decide) ex_one
theorem ex_three : EX 3 := ex_succ (by decide) ex_two
theorem mexpr0_any {B mb at_ : Nat} {F : Nat → Prop} {S : List Int} {T : List NodeD} {w : World} (h : Mk B mb F S at_ T w) (hc : T.length + 1 ≤ 549755813888) : Calls Tryd.prog 71 #[.pointer (some ⟨mb, 0, none⟩), .int .i64 0] w (ExP B mb F S w T 1 1) := ex_zero.run h hc
theorem mexpr1_any {B mb at_ : Nat} {F : Nat → Prop} {S : List Int} {T : List NodeD} {w : World} (h : Mk B mb F S at_ T w) (hc : T.length + 7 ≤ 549755813888) : Calls Tryd.prog 71 #[.pointer (some ⟨mb, 0, none⟩), .int .i64 1] w (ExP B mb F S w T 7 2) := ex_one.run h hc
theorem mexpr2_any {B mb at_ : Nat} {F : Nat → Prop} {S : List Int} {T : List NodeD} {w : World} (h : Mk B mb F S at_ T w) (hc : T.length + 25 ≤ 549755813888) : Calls Tryd.prog 71 #[.pointer (some ⟨mb, 0, none⟩), .int .i64 2] w (ExP B mb F S w T 25 3) := ex_two.run h hc
theorem mexpr3_any {B mb at_ : Nat} {F : Nat → Prop} {S : List Int} {T : List NodeD} {w : World} (h : Mk B mb F S at_ T w) (hc : T.length + 79 ≤ 549755813888) : Calls Tryd.prog 71 #[.pointer (some ⟨mb, 0, none⟩), .int .i64 3] w (ExP B mb F S w T 79 4) := ex_three.run h hc
end
section
open Go.RowKit
set_option linter.unusedVariables false
set_option linter.unusedSimpArgs false
theorem mtarget_0 {B mb at_ : Nat} {F : Nat → Prop} {S : List Int} {T : List NodeD} {w : World} (h : Mk B mb F S at_ T w) (hcap : T.length + 3 ≤ 549755813888) (hr : nextV S at_ 8 = 0) : Calls Tryd.prog 72 #[.pointer (some ⟨mb, 0, none⟩)] w (ExP B mb F S w T 3 2) := by
 unfold ExP
 have H := qh h
 have HC := qh hcap
 have HR := qh hr
 clear h hcap hr
 go_enter Tryd.func72, Tryd.ntmps72
 go_upto_region 2 with (go_at_call 46; go_must (refine (next_any (n := 8) H.out (by decide) (by decide)).mono ?_); rintro e w2 ⟨rfl, hm, hk⟩; rw [HR.out]; have HM2 := qh hm; have HK2 := qh hk; clear hm hk)
 go_upto_region 4 with (first | (go_at_call 48; obtain ⟨hgood, hxp⟩ := HM3.out.good.x (d := 0) (op := 6) (n := 0) (s := s) (Xs.nil_ _ 0) (by decide) (by decide) (fun ks hl hk => by match ks, hl with | [], _ => exact Good.name_ s HS.out.1 HS.out.2); go_must (refine (madd_none HM3.out 6 0 s hgood (by have h0 := HC.out; (try simp only [LL]); omega)).mono ?_); rintro e w4 ⟨r4, rfl, hr4, hm, hk⟩; rw [← hr4] at hxp; have HM4 := qh hm; have HK4 := qh (HK3.out.trans hk); have HP4 := qh hxp; clear hm hk hgood hxp hr4) | (go_at_call 90; go_must (refine (mname_any HM2.out).mono ?_); rintro e w3 ⟨s, rfl, hs, hm, hk⟩; have HS := qh hs; have HM3 := qh hm; have HK3 := qh (HK2.out.trans hk); clear hm hk hs))
 go_wp2_with (first | (go_at_call 48; obtain ⟨hgood, hxp⟩ := HM5.out.good.x (d := 1) (op := 18) (n := 0) (s := s2) (kids := [r4]) ((Xs.nil_ _ _).snoc ((HP4.out).le (by omega))) (by omega) (by omega) (fun ks hl hk => by match ks, hl with | [a], _ => exact Good.attr_ s2 a (names_ok (l := [⟨#[97]⟩, ⟨#[98]⟩]) (by decide +kernel) s2 HS2.out).1 (names_ok (l := [⟨#[97]⟩, ⟨#[98]⟩]) (by decide +kernel) s2 HS2.out).2 (hk a (by simp))); go_must (refine (madd_lit HM5.out [r4] rfl rfl rfl (by simp) 18 0 s2 hgood (by have h0 := HC.out; (try simp only [LL]); omega)).mono ?_); rintro e w6 ⟨r6, rfl, hr6, hm, hk⟩; rw [← hr6] at hxp; have HM6 := qh hm.assoc; have HK6 := qh (HK5.out.trans hk); have HP6 := qh hxp.assoc; clear hm hk hgood hxp hr6) | (go_at_call 46; go_must (refine (next_any (n := 2) (HM4.out.alloc _) (by decide) (by decide)).mono ?_); rintro e w5 ⟨rfl, hm, hk⟩; obtain ⟨q, hq, hq8⟩ := nat_of (nextV_ok S _ (n := 2) (by decide)); rw [hq]; obtain ⟨s2, hs, hc⟩ := pick_kp (l := [⟨#[97]⟩, ⟨#[98]⟩]) (Blk.new w4 9 _) (HM4.out.alloc _) hk (r := q) (by show q < 2; omega); have hq88 : q < 2 := (by omega); have hlt : w4.heap.size < w5.heap.size := kp_lt hk; have HM5 := qh hm; have HK5 := qh (HK4.out.trans ((Kp.alloc B mb w4 _).trans hk)); have HS2 := qh hs; clear hm hk hq hs))
 go_ret
 exact ⟨_, _, ([⟨6, 0, s, 0, []⟩] ++ [⟨18, 0, s2, 0, [r4]⟩]), rfl, HM6.out, HK6.out, (by  simp only [LL]; omega), HP6.out.le (by decide)⟩
theorem mtarget_1 {B mb at_ : Nat} {F : Nat → Prop} {S : List Int} {T : List NodeD} {w : World} (h : Mk B mb F S at_ T w) (hcap : T.length + 3 ≤ 549755813888) (hr : nextV S at_ 8 = 1) : Calls Tryd.prog 72 #[.pointer (some ⟨mb, 0, none⟩)] w (ExP B mb F S w T 3 2) := by
 unfold ExP
 have H := qh h
 have HC := qh hcap
 have HR := qh hr
 clear h hcap hr
 go_enter Tryd.func72, Tryd.ntmps72
 go_upto_region 2 with (go_at_call 46; go_must (refine (next_any (n := 8) H.out (by decide) (by decide)).mono ?_); rintro e w2 ⟨rfl, hm, hk⟩; rw [HR.out]; have HM2 := qh hm; have HK2 := qh hk; clear hm hk)
 go_upto_region 7 with (first | (go_at_call 48; obtain ⟨hgood, hxp⟩ := HM3.out.good.x (d := 0) (op := 6) (n := 0) (s := s) (Xs.nil_ _ 0) (by decide) (by decide) (fun ks hl hk => by match ks, hl with | [], _ => exact Good.name_ s HS.out.1 HS.out.2); go_must (refine (madd_none HM3.out 6 0 s hgood (by have h0 := HC.out; (try simp only [LL]); omega)).mono ?_); rintro e w4 ⟨r4, rfl, hr4, hm, hk⟩; rw [← hr4] at hxp; have HM4 := qh hm; have HK4 := qh (HK3.out.trans hk); have HP4 := qh hxp; clear hm hk hgood hxp hr4) | (go_at_call 90; go_must (refine (mname_any HM2.out).mono ?_); rintro e w3 ⟨s, rfl, hs, hm, hk⟩; have HS := qh hs; have HM3 := qh hm; have HK3 := qh (HK2.out.trans hk); clear hm hk hs))
 go_wp2_with (first | (go_at_call 48; obtain ⟨hgood, hxp⟩ := HM5.out.good.x (d := 1) (op := 19) (n := 0) (s := ⟨#[]⟩) (kids := [r4, r5]) (((Xs.nil_ _ _).snoc ((HP4.out.up).le (by omega))).snoc ((HP5.out).le (by omega))) (by omega) (by omega) (fun ks hl hk => by match ks, hl with | [a, b], _ => exact Good.index_ a b (hk a (by simp)) (hk b (by simp))); go_must (refine (madd_lit HM5.out [r4, r5] rfl rfl rfl (by simp) 19 0 ⟨#[]⟩ hgood (by have h0 := HC.out; have h5 := HX5.out; (try simp only [LL]); omega)).mono ?_); rintro e w6 ⟨r6, rfl, hr6, hm, hk⟩; rw [← hr6] at hxp; have HM6 := qh hm.assoc; have HK6 := qh (HK5.out.trans hk); have HP6 := qh hxp.assoc; clear hm hk hgood hxp hr6) | (go_at_call 71; go_must (refine (mexpr0_any HM4.out (by have h0 := HC.out; (try simp only [LL]); omega)).mono ?_); rintro e w5 ⟨r5, at5, X5, rfl, hm, hk, hx, hp⟩; have HM5 := qh hm.assoc; have HK5 := qh (HK4.out.trans hk); have HX5 := qh hx; have HP5 := qh hp.assoc; clear hm hk hx hp))
 go_ret
 exact ⟨_, _, (([⟨6, 0, s, 0, []⟩] ++ X5) ++ [⟨19, 0, ⟨#[]⟩, 0, [r4, r5]⟩]), rfl, HM6.out, HK6.out, (by have h5 := HX5.out;  simp only [LL]; omega), HP6.out.le (by decide)⟩
theorem mtarget_2 {B mb at_ : Nat} {F : Nat → Prop} {S : List Int} {T : List NodeD} {w : World} (h : Mk B mb F S at_ T w) (hcap : T.length + 3 ≤ 549755813888) (hr : nextV S at_ 8 ≠ 0 ∧ nextV S at_ 8 ≠ 1) : Calls Tryd.prog 72 #[.pointer (some ⟨mb, 0, none⟩)] w (ExP B mb F S w T 3 2) := by
 unfold ExP
 have H := qh h
 have HC := qh hcap
 obtain ⟨z, hz⟩ : ∃ z, nextV S at_ 8 = z := ⟨_, rfl⟩
 rw [hz] at hr
 have hz0 : (z == 0) = false := beq_eq_false_iff_ne.2 hr.1
 have hz1 : (z == 1) = false := beq_eq_false_iff_ne.2 hr.2
 have HR := qh hz
 clear h hcap hr hz
 go_enter Tryd.func72, Tryd.ntmps72
 go_upto_region 2 with (go_at_call 46; go_must (refine (next_any (n := 8) H.out (by decide) (by decide)).mono ?_); rintro e w2 ⟨rfl, hm, hk⟩; rw [HR.out]; have HM2 := qh hm; have HK2 := qh hk; clear hm hk)
 go_wp2_with (first | (go_at_call 48; obtain ⟨hgood, hxp⟩ := HM3.out.good.x (d := 0) (op := 6) (n := 0) (s := s) (Xs.nil_ _ 0) (by decide) (by decide) (fun ks hl hk => by match ks, hl with | [], _ => exact Good.name_ s HS.out.1 HS.out.2); go_must (refine (madd_none HM3.out 6 0 s hgood (by have h0 := HC.out; (try simp only [LL]); omega)).mono ?_); rintro e w4 ⟨r4, rfl, hr4, hm, hk⟩; rw [← hr4] at hxp; have HM4 := qh hm; have HK4 := qh (HK3.out.trans hk); have HP4 := qh hxp; clear hm hk hgood hxp hr4) | (go_at_call 90; go_must (refine (mname_any HM2.out).mono ?_); rintro e w3 ⟨s, rfl, hs, hm, hk⟩; have HS := qh hs; have HM3 := qh hm; have HK3 := qh (HK2.out.trans hk); clear hm hk hs))
 go_ret
 exact ⟨_, _, [⟨6, 0, s, 0, []⟩], rfl, HM4.out, HK4.out, (by  simp only [LL]; omega), HP4.out.le (by decide)⟩
theorem mtarget_any {B mb at_ : Nat} {F : Nat → Prop} {S : List Int} {T : List NodeD} {w : World} (h : Mk B mb F S at_ T w) (hcap : T.length + 3 ≤ 549755813888) : Calls Tryd.prog 72 #[.pointer (some ⟨mb, 0, none⟩)] w (ExP B mb F S w T 3 2) := by
 by_cases h0 : nextV S at_ 8 = 0
 ·exact mtarget_0 h hcap h0
 ·by_cases h1 : nextV S at_ 8 = 1
  ·exact mtarget_1 h hcap h1
  ·exact mtarget_2 h hcap ⟨h0, h1⟩
theorem mtargets_any {B mb at_ : Nat} {F : Nat → Prop} {S : List Int} {T : List NodeD} {w : World} (h : Mk B mb F S at_ T w) (hcap : T.length + 7 ≤ 549755813888) : Calls Tryd.prog 70 #[.pointer (some ⟨mb, 0, none⟩)] w (ExP B mb F S w T 7 3) := by
 unfold ExP
 have H := qh h
 have HC := qh hcap
 obtain ⟨z, hz, hz6⟩ := nat_of (nextV_ok S at_ (n := 6) (by decide))
 have HR := qh hz
 clear h hcap hz
 by_cases hz0 : (0 : Int) < (z : Int)
 ·have hd0 : decide ((0 : Int) < (z : Int)) = true := decide_eq_true hz0
  go_enter Tryd.func70, Tryd.ntmps70
  go_wp2_with (first
   | (go_at_call 46; go_must (refine (next_any (n := 6) H.out (by decide) (by decide)).mono ?_); rintro e w2 ⟨rfl, hm, hk⟩; rw [HR.out]; have HM2 := qh hm; have HK2 := qh hk; clear hm hk)
   | (go_at_call 72; go_must (refine (mtarget_any HM2.out (by have := HC.out; omega)).mono ?_); rintro e w3 ⟨r3, at3, X3, rfl, hm, hk, hx, hp⟩; have HM3 := qh hm; have HK3 := qh (HK2.out.trans hk); have HX3 := qh hx; have HP3 := qh hp; clear hm hk hx hp))
  go_ret
  exact ⟨_, _, X3, rfl, HM3.out, HK3.out, by have := HX3.out; omega, HP3.out.le (by decide)⟩
 ·have HR0 : Hid (nextV S at_ 6 = 0) := qh (by rw [HR.out]; omega)
  clear hz0 HR hz6
  go_enter Tryd.func70, Tryd.ntmps70
  go_wp2_with (go_at_call 46; go_must (refine (next_any (n := 6) H.out (by decide) (by decide)).mono ?_); rintro e w2 ⟨rfl, hm, hk⟩; rw [HR0.out]; have HM2 := qh hm; have HK2 := qh hk; clear hm hk)
  go_loopw [3, 4] (fun v3 v4 wr => ∃ (i at4 : Nat) (X : List NodeD) (A1 : Option Addr) (c1 : Nat) (M : List Int), i ≤ 2 ∧ v4 = .int .i64 i ∧ v3 = .slice A1 M.length c1 ∧ Hid (M.length = i) ∧ Hid (OwnI wr (.slice A1 M.length c1) M) ∧ Hid (∀ b, (Value.slice A1 M.length c1).ownBlock = some b → w.heap.size ≤ b) ∧ Hid (Mk B mb (fun k => F k ∨ (Value.slice A1 M.length c1).ownBlock = some k) S at4 (T ++ X) wr) ∧ Hid (Kp B mb w wr) ∧ Hid (X.length ≤ i * 3) ∧ Hid (Xs (T ++ X) 2 M)) (fun _ v4 _ => 3 - (intOf v4).toNat)
  case atStart => exact ⟨0, _, [], none, 0, [], by decide, rfl, rfl, qh rfl, qh (OwnI.nil_ _), qh (fun b e => by cases e), qh (by rw [List.append_nil]; exact HM2.out.less fun k hk => hk.resolve_right (fun e => by cases e)), HK2, qh (by simp), qh (Xs.nil_ _ _)⟩
  case round =>
   obtain ⟨i, at4, X, A1, c1, M, hi, rfl, rfl, HMl, HO4, HNw, HM4, HK4, HX4, HXs⟩ := hrel
   clear HM2 HK2
   obtain ⟨q, hq, hq2⟩ := nat_of (nextV_ok S at4 (n := 2) (by decide))
   have HQ := qh hq
   have hml : M.length ≤ 2 := by have := HMl.out; omega
   clear hq
   by_cases hlt : i ≤ q
   ·have hi1 : i ≤ 1 := by omega
    go_wp2_with (first
     | (go_at_call 46; go_must (refine (next_any (n := 2) HM4.out (by decide) (by decide)).mono ?_); rintro e w5 ⟨rfl, hm, hk⟩; rw [HQ.out]; have HO5 := qh (HO4.out.kp HM4.out hk); have HM5 := qh hm; have HK5 := qh (HK4.out.trans hk); clear hm hk)
     | (go_at_call 72; go_must (refine (mtarget_any HM5.out (by have := HC.out; have := HX4.out; rw [List.length_append]; omega)).mono ?_); rintro e w6 ⟨r6, at6, X6, rfl, hm, hk, hx, hp⟩; have HO6 := qh (HO5.out.kp HM5.out hk); have HM6 := qh hm.assoc; have HK6 := qh (HK5.out.trans hk); have HX6 := qh hx; have HP6 := qh hp.assoc; clear hm hk hx hp)
     | (at_builtin; go_must (refine wpList_appendN _ rfl _ _ rfl (.slice A1 M.length c1) M rfl (OwnI.bel HO6.out (by exact bl1)) _ 1 1 [r6] rfl (Rd.intG rfl r6) rfl (by omega) ?_); intro v8 w8 ho8 hg8 hn8; generalize hG : M ++ [r6] = G at ho8; have HGl : Hid (G.length = i + 1) := qh (by rw [← hG, List.length_append, HMl.out]; rfl); have HXG : Hid (Xs (T ++ (X ++ X6)) 2 G) := qh (by rw [← hG]; exact HXs.out.up2.snoc HP6.out); obtain ⟨A3, c3, e8, -, -⟩ := Own.rd ho8; subst e8; have HM8 := qh (HM6.out.grown (by exact bl1) HO6.out (fun b e => Nat.le_trans H.out.wB (HNw.out b e)) hg8 hn8 (fun b e => Own.lt ho8 e)); have HK8 := qh ((HK6.out.trans (Kp.alloc B mb _ _)).grown hg8 HNw.out); have HN8 : Hid (∀ b, (Value.slice A3 G.length c3).ownBlock = some b → w.heap.size ≤ b) := qh (new_own HNw.out hn8 (Nat.le_trans HK6.out.size (alloc_le _ _))); have HO8 := qh ho8; clear hG ho8 hg8 hn8))
    go_round
    case rel => exact ⟨i + 1, at6, X ++ X6, A3, c3, G, by omega, by go_num, rfl, HGl, HO8, HN8, HM8, HK8, qh (by have h4 := HX4.out; have h5 := HX6.out; simp only [List.length_append, Nat.add_mul]; omega), HXG⟩
    case measure => simp [intOf]; omega
   ·go_wp2_with (first
     | (go_at_call 46; go_must (refine (next_any (n := 2) HM4.out (by decide) (by decide)).mono ?_); rintro e w5 ⟨rfl, hm, hk⟩; rw [HQ.out]; have HO5 := qh (HO4.out.kp HM4.out hk); have HM5 := qh hm; have HK5 := qh (HK4.out.trans hk); clear hm hk)
     | (go_at_call 48; obtain ⟨hgood, hxp⟩ := HM5.out.good.x (d := 2) (op := 8) (n := 0) (s := ⟨#[]⟩) (kids := M) HXs.out (by decide) (by decide) (fun ks hl hk => Good.tuple_ ks hk (by omega)); go_must (refine (madd_own HM5.out HO5.out rfl rfl (by omega) 8 0 ⟨#[]⟩ hgood (by have := HC.out; have := HX4.out; rw [List.length_append]; omega)).mono ?_); rintro e w9 ⟨r9, rfl, hr9, hm, hk⟩; rw [← hr9] at hxp; have HM9 := qh hm.assoc; have HK9 := qh (HK5.out.trans hk); have HP9 := qh hxp.assoc; clear hm hk hgood hxp hr9))
    go_ret
    exact ⟨_, _, X ++ [⟨8, 0, ⟨#[]⟩, 0, M⟩], rfl, HM9.out.less fun k hk => .inl hk, HK9.out, (by have h4 := HX4.out; simp only [LL]; omega), HP9.out⟩
end
section
open Go.RowKit
set_option linter.unusedVariables false
set_option linter.unusedSimpArgs false
def RqP (B mb : Nat) (F : Nat → Prop) (S : List Int) (w : World) (T : List NodeD) (N m : Nat) (e : Ending) (w' : World) : Prop :=
 ∃ (v : Value) (kids : List Int) (at_ : Nat) (X : List NodeD), e = .returned v ∧ OwnI w' v kids ∧ (∀ b, v.ownBlock = some b → w.heap.size ≤ b) ∧ kids.length ≤ m ∧ Mk B mb (fun k => F k ∨ v.ownBlock = some k) S at_ (T ++ X) w' ∧ Kp B mb w w' ∧ X.length ≤ N
theorem pick_params {B mb : Nat} {w w2 : World} (hmb : mb < w.heap.size) {cs : Array Value} (hcs : cs = #[.slice (some ⟨w.heap.size, 0, none⟩) 0 0, .slice (some ⟨w.heap.size + 1, 0, none⟩) 1 1, .slice (some ⟨w.heap.size + 1 + 1, 0, none⟩) 2 2, .slice (some ⟨w.heap.size + 1 + 1 + 1, 0, none⟩) 1 1])
  (hk : Kp B mb (((((w.alloc (.cells #[] 9)).alloc (.cells #[.string ⟨#[97]⟩] 9)).alloc (.cells #[.string ⟨#[97]⟩, .string ⟨#[98]⟩] 9)).alloc (.cells #[.string ⟨#[120]⟩] 9)).alloc (.cells cs 75)) w2) {q : Nat} (hq : q < 4) :
  w.heap.size + 1 + 1 + 1 + 1 < w2.heap.size ∧ ∃ (g n : Nat) (L : List ByteArray), w2.cell? ⟨w.heap.size + 1 + 1 + 1 + 1, q, none⟩ = some (.slice (some ⟨g, 0, none⟩) n n) ∧ Blk w2 g 9 (L.map Value.string).toArray ∧ L.length = n ∧ n ≤ 2 ∧ (∀ s ∈ L, NameOk s) ∧ w.heap.size ≤ g := by
 have hs := hk.size
 simp only [World.size_alloc] at hs
 have hT : Blk w2 (w.heap.size + 1 + 1 + 1 + 1) 75 cs := hk.blk (g := w.heap.size + 1 + 1 + 1 + 1) (by have := Blk.new ((((w.alloc (.cells #[] 9)).alloc (.cells #[.string ⟨#[97]⟩] 9)).alloc (.cells #[.string ⟨#[97]⟩, .string ⟨#[98]⟩] 9)).alloc (.cells #[.string ⟨#[120]⟩] 9)) 75 cs; simpa only [World.size_alloc] using this) (by omega) (by decide)
 refine ⟨by omega, ?_⟩
 have h0 : Blk w2 w.heap.size 9 #[] := hk.blk (((((Blk.new w 9 #[]).alloc _).alloc _).alloc _).alloc _) (by omega) (by decide)
 have h1 : Blk w2 (w.heap.size + 1) 9 #[.string ⟨#[97]⟩] := hk.blk (by have := (((Blk.new (w.alloc (.cells #[] 9)) 9 #[.string ⟨#[97]⟩]).alloc (.cells #[.string ⟨#[97]⟩, .string ⟨#[98]⟩] 9)).alloc (.cells #[.string ⟨#[120]⟩] 9)).alloc (.cells cs 75); simpa only [World.size_alloc] using this) (by omega) (by decide)
 have h2 : Blk w2 (w.heap.size + 1 + 1) 9 #[.string ⟨#[97]⟩, .string ⟨#[98]⟩] := hk.blk (by have := ((Blk.new ((w.alloc (.cells #[] 9)).alloc (.cells #[.string ⟨#[97]⟩] 9)) 9 #[.string ⟨#[97]⟩, .string ⟨#[98]⟩]).alloc (.cells #[.string ⟨#[120]⟩] 9)).alloc (.cells cs 75); simpa only [World.size_alloc] using this) (by omega) (by decide)
 have h3 : Blk w2 (w.heap.size + 1 + 1 + 1) 9 #[.string ⟨#[120]⟩] := hk.blk (by have := (Blk.new (((w.alloc (.cells #[] 9)).alloc (.cells #[.string ⟨#[97]⟩] 9)).alloc (.cells #[.string ⟨#[97]⟩, .string ⟨#[98]⟩] 9)) 9 #[.string ⟨#[120]⟩]).alloc (.cells cs 75); simpa only [World.size_alloc] using this) (by omega) (by decide)
 have hc := hT.cell q
 subst hcs
 have : q = 0 ∨ q = 1 ∨ q = 2 ∨ q = 3 := by omega
 rcases this with rfl | rfl | rfl | rfl
 ·exact ⟨_, 0, [], hc, h0, rfl, by decide, (fun s h => by cases h), Nat.le_refl _⟩
 ·exact ⟨_, 1, [⟨#[97]⟩], hc, h1, rfl, by decide, names_ok (by decide +kernel), by omega⟩
 ·exact ⟨_, 2, [⟨#[97]⟩, ⟨#[98]⟩], hc, h2, rfl, by decide, names_ok (by decide +kernel), by omega⟩
 ·exact ⟨_, 1, [⟨#[120]⟩], hc, h3, rfl, by decide, names_ok (by decide +kernel), by omega⟩
theorem blk_grown9 {w1 w2 W : World} {g : Nat} {cs : Array Value} {v : Value} {xs : List Int} (hb : Blk w1 g 9 cs) (ho : OwnI w1 v xs) (hB : Below w1.heap.size w1 W) (hg : W.grownBy w2 v.ownBlock) : Blk w2 g 9 cs :=
 (hb.bel hB).grown hg fun e => own_blk_ne ho hb (by decide) e.symm
theorem mparams_all {B mb at_ : Nat} {F : Nat → Prop} {S : List Int} {T : List NodeD} {w : World} (h : Mk B mb F S at_ T w) (hcap : T.length + 16 ≤ 549755813888) (hr : nextV S (nextA S at_) 3 ≠ 0) : Calls Tryd.prog 74 #[.pointer (some ⟨mb, 0, none⟩)] w (RqP B mb F S w T 16 2) := by
 unfold RqP
 have H := qh h
 have HC := qh hcap
 obtain ⟨z, hz⟩ : ∃ z, nextV S (nextA S at_) 3 = z := ⟨_, rfl⟩
 rw [hz] at hr
 have hz0 : (z == 0) = false := beq_eq_false_iff_ne.2 hr
 have HR := qh hz
 clear hz
 clear h hcap hr
 go_enter Tryd.func74, Tryd.ntmps74
 go_upto_region 3 with (go_at_call 46; go_must (refine (next_any (n := 4) (H.out.bel (by exact bl5)) (by decide) (by decide)).mono ?_); rintro e w2 ⟨rfl, hm, hk⟩; obtain ⟨q, hq, hq4⟩ := nat_of (nextV_ok S at_ (n := 4) (by decide)); rw [hq]; obtain ⟨hlt2, g, n, L, hcg, hbg, hLn, hn2, hnm, hgw⟩ := pick_params H.out.lt rfl hk (q := q) (by omega); have hq44 : q < 4 := (by omega); have HM2 := qh hm; have HK2 : Hid (Kp B mb w w2) := qh ((Kp.bel B mb (by exact bl5)).trans hk); have HBG2 := qh hbg; have HLN := qh hLn; have HNM := qh hnm; have HGW := qh hgw; have HGM : Hid (¬ g = mb) := qh (by have := H.out.lt; omega); clear hm hk hq hbg hLn hnm hgw)
 clear hcg hlt2
 go_wp2_with (go_at_call 46; go_must (refine (next_any (n := 3) HM2.out (by decide) (by decide)).mono ?_); rintro e w3 ⟨rfl, hm, hk⟩; rw [HR.out]; have HM3 := qh hm; have HK3 := qh (HK2.out.trans hk); have HBG3 := qh (hk.blk HBG2.out HGM.out (by decide)); clear hm hk)
 go_loopw [3, 6] (fun v3 v6 wr => ∃ (i at4 : Nat) (X : List NodeD) (A1 : Option Addr) (c1 : Nat) (M : List Int), i ≤ n ∧ v6 = .int .i64 i ∧ v3 = .slice A1 M.length c1 ∧ Hid (M.length = i) ∧ Hid (OwnI wr (.slice A1 M.length c1) M) ∧ Hid (∀ b, (Value.slice A1 M.length c1).ownBlock = some b → w.heap.size ≤ b) ∧ Hid (Mk B mb (fun k => F k ∨ (Value.slice A1 M.length c1).ownBlock = some k) S at4 (T ++ X) wr) ∧ Hid (Kp B mb w wr) ∧ Hid (X.length ≤ i * 8) ∧ Hid (Blk wr g 9 (L.map Value.string).toArray)) (fun _ v6 _ => n - (intOf v6).toNat)
 case atStart => exact ⟨0, _, [], none, 0, [], Nat.zero_le _, rfl, rfl, qh rfl, qh (OwnI.nil_ _), qh (fun b e => by cases e), qh (by rw [List.append_nil]; exact HM3.out.less fun k hk => hk.resolve_right (fun e => by cases e)), HK3, qh (by simp), HBG3⟩
 case round =>
  obtain ⟨i, at4, X, A1, c1, M, hi, rfl, rfl, HMl, HO4, HNw, HM4, HK4, HX4, HBG4⟩ := hrel
  clear HM3 HK3 HBG3 HBG2 HM2 HK2
  have hml : M.length ≤ 2 := by have := HMl.out; omega
  have hin : n ≤ 9223372036854775807 := by omega
  by_cases hlt : i < n
  ·obtain ⟨s, hs, hc4⟩ := pick_cell HBG4.out (r := i) (by have := HLN.out; omega)
   have HS := qh (HNM.out s hs)
   have hltg := HBG4.out.lt
   have hws : IntKind.i64.wrap ((n : Int) - 1) = (n : Int) - 1 := IntWalk.i64_in _ (by omega)
   clear hs
   go_wp2_with (first
    | (go_at_call 48; go_must (refine (madd_none HM4.out 22 0 s (HM4.out.good.o (.inl rfl)) (by have := HC.out; have := HX4.out; rw [List.length_append]; omega)).mono ?_); rintro e w6 ⟨r6, rfl, hr6, hm, hk⟩; have HO6 := qh (HO4.out.kp HM4.out hk); have HM6 := qh hm.assoc; have HK6 := qh (HK4.out.trans hk); have HBG6 := qh (hk.blk HBG4.out HGM.out (by decide)); clear hm hk hr6)
    | (at_builtin; go_must (refine wpList_appendN _ rfl _ _ rfl (.slice A1 M.length c1) M rfl (OwnI.bel HO6.out (by exact bl1)) _ 1 1 [r6] rfl (Rd.intG rfl r6) rfl (by omega) ?_); intro v8 w8 ho8 hg8 hn8; generalize hG : M ++ [r6] = G at ho8; have HGl : Hid (G.length = i + 1) := qh (by rw [← hG, List.length_append, HMl.out]; rfl); obtain ⟨A3, c3, e8, -, -⟩ := Own.rd ho8; subst e8; have HM8 := qh (HM6.out.grown (by exact bl1) HO6.out (fun b e => Nat.le_trans H.out.wB (HNw.out b e)) hg8 hn8 (fun b e => Own.lt ho8 e)); have HK8 := qh ((HK6.out.trans (Kp.bel B mb (by exact bl1))).grown hg8 HNw.out); have HN8 : Hid (∀ b, (Value.slice A3 G.length c3).ownBlock = some b → w.heap.size ≤ b) := qh (new_own HNw.out hn8 (Nat.le_trans HK6.out.size (alloc_le _ _))); have HB8 := qh (blk_grown9 HBG6.out HO6.out (by exact bl1) hg8); have HO8 := qh ho8; clear hG ho8 hg8 hn8))
   go_round
   case rel => exact ⟨i + 1, at4, X ++ [⟨22, 0, s, 0, []⟩], A3, c3, G, by omega, by go_num, rfl, HGl, HO8, HN8, HM8, HK8, qh (by have h4 := HX4.out; simp only [LL, Nat.add_mul]; omega), HB8⟩
   case measure => simp [intOf]; omega
  ·obtain rfl : i = n := by omega
   go_wp2_with fail
   go_ret
   exact ⟨_, M, at4, X, rfl, HO4.out, HNw.out, hml, HM4.out, HK4.out, by have := HX4.out; omega⟩
theorem mparams_late {B mb at_ : Nat} {F : Nat → Prop} {S : List Int} {T : List NodeD} {w : World} (h : Mk B mb F S at_ T w) (hcap : T.length + 16 ≤ 549755813888) (hr : nextV S (nextA S at_) 3 = 0) : Calls Tryd.prog 74 #[.pointer (some ⟨mb, 0, none⟩)] w (RqP B mb F S w T 16 2) := by
 unfold RqP
 have H := qh h
 have HC := qh hcap
 have HR := qh hr
 clear h hcap hr
 go_enter Tryd.func74, Tryd.ntmps74
 go_upto_region 3 with (go_at_call 46; go_must (refine (next_any (n := 4) (H.out.bel (by exact bl5)) (by decide) (by decide)).mono ?_); rintro e w2 ⟨rfl, hm, hk⟩; obtain ⟨q, hq, hq4⟩ := nat_of (nextV_ok S at_ (n := 4) (by decide)); rw [hq]; obtain ⟨hlt2, g, n, L, hcg, hbg, hLn, hn2, hnm, hgw⟩ := pick_params H.out.lt rfl hk (q := q) (by omega); have hq44 : q < 4 := (by omega); have HM2 := qh hm; have HK2 : Hid (Kp B mb w w2) := qh ((Kp.bel B mb (by exact bl5)).trans hk); have HBG2 := qh hbg; have HLN := qh hLn; have HNM := qh hnm; have HGW := qh hgw; have HGM : Hid (¬ g = mb) := qh (by have := H.out.lt; omega); clear hm hk hq hbg hLn hnm hgw)
 clear hcg hlt2
 go_wp2_with (go_at_call 46; go_must (refine (next_any (n := 3) HM2.out (by decide) (by decide)).mono ?_); rintro e w3 ⟨rfl, hm, hk⟩; rw [HR.out]; have HM3 := qh hm; have HK3 := qh (HK2.out.trans hk); have HBG3 := qh (hk.blk HBG2.out HGM.out (by decide)); clear hm hk)
 go_loopw [3, 6] (fun v3 v6 wr => ∃ (i at4 : Nat) (X : List NodeD) (A1 : Option Addr) (c1 : Nat) (M : List Int), i ≤ n ∧ v6 = .int .i64 i ∧ v3 = .slice A1 M.length c1 ∧ Hid (M.length = i) ∧ Hid (OwnI wr (.slice A1 M.length c1) M) ∧ Hid (∀ b, (Value.slice A1 M.length c1).ownBlock = some b → w.heap.size ≤ b) ∧ Hid (Mk B mb (fun k => F k ∨ (Value.slice A1 M.length c1).ownBlock = some k) S at4 (T ++ X) wr) ∧ Hid (Kp B mb w wr) ∧ Hid (X.length ≤ i * 8) ∧ Hid (Blk wr g 9 (L.map Value.string).toArray)) (fun _ v6 _ => n - (intOf v6).toNat)
 case atStart => exact ⟨0, _, [], none, 0, [], Nat.zero_le _, rfl, rfl, qh rfl, qh (OwnI.nil_ _), qh (fun b e => by cases e), qh (by rw [List.append_nil]; exact HM3.out.less fun k hk => hk.resolve_right (fun e => by cases e)), HK3, qh (by simp), HBG3⟩
 case round =>
  obtain ⟨i, at4, X, A1, c1, M, hi, rfl, rfl, HMl, HO4, HNw, HM4, HK4, HX4, HBG4⟩ := hrel
  clear HM3 HK3 HBG3 HBG2 HM2 HK2
  have hml : M.length ≤ 2 := by have := HMl.out; omega
  have hin : n ≤ 9223372036854775807 := by omega
  by_cases hlt : i < n
  ·obtain ⟨s, hs, hc4⟩ := pick_cell HBG4.out (r := i) (by have := HLN.out; omega)
   have HS := qh (HNM.out s hs)
   have hltg := HBG4.out.lt
   have hws : IntKind.i64.wrap ((n : Int) - 1) = (n : Int) - 1 := IntWalk.i64_in _ (by omega)
   clear hs
   by_cases hlast : (i : Int) = (n : Int) - 1
   ·have hl1 : ((i : Int) == (n : Int) - 1) = true := beq_iff_eq.2 hlast
    clear hlast
    go_upto_region 8 with fail
    have HCS : Hid ((L.map Value.string).toArray[i]? = some (.string s)) := qh ((HBG4.out.cell i).symm.trans hc4)
    go_region_held3 (fun w' => w'.cell? ⟨g, i, none⟩ = some (.string s)) (first | exact hc4 | exact HC5.out | exact HC6.out | exact HC8.out | go_keep) (first
     | (have hg := HO6.out; refine step_appendN _ rfl (.tmp 33) (.tmp 43) rfl (.slice A1 M.length c1) M rfl (OwnI.bel HO6.out (by exact bl1)) _ 1 1 [r6] rfl (by exact Rd.intG (by simp) r6) rfl (by omega) ?_; intro v8 w8 ho8 hg8 hn8; generalize hG : M ++ [r6] = G at ho8; have HGl : Hid (G.length = i + 1) := qh (by rw [← hG, List.length_append, HMl.out]; rfl); obtain ⟨A3, c3, e8, -, -⟩ := Own.rd ho8; subst e8; have HM8 := qh (HM6.out.grown (by exact bl1) HO6.out (fun b e => Nat.le_trans H.out.wB (HNw.out b e)) hg8 hn8 (fun b e => Own.lt ho8 e)); have HK8 := qh ((HK6.out.trans (Kp.bel B mb (by exact bl1))).grown hg8 HNw.out); have HN8 : Hid (∀ b, (Value.slice A3 G.length c3).ownBlock = some b → w.heap.size ≤ b) := qh (new_own HNw.out hn8 (Nat.le_trans HK6.out.size (alloc_le _ _))); have HB8 := qh (blk_grown9 HBG6.out HO6.out (by exact bl1) hg8); have HO8 := qh ho8; clear hG ho8 hg8 hn8; have hc8 := (HB8.out.cell i).trans HCS.out; have HC8 := qh hc8; clear hc8)
     | (go_at_call 71; refine (mexpr1_any (HM4.out.bel (by exact bld)) (by have := HC.out; have := HX4.out; rw [List.length_append]; omega)).mono ?_; rintro e w5 ⟨r5, at5, X5, rfl, hm, hk, hx, hp⟩; have HO5 := qh ((OwnI.bel HO4.out (by exact bld)).kp (HM4.out.bel (by exact bld)) hk); have HM5 := qh hm.assoc; have HK5 := qh ((HK4.out.trans (Kp.bel B mb (by exact bld))).trans hk); have HX5 := qh hx; have HBG5 := qh (hk.blk (HBG4.out.bel (by exact bld)) HGM.out (by decide)); have HC5 := qh ((HBG5.out.cell i).trans HCS.out); clear hm hk hx hp)
     | (go_at_call 48; refine (madd_any (HM5.out.bel (by exact bl1)) (k := 1) (c1 := 1) (kids := [r5]) (by first | exact Rd.intG (by simp) r5 | exact (Rd.intG (by simp) r5).bel (by exact (by repeat (first | exact Below.refl _ _ | assumption | refine Below.setCell ?_ (by first | (simp; done) | (simp; omega) | omega) _ | refine below_drewN ?_ _ | refine Below.drew ?_ | refine Below.alloc ?_ (by first | (simp; done) | (simp; omega) | omega) _)))) rfl (by decide) (fun b o e => by cases e; have := HM5.out.lt; simp; omega) 22 0 s (HM5.out.good.o (.inl rfl)) (by have := HC.out; have := HX4.out; have := HX5.out; simp only [List.length_append]; omega)).mono ?_; rintro e w6 ⟨rfl, hm, hk⟩; generalize hr6 : (((T ++ (X ++ X5)).length : Nat) : Int) = r6 at ⊢; have HO6 := qh ((OwnI.bel HO5.out (by exact bl1)).kp (HM5.out.bel (by exact bl1)) hk); have HM6 := qh hm.assoc; have HK6 := qh ((HK5.out.trans (Kp.bel B mb (by exact bl1))).trans hk); have HBG6 := qh (hk.blk (HBG5.out.bel (by exact bl1)) HGM.out (by decide)); have HC6 := qh ((HBG6.out.cell i).trans HCS.out); clear hm hk hr6))
    all_goals
     go_simp
     go_wp2_with fail
     go_round
     case rel => exact ⟨i + 1, at5, X ++ X5 ++ [⟨22, 0, s, 0, [r5]⟩], A3, c3, G, by omega, by go_num, rfl, HGl, HO8, HN8, HM8, HK8, qh (by have h4 := HX4.out; have h5 := HX5.out; simp only [LL, Nat.add_mul]; omega), HB8⟩
     case measure => simp [intOf]; omega
   ·have hl1 : ((i : Int) == (n : Int) - 1) = false := beq_eq_false_iff_ne.2 hlast
    clear hlast
    go_wp2_with (first
     | (go_at_call 48; go_must (refine (madd_none HM4.out 22 0 s (HM4.out.good.o (.inl rfl)) (by have := HC.out; have := HX4.out; rw [List.length_append]; omega)).mono ?_); rintro e w6 ⟨r6, rfl, hr6, hm, hk⟩; have HO6 := qh (HO4.out.kp HM4.out hk); have HM6 := qh hm.assoc; have HK6 := qh (HK4.out.trans hk); have HBG6 := qh (hk.blk HBG4.out HGM.out (by decide)); clear hm hk hr6)
     | (at_builtin; go_must (refine wpList_appendN _ rfl _ _ rfl (.slice A1 M.length c1) M rfl (OwnI.bel HO6.out (by exact bl1)) _ 1 1 [r6] rfl (Rd.intG rfl r6) rfl (by omega) ?_); intro v8 w8 ho8 hg8 hn8; generalize hG : M ++ [r6] = G at ho8; have HGl : Hid (G.length = i + 1) := qh (by rw [← hG, List.length_append, HMl.out]; rfl); obtain ⟨A3, c3, e8, -, -⟩ := Own.rd ho8; subst e8; have HM8 := qh (HM6.out.grown (by exact bl1) HO6.out (fun b e => Nat.le_trans H.out.wB (HNw.out b e)) hg8 hn8 (fun b e => Own.lt ho8 e)); have HK8 := qh ((HK6.out.trans (Kp.bel B mb (by exact bl1))).grown hg8 HNw.out); have HN8 : Hid (∀ b, (Value.slice A3 G.length c3).ownBlock = some b → w.heap.size ≤ b) := qh (new_own HNw.out hn8 (Nat.le_trans HK6.out.size (alloc_le _ _))); have HB8 := qh (blk_grown9 HBG6.out HO6.out (by exact bl1) hg8); have HO8 := qh ho8; clear hG ho8 hg8 hn8))
    go_round
    case rel => exact ⟨i + 1, at4, X ++ [⟨22, 0, s, 0, []⟩], A3, c3, G, by omega, by go_num, rfl, HGl, HO8, HN8, HM8, HK8, qh (by have h4 := HX4.out; simp only [LL, Nat.add_mul]; omega), HB8⟩
    case measure => simp [intOf]; omega
  ·obtain rfl : i = n := by omega
   go_wp2_with fail
   go_ret
   exact ⟨_, M, at4, X, rfl, HO4.out, HNw.out, hml, HM4.out, HK4.out, by have := HX4.out; omega⟩
theorem mparams_any {B mb at_ : Nat} {F : Nat → Prop} {S : List Int} {T : List NodeD} {w : World} (h : Mk B mb F S at_ T w) (hcap : T.length + 16 ≤ 549755813888) : Calls Tryd.prog 74 #[.pointer (some ⟨mb, 0, none⟩)] w (RqP B mb F S w T 16 2) := by
 by_cases hr : nextV S (nextA S at_) 3 = 0
 ·exact mparams_late h hcap hr
 ·exact mparams_all h hcap hr
end
end Go.Proofs.YtjdcicopjipmnaaDoor
