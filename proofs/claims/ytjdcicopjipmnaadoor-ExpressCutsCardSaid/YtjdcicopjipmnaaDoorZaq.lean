/- The maker: statements that hold no block. -/
import Derived.Test.YtjdcicopjipmnaaDoorZap
namespace Go.Proofs.YtjdcicopjipmnaaDoor
set_option maxRecDepth 100000
set_option maxHeartbeats 16000000
open Go.RowKit
set_option linter.unusedVariables false
set_option linter.unusedSimpArgs false
def sbound : Nat → Nat
 | 0 => 200
 | d + 1 => 15 * sbound d + 240
theorem sbound_pos : ∀ d, 200 ≤ sbound d
 | 0 => Nat.le_refl _
 | d + 1 => by have := sbound_pos d; simp only [sbound]; omega
def Pick (S : List Int) (at_ : Nat) (T : List NodeD) (dv k : Int) : Prop :=
 (decide (dv ≤ 0) = false ∧ decide (160 - (T.length : Int) ≤ 0) = false ∧ nextV S at_ 40 = k) ∨ (decide (dv ≤ 0) = false ∧ decide (160 - (T.length : Int) ≤ 0) = true ∧ nextV S at_ 40 % 14 = k) ∨ (decide (dv ≤ 0) = true ∧ nextV S at_ 40 % 14 = k)
def StP (B mb : Nat) (F : Nat → Prop) (S : List Int) (w : World) (T : List NodeD) (N : Nat) (e : Ending) (w' : World) : Prop :=
 ∃ (r : Int) (at_ : Nat) (X : List NodeD), e = .returned (.int .i64 r) ∧ Mk B mb F S at_ (T ++ X) w' ∧ Kp B mb w w' ∧ X.length ≤ N
structure STX (d : Nat) : Prop where
 run : ∀ {B mb at_ : Nat} {F : Nat → Prop} {S : List Int} {T : List NodeD} {w : World}, Mk B mb F S at_ T w → T.length + sbound d ≤ 549755813888 → ∀ f l c : Bool, Calls Tryd.prog 47 #[.pointer (some ⟨mb, 0, none⟩), .int .i64 (d : Int), .agg #[.bool f, .bool l, .bool c]] w (StP B mb F S w T (sbound d))
theorem OwnI.made2 (w : World) : OwnI (w.alloc (.cells #[.int .i64 48, .int .i64 49] 3)) (.slice (some ⟨w.heap.size, 0, none⟩) 2 2) [48, 49] := Own.made (t := 3) (sz := 1) w #[.int .i64 48, .int .i64 49] 2 (by decide) rfl
theorem mst_0all {k : Int} (hk : k = 0 ∨ k = 1 ∨ k = 2 ∨ k = 3 ∨ k = 4) {D : Nat} {dv : Int} {B mb at_ : Nat} {F : Nat → Prop} {S : List Int} {T : List NodeD} {w : World} (h : Mk B mb F S at_ T w) (hcap : T.length + sbound D ≤ 549755813888) (f l c : Bool) (hr : Pick S at_ T dv k) : Calls Tryd.prog 47 #[.pointer (some ⟨mb, 0, none⟩), .int .i64 dv, .agg #[.bool f, .bool l, .bool c]] w (StP B mb F S w T (sbound D)) := by
 unfold StP
 have H := qh h
 have HB1 := qh (sbound_pos D)
 have HC : Hid (T.length + 200 ≤ 549755813888) := qh (by have := sbound_pos D; omega)
 clear h hcap
 rcases hk with rfl | rfl | rfl | rfl | rfl
 all_goals
  go_enter Tryd.func47, Tryd.ntmps47
  rcases hr with ⟨hd1, hl1, hr⟩ | ⟨hd1, hl1, hr⟩ | ⟨hd1, hr⟩
  focus
   have HR := qh hr
   clear hr
   go_upto_region 4 with (go_at_call 46; go_must (refine (next_any (n := 40) (H.out.alloc _) (by decide) (by decide)).mono ?_); rintro e w2 ⟨rfl, hm, hk⟩; rw [HR.out]; obtain ⟨A0, sn, c0, v0, hb0, -⟩ := hm.m; have x3 := hb0.cell 3; have xlt := hb0.lt; simp only [GG] at x3; clear hb0; have HM2 := qh hm; have HK2 := qh ((Kp.alloc B mb w _).trans hk); clear hm hk)
   clear hl1 x3 hd1
  rotate_left
  focus
   have HR := qh hr
   clear hr
   go_upto_region 4 with (go_at_call 46; go_must (refine (next_any (n := 40) (H.out.alloc _) (by decide) (by decide)).mono ?_); rintro e w2 ⟨rfl, hm, hk⟩; have hq := HR.out; obtain ⟨rn, hrn, hr30⟩ := nat_of (nextV_ok S at_ (n := 40) (by decide)); rw [hrn] at hq ⊢; have hq2 := (Int.tmod_eq_emod_of_nonneg (a := (rn : Int)) (b := 14) (by omega)).trans hq; obtain ⟨A0, sn, c0, v0, hb0, -⟩ := hm.m; have x3 := hb0.cell 3; have xlt := hb0.lt; simp only [GG] at x3; clear hb0; have HM2 := qh hm; have HK2 := qh ((Kp.alloc B mb w _).trans hk); clear hm hk hrn)
   clear hq hq2 hl1 x3 hd1
  rotate_left
  focus
   have HR := qh hr
   clear hr
   go_upto_region 4 with (go_at_call 46; go_must (refine (next_any (n := 40) (H.out.alloc _) (by decide) (by decide)).mono ?_); rintro e w2 ⟨rfl, hm, hk⟩; have hq := HR.out; obtain ⟨rn, hrn, hr30⟩ := nat_of (nextV_ok S at_ (n := 40) (by decide)); rw [hrn] at hq ⊢; have hq2 := (Int.tmod_eq_emod_of_nonneg (a := (rn : Int)) (b := 14) (by omega)).trans hq; obtain ⟨A0, sn, c0, v0, hb0, -⟩ := hm.m; have x3 := hb0.cell 3; have xlt := hb0.lt; simp only [GG] at x3; clear hb0; have HM2 := qh hm; have HK2 := qh ((Kp.alloc B mb w _).trans hk); clear hm hk hrn)
   clear hq hq2 x3 hd1
 all_goals
  go_upto_region 11 with (first | (go_at_call 70; go_must (refine (mtargets_any HM2.out (by have h0 := HC.out; have hb := HB1.out; (try simp only [LL]); omega)).mono ?_); rintro e w3 ⟨r3, at3, X3, rfl, hm, hk, hx, hp⟩; have HM3 := qh hm; have HK3 := qh (HK2.out.trans hk); have HX3 := qh hx; have HP3 := qh hp; clear hm hk hx hp))
  go_wp2_with (first | (go_at_call 48; have hgood := HM4.out.good.o (op := 43) (n := 0) (s := ⟨#[]⟩) (kids := [r3, r4]) (.inr (by decide)); go_must (refine (madd_lit HM4.out [r3, r4] rfl rfl rfl (by simp) 43 0 ⟨#[]⟩ hgood (by have h0 := HC.out; have hb := HB1.out; have h3 := HX3.out; have h4 := HX4.out; (try simp only [LL]); omega)).mono ?_); rintro e w5 ⟨r5, rfl, hr5, hm, hk⟩; have HM5 := qh hm.assoc; have HK5 := qh (HK4.out.trans hk); clear hm hk hgood hr5) | (go_at_call 71; go_must (refine (mexpr3_any HM3.out (by have h0 := HC.out; have hb := HB1.out; have h3 := HX3.out; (try simp only [LL]); omega)).mono ?_); rintro e w4 ⟨r4, at4, X4, rfl, hm, hk, hx, hp⟩; have HM4 := qh hm.assoc; have HK4 := qh (HK3.out.trans hk); have HX4 := qh hx; have HP4 := qh hp.assoc; clear hm hk hx hp))
  go_ret
  exact ⟨_, _, ((X3 ++ X4) ++ [⟨43, 0, ⟨#[]⟩, 0, [r3, r4]⟩]), rfl, HM5.out, HK5.out, (by have hb := HB1.out; have h3 := HX3.out; have h4 := HX4.out;  (try simp only [sbound, LL]); (try simp only [sbound]); omega)⟩
theorem mst_5all {k : Int} (hk : k = 5 ∨ k = 6) {D : Nat} {dv : Int} {B mb at_ : Nat} {F : Nat → Prop} {S : List Int} {T : List NodeD} {w : World} (h : Mk B mb F S at_ T w) (hcap : T.length + sbound D ≤ 549755813888) (f l c : Bool) (hr : Pick S at_ T dv k) : Calls Tryd.prog 47 #[.pointer (some ⟨mb, 0, none⟩), .int .i64 dv, .agg #[.bool f, .bool l, .bool c]] w (StP B mb F S w T (sbound D)) := by
 unfold StP
 have H := qh h
 have HB1 := qh (sbound_pos D)
 have HC : Hid (T.length + 200 ≤ 549755813888) := qh (by have := sbound_pos D; omega)
 clear h hcap
 rcases hk with rfl | rfl
 all_goals
  go_enter Tryd.func47, Tryd.ntmps47
  rcases hr with ⟨hd1, hl1, hr⟩ | ⟨hd1, hl1, hr⟩ | ⟨hd1, hr⟩
  focus
   have HR := qh hr
   clear hr
   go_upto_region 4 with (go_at_call 46; go_must (refine (next_any (n := 40) (H.out.alloc _) (by decide) (by decide)).mono ?_); rintro e w2 ⟨rfl, hm, hk⟩; rw [HR.out]; obtain ⟨A0, sn, c0, v0, hb0, -⟩ := hm.m; have x3 := hb0.cell 3; have xlt := hb0.lt; simp only [GG] at x3; clear hb0; have HM2 := qh hm; have HK2 := qh ((Kp.alloc B mb w _).trans hk); clear hm hk)
   clear hl1 x3 hd1
  rotate_left
  focus
   have HR := qh hr
   clear hr
   go_upto_region 4 with (go_at_call 46; go_must (refine (next_any (n := 40) (H.out.alloc _) (by decide) (by decide)).mono ?_); rintro e w2 ⟨rfl, hm, hk⟩; have hq := HR.out; obtain ⟨rn, hrn, hr30⟩ := nat_of (nextV_ok S at_ (n := 40) (by decide)); rw [hrn] at hq ⊢; have hq2 := (Int.tmod_eq_emod_of_nonneg (a := (rn : Int)) (b := 14) (by omega)).trans hq; obtain ⟨A0, sn, c0, v0, hb0, -⟩ := hm.m; have x3 := hb0.cell 3; have xlt := hb0.lt; simp only [GG] at x3; clear hb0; have HM2 := qh hm; have HK2 := qh ((Kp.alloc B mb w _).trans hk); clear hm hk hrn)
   clear hq hq2 hl1 x3 hd1
  rotate_left
  focus
   have HR := qh hr
   clear hr
   go_upto_region 4 with (go_at_call 46; go_must (refine (next_any (n := 40) (H.out.alloc _) (by decide) (by decide)).mono ?_); rintro e w2 ⟨rfl, hm, hk⟩; have hq := HR.out; obtain ⟨rn, hrn, hr30⟩ := nat_of (nextV_ok S at_ (n := 40) (by decide)); rw [hrn] at hq ⊢; have hq2 := (Int.tmod_eq_emod_of_nonneg (a := (rn : Int)) (b := 14) (by omega)).trans hq; obtain ⟨A0, sn, c0, v0, hb0, -⟩ := hm.m; have x3 := hb0.cell 3; have xlt := hb0.lt; simp only [GG] at x3; clear hb0; have HM2 := qh hm; have HK2 := qh ((Kp.alloc B mb w _).trans hk); clear hm hk hrn)
   clear hq hq2 x3 hd1
 all_goals
  go_upto_region 15 with (first | (go_at_call 48; obtain ⟨hgood, hxp⟩ := HM2.out.good.x (d := 0) (op := 6) (n := 0) (s := ⟨#[112, 114, 105, 110, 116]⟩) (kids := []) (Xs.nil_ _ _) (by decide) (by decide) (fun ks hl hk => by match ks, hl with | [], _ => exact Good.name_ _ (by decide) (by decide +kernel)); go_must (refine (madd_none HM2.out 6 0 ⟨#[112, 114, 105, 110, 116]⟩ hgood (by have h0 := HC.out; have hb := HB1.out; (try simp only [LL]); omega)).mono ?_); rintro e w3 ⟨r3, rfl, hr3, hm, hk⟩; rw [← hr3] at hxp; have HP3 := qh hxp; have HM3 := qh hm; have HK3 := qh (HK2.out.trans hk); clear hm hk hgood hr3 hxp))
  go_wp2_with (first | (go_at_call 48; have hgood := HM5.out.good.o (op := 42) (n := 0) (s := ⟨#[]⟩) (kids := [r5]) (.inr (by decide)); go_must (refine (madd_lit HM5.out [r5] rfl rfl rfl (by simp) 42 0 ⟨#[]⟩ hgood (by have h0 := HC.out; have hb := HB1.out; have h4 := HX4.out; (try simp only [LL]); omega)).mono ?_); rintro e w6 ⟨r6, rfl, hr6, hm, hk⟩; have HM6 := qh hm.assoc; have HK6 := qh (HK5.out.trans hk); clear hm hk hgood hr6) | (go_at_call 48; obtain ⟨hgood, hxp⟩ := HM4.out.good.x (d := 4) (op := 17) (n := 0) (s := ⟨#[]⟩) (kids := [r3, r4]) (((Xs.nil_ _ _).snoc ((HP3.out.up).le (by decide))).snoc ((HP4.out).le (by decide))) (by decide) (by decide) (fun ks hl hk => by match ks, hl with | [a, b], _ => exact Good.call_ a [b] (hk a (by simp)) (fun k h => by rw [List.mem_singleton.1 h]; exact hk b (by simp)) (by simp)); go_must (refine (madd_lit HM4.out [r3, r4] rfl rfl rfl (by simp) 17 0 ⟨#[]⟩ hgood (by have h0 := HC.out; have hb := HB1.out; have h4 := HX4.out; (try simp only [LL]); omega)).mono ?_); rintro e w5 ⟨r5, rfl, hr5, hm, hk⟩; rw [← hr5] at hxp; have HP5 := qh hxp.assoc; have HM5 := qh hm.assoc; have HK5 := qh (HK4.out.trans hk); clear hm hk hgood hr5 hxp) | (go_at_call 71; go_must (refine (mexpr2_any HM3.out (by have h0 := HC.out; have hb := HB1.out; (try simp only [LL]); omega)).mono ?_); rintro e w4 ⟨r4, at4, X4, rfl, hm, hk, hx, hp⟩; have HM4 := qh hm.assoc; have HK4 := qh (HK3.out.trans hk); have HX4 := qh hx; have HP4 := qh hp.assoc; clear hm hk hx hp))
  go_ret
  exact ⟨_, _, ((([⟨6, 0, ⟨#[112, 114, 105, 110, 116]⟩, 0, []⟩] ++ X4) ++ [⟨17, 0, ⟨#[]⟩, 0, [r3, r4]⟩]) ++ [⟨42, 0, ⟨#[]⟩, 0, [r5]⟩]), rfl, HM6.out, HK6.out, (by have hb := HB1.out; have h4 := HX4.out;  (try simp only [sbound, LL]); (try simp only [sbound]); omega)⟩
theorem mst_7all {k : Int} (hk : k = 7) {D : Nat} {dv : Int} {B mb at_ : Nat} {F : Nat → Prop} {S : List Int} {T : List NodeD} {w : World} (h : Mk B mb F S at_ T w) (hcap : T.length + sbound D ≤ 549755813888) (f l c : Bool) (hr : Pick S at_ T dv k) : Calls Tryd.prog 47 #[.pointer (some ⟨mb, 0, none⟩), .int .i64 dv, .agg #[.bool f, .bool l, .bool c]] w (StP B mb F S w T (sbound D)) := by
 unfold StP
 have H := qh h
 have HB1 := qh (sbound_pos D)
 have HC : Hid (T.length + 200 ≤ 549755813888) := qh (by have := sbound_pos D; omega)
 clear h hcap
 subst hk
 go_enter Tryd.func47, Tryd.ntmps47
 rcases hr with ⟨hd1, hl1, hr⟩ | ⟨hd1, hl1, hr⟩ | ⟨hd1, hr⟩
 focus
  have HR := qh hr
  clear hr
  go_upto_region 4 with (go_at_call 46; go_must (refine (next_any (n := 40) (H.out.alloc _) (by decide) (by decide)).mono ?_); rintro e w2 ⟨rfl, hm, hk⟩; rw [HR.out]; obtain ⟨A0, sn, c0, v0, hb0, -⟩ := hm.m; have x3 := hb0.cell 3; have xlt := hb0.lt; simp only [GG] at x3; clear hb0; have HM2 := qh hm; have HK2 := qh ((Kp.alloc B mb w _).trans hk); clear hm hk)
  clear hl1 x3 hd1
 rotate_left
 focus
  have HR := qh hr
  clear hr
  go_upto_region 4 with (go_at_call 46; go_must (refine (next_any (n := 40) (H.out.alloc _) (by decide) (by decide)).mono ?_); rintro e w2 ⟨rfl, hm, hk⟩; have hq := HR.out; obtain ⟨rn, hrn, hr30⟩ := nat_of (nextV_ok S at_ (n := 40) (by decide)); rw [hrn] at hq ⊢; have hq2 := (Int.tmod_eq_emod_of_nonneg (a := (rn : Int)) (b := 14) (by omega)).trans hq; obtain ⟨A0, sn, c0, v0, hb0, -⟩ := hm.m; have x3 := hb0.cell 3; have xlt := hb0.lt; simp only [GG] at x3; clear hb0; have HM2 := qh hm; have HK2 := qh ((Kp.alloc B mb w _).trans hk); clear hm hk hrn)
  clear hq hq2 hl1 x3 hd1
 rotate_left
 focus
  have HR := qh hr
  clear hr
  go_upto_region 4 with (go_at_call 46; go_must (refine (next_any (n := 40) (H.out.alloc _) (by decide) (by decide)).mono ?_); rintro e w2 ⟨rfl, hm, hk⟩; have hq := HR.out; obtain ⟨rn, hrn, hr30⟩ := nat_of (nextV_ok S at_ (n := 40) (by decide)); rw [hrn] at hq ⊢; have hq2 := (Int.tmod_eq_emod_of_nonneg (a := (rn : Int)) (b := 14) (by omega)).trans hq; obtain ⟨A0, sn, c0, v0, hb0, -⟩ := hm.m; have x3 := hb0.cell 3; have xlt := hb0.lt; simp only [GG] at x3; clear hb0; have HM2 := qh hm; have HK2 := qh ((Kp.alloc B mb w _).trans hk); clear hm hk hrn)
  clear hq hq2 x3 hd1
 all_goals
  go_wp2_with (first | (go_at_call 48; have hgood := HM3.out.good.o (op := 42) (n := 0) (s := ⟨#[]⟩) (kids := [r3]) (.inr (by decide)); go_must (refine (madd_lit HM3.out [r3] rfl rfl rfl (by simp) 42 0 ⟨#[]⟩ hgood (by have h0 := HC.out; have hb := HB1.out; have h3 := HX3.out; (try simp only [LL]); omega)).mono ?_); rintro e w4 ⟨r4, rfl, hr4, hm, hk⟩; have HM4 := qh hm.assoc; have HK4 := qh (HK3.out.trans hk); clear hm hk hgood hr4) | (go_at_call 71; go_must (refine (mexpr3_any HM2.out (by have h0 := HC.out; have hb := HB1.out; (try simp only [LL]); omega)).mono ?_); rintro e w3 ⟨r3, at3, X3, rfl, hm, hk, hx, hp⟩; have HM3 := qh hm; have HK3 := qh (HK2.out.trans hk); have HX3 := qh hx; have HP3 := qh hp; clear hm hk hx hp))
  go_ret
  exact ⟨_, _, (X3 ++ [⟨42, 0, ⟨#[]⟩, 0, [r3]⟩]), rfl, HM4.out, HK4.out, (by have hb := HB1.out; have h3 := HX3.out;  (try simp only [sbound, LL]); (try simp only [sbound]); omega)⟩
theorem mst_9all {k : Int} (hk : k = 9) {D : Nat} {dv : Int} {B mb at_ : Nat} {F : Nat → Prop} {S : List Int} {T : List NodeD} {w : World} (h : Mk B mb F S at_ T w) (hcap : T.length + sbound D ≤ 549755813888) (f l c : Bool) (hr : Pick S at_ T dv k) : Calls Tryd.prog 47 #[.pointer (some ⟨mb, 0, none⟩), .int .i64 dv, .agg #[.bool f, .bool l, .bool c]] w (StP B mb F S w T (sbound D)) := by
 unfold StP
 have H := qh h
 have HB1 := qh (sbound_pos D)
 have HC : Hid (T.length + 200 ≤ 549755813888) := qh (by have := sbound_pos D; omega)
 clear h hcap
 subst hk
 go_enter Tryd.func47, Tryd.ntmps47
 rcases hr with ⟨hd1, hl1, hr⟩ | ⟨hd1, hl1, hr⟩ | ⟨hd1, hr⟩
 focus
  have HR := qh hr
  clear hr
  go_upto_region 4 with (go_at_call 46; go_must (refine (next_any (n := 40) (H.out.alloc _) (by decide) (by decide)).mono ?_); rintro e w2 ⟨rfl, hm, hk⟩; rw [HR.out]; obtain ⟨A0, sn, c0, v0, hb0, -⟩ := hm.m; have x3 := hb0.cell 3; have xlt := hb0.lt; simp only [GG] at x3; clear hb0; have HM2 := qh hm; have HK2 := qh ((Kp.alloc B mb w _).trans hk); clear hm hk)
  clear hl1 x3 hd1
 rotate_left
 focus
  have HR := qh hr
  clear hr
  go_upto_region 4 with (go_at_call 46; go_must (refine (next_any (n := 40) (H.out.alloc _) (by decide) (by decide)).mono ?_); rintro e w2 ⟨rfl, hm, hk⟩; have hq := HR.out; obtain ⟨rn, hrn, hr30⟩ := nat_of (nextV_ok S at_ (n := 40) (by decide)); rw [hrn] at hq ⊢; have hq2 := (Int.tmod_eq_emod_of_nonneg (a := (rn : Int)) (b := 14) (by omega)).trans hq; obtain ⟨A0, sn, c0, v0, hb0, -⟩ := hm.m; have x3 := hb0.cell 3; have xlt := hb0.lt; simp only [GG] at x3; clear hb0; have HM2 := qh hm; have HK2 := qh ((Kp.alloc B mb w _).trans hk); clear hm hk hrn)
  clear hq hq2 hl1 x3 hd1
 rotate_left
 focus
  have HR := qh hr
  clear hr
  go_upto_region 4 with (go_at_call 46; go_must (refine (next_any (n := 40) (H.out.alloc _) (by decide) (by decide)).mono ?_); rintro e w2 ⟨rfl, hm, hk⟩; have hq := HR.out; obtain ⟨rn, hrn, hr30⟩ := nat_of (nextV_ok S at_ (n := 40) (by decide)); rw [hrn] at hq ⊢; have hq2 := (Int.tmod_eq_emod_of_nonneg (a := (rn : Int)) (b := 14) (by omega)).trans hq; obtain ⟨A0, sn, c0, v0, hb0, -⟩ := hm.m; have x3 := hb0.cell 3; have xlt := hb0.lt; simp only [GG] at x3; clear hb0; have HM2 := qh hm; have HK2 := qh ((Kp.alloc B mb w _).trans hk); clear hm hk hrn)
  clear hq hq2 x3 hd1
 all_goals
  go_wp2_with (first | (go_at_call 48; have hgood := HM2.out.good.o (op := 50) (n := 0) (s := ⟨#[]⟩) (kids := []) (.inr (by decide)); go_must (refine (madd_none HM2.out 50 0 ⟨#[]⟩ hgood (by have h0 := HC.out; have hb := HB1.out; (try simp only [LL]); omega)).mono ?_); rintro e w3 ⟨r3, rfl, hr3, hm, hk⟩; have HM3 := qh hm; have HK3 := qh (HK2.out.trans hk); clear hm hk hgood hr3))
  go_ret
  exact ⟨_, _, [⟨50, 0, ⟨#[]⟩, 0, []⟩], rfl, HM3.out, HK3.out, (by have hb := HB1.out;  (try simp only [sbound, LL]); (try simp only [sbound]); omega)⟩
theorem mst_10all {k : Int} (hk : k = 10) {D : Nat} {dv : Int} {B mb at_ : Nat} {F : Nat → Prop} {S : List Int} {T : List NodeD} {w : World} (h : Mk B mb F S at_ T w) (hcap : T.length + sbound D ≤ 549755813888) (f l c : Bool) (hr : Pick S at_ T dv k) : Calls Tryd.prog 47 #[.pointer (some ⟨mb, 0, none⟩), .int .i64 dv, .agg #[.bool f, .bool l, .bool c]] w (StP B mb F S w T (sbound D)) := by
 unfold StP
 have H := qh h
 have HB1 := qh (sbound_pos D)
 have HC : Hid (T.length + 200 ≤ 549755813888) := qh (by have := sbound_pos D; omega)
 clear h hcap
 subst hk
 go_enter Tryd.func47, Tryd.ntmps47
 rcases hr with ⟨hd1, hl1, hr⟩ | ⟨hd1, hl1, hr⟩ | ⟨hd1, hr⟩
 focus
  have HR := qh hr
  clear hr
  go_upto_region 4 with (go_at_call 46; go_must (refine (next_any (n := 40) (H.out.alloc _) (by decide) (by decide)).mono ?_); rintro e w2 ⟨rfl, hm, hk⟩; rw [HR.out]; obtain ⟨A0, sn, c0, v0, hb0, -⟩ := hm.m; have x3 := hb0.cell 3; have xlt := hb0.lt; simp only [GG] at x3; clear hb0; have HM2 := qh hm; have HK2 := qh ((Kp.alloc B mb w _).trans hk); clear hm hk)
  clear hl1 x3 hd1
 rotate_left
 focus
  have HR := qh hr
  clear hr
  go_upto_region 4 with (go_at_call 46; go_must (refine (next_any (n := 40) (H.out.alloc _) (by decide) (by decide)).mono ?_); rintro e w2 ⟨rfl, hm, hk⟩; have hq := HR.out; obtain ⟨rn, hrn, hr30⟩ := nat_of (nextV_ok S at_ (n := 40) (by decide)); rw [hrn] at hq ⊢; have hq2 := (Int.tmod_eq_emod_of_nonneg (a := (rn : Int)) (b := 14) (by omega)).trans hq; obtain ⟨A0, sn, c0, v0, hb0, -⟩ := hm.m; have x3 := hb0.cell 3; have xlt := hb0.lt; simp only [GG] at x3; clear hb0; have HM2 := qh hm; have HK2 := qh ((Kp.alloc B mb w _).trans hk); clear hm hk hrn)
  clear hq hq2 hl1 x3 hd1
 rotate_left
 focus
  have HR := qh hr
  clear hr
  go_upto_region 4 with (go_at_call 46; go_must (refine (next_any (n := 40) (H.out.alloc _) (by decide) (by decide)).mono ?_); rintro e w2 ⟨rfl, hm, hk⟩; have hq := HR.out; obtain ⟨rn, hrn, hr30⟩ := nat_of (nextV_ok S at_ (n := 40) (by decide)); rw [hrn] at hq ⊢; have hq2 := (Int.tmod_eq_emod_of_nonneg (a := (rn : Int)) (b := 14) (by omega)).trans hq; obtain ⟨A0, sn, c0, v0, hb0, -⟩ := hm.m; have x3 := hb0.cell 3; have xlt := hb0.lt; simp only [GG] at x3; clear hb0; have HM2 := qh hm; have HK2 := qh ((Kp.alloc B mb w _).trans hk); clear hm hk hrn)
  clear hq hq2 x3 hd1
 all_goals
  go_wp2_with (first | (go_at_call 48; have hgood := HM3.out.good.o (op := 60) (n := 0) (s := ⟨#[]⟩) (kids := [r3]) (.inr (by decide)); go_must (refine (madd_lit HM3.out [r3] rfl rfl rfl (by simp) 60 0 ⟨#[]⟩ hgood (by have h0 := HC.out; have hb := HB1.out; have h3 := HX3.out; (try simp only [LL]); omega)).mono ?_); rintro e w4 ⟨r4, rfl, hr4, hm, hk⟩; have HM4 := qh hm.assoc; have HK4 := qh (HK3.out.trans hk); clear hm hk hgood hr4) | (go_at_call 72; go_must (refine (mtarget_any HM2.out (by have h0 := HC.out; have hb := HB1.out; (try simp only [LL]); omega)).mono ?_); rintro e w3 ⟨r3, at3, X3, rfl, hm, hk, hx, hp⟩; have HM3 := qh hm; have HK3 := qh (HK2.out.trans hk); have HX3 := qh hx; have HP3 := qh hp; clear hm hk hx hp))
  go_ret
  exact ⟨_, _, (X3 ++ [⟨60, 0, ⟨#[]⟩, 0, [r3]⟩]), rfl, HM4.out, HK4.out, (by have hb := HB1.out; have h3 := HX3.out;  (try simp only [sbound, LL]); (try simp only [sbound]); omega)⟩
theorem mst_11all {k : Int} (hk : k = 11) {D : Nat} {dv : Int} {B mb at_ : Nat} {F : Nat → Prop} {S : List Int} {T : List NodeD} {w : World} (h : Mk B mb F S at_ T w) (hcap : T.length + sbound D ≤ 549755813888) (f l c : Bool) (hr : Pick S at_ T dv k) : Calls Tryd.prog 47 #[.pointer (some ⟨mb, 0, none⟩), .int .i64 dv, .agg #[.bool f, .bool l, .bool c]] w (StP B mb F S w T (sbound D)) := by
 unfold StP
 have H := qh h
 have HB1 := qh (sbound_pos D)
 have HC : Hid (T.length + 200 ≤ 549755813888) := qh (by have := sbound_pos D; omega)
 clear h hcap
 subst hk
 go_enter Tryd.func47, Tryd.ntmps47
 rcases hr with ⟨hd1, hl1, hr⟩ | ⟨hd1, hl1, hr⟩ | ⟨hd1, hr⟩
 focus
  have HR := qh hr
  clear hr
  go_upto_region 4 with (go_at_call 46; go_must (refine (next_any (n := 40) (H.out.alloc _) (by decide) (by decide)).mono ?_); rintro e w2 ⟨rfl, hm, hk⟩; rw [HR.out]; obtain ⟨A0, sn, c0, v0, hb0, -⟩ := hm.m; have x3 := hb0.cell 3; have xlt := hb0.lt; simp only [GG] at x3; clear hb0; have HM2 := qh hm; have HK2 := qh ((Kp.alloc B mb w _).trans hk); clear hm hk)
  clear hl1 x3 hd1
 rotate_left
 focus
  have HR := qh hr
  clear hr
  go_upto_region 4 with (go_at_call 46; go_must (refine (next_any (n := 40) (H.out.alloc _) (by decide) (by decide)).mono ?_); rintro e w2 ⟨rfl, hm, hk⟩; have hq := HR.out; obtain ⟨rn, hrn, hr30⟩ := nat_of (nextV_ok S at_ (n := 40) (by decide)); rw [hrn] at hq ⊢; have hq2 := (Int.tmod_eq_emod_of_nonneg (a := (rn : Int)) (b := 14) (by omega)).trans hq; obtain ⟨A0, sn, c0, v0, hb0, -⟩ := hm.m; have x3 := hb0.cell 3; have xlt := hb0.lt; simp only [GG] at x3; clear hb0; have HM2 := qh hm; have HK2 := qh ((Kp.alloc B mb w _).trans hk); clear hm hk hrn)
  clear hq hq2 hl1 x3 hd1
 rotate_left
 focus
  have HR := qh hr
  clear hr
  go_upto_region 4 with (go_at_call 46; go_must (refine (next_any (n := 40) (H.out.alloc _) (by decide) (by decide)).mono ?_); rintro e w2 ⟨rfl, hm, hk⟩; have hq := HR.out; obtain ⟨rn, hrn, hr30⟩ := nat_of (nextV_ok S at_ (n := 40) (by decide)); rw [hrn] at hq ⊢; have hq2 := (Int.tmod_eq_emod_of_nonneg (a := (rn : Int)) (b := 14) (by omega)).trans hq; obtain ⟨A0, sn, c0, v0, hb0, -⟩ := hm.m; have x3 := hb0.cell 3; have xlt := hb0.lt; simp only [GG] at x3; clear hb0; have HM2 := qh hm; have HK2 := qh ((Kp.alloc B mb w _).trans hk); clear hm hk hrn)
  clear hq hq2 x3 hd1
 all_goals
  go_wp2_with (first | (go_at_call 48; have hgood := HM3.out.good.o (op := 61) (n := 0) (s := ⟨#[]⟩) (kids := [r3]) (.inr (by decide)); go_must (refine (madd_lit HM3.out [r3] rfl rfl rfl (by simp) 61 0 ⟨#[]⟩ hgood (by have h0 := HC.out; have hb := HB1.out; have h3 := HX3.out; (try simp only [LL]); omega)).mono ?_); rintro e w4 ⟨r4, rfl, hr4, hm, hk⟩; have HM4 := qh hm.assoc; have HK4 := qh (HK3.out.trans hk); clear hm hk hgood hr4) | (go_at_call 71; go_must (refine (mexpr2_any HM2.out (by have h0 := HC.out; have hb := HB1.out; (try simp only [LL]); omega)).mono ?_); rintro e w3 ⟨r3, at3, X3, rfl, hm, hk, hx, hp⟩; have HM3 := qh hm; have HK3 := qh (HK2.out.trans hk); have HX3 := qh hx; have HP3 := qh hp; clear hm hk hx hp))
  go_ret
  exact ⟨_, _, (X3 ++ [⟨61, 0, ⟨#[]⟩, 0, [r3]⟩]), rfl, HM4.out, HK4.out, (by have hb := HB1.out; have h3 := HX3.out;  (try simp only [sbound, LL]); (try simp only [sbound]); omega)⟩
theorem mst_12all {k : Int} (hk : k = 12) {D : Nat} {dv : Int} {B mb at_ : Nat} {F : Nat → Prop} {S : List Int} {T : List NodeD} {w : World} (h : Mk B mb F S at_ T w) (hcap : T.length + sbound D ≤ 549755813888) (f l c : Bool) (hr : Pick S at_ T dv k) : Calls Tryd.prog 47 #[.pointer (some ⟨mb, 0, none⟩), .int .i64 dv, .agg #[.bool f, .bool l, .bool c]] w (StP B mb F S w T (sbound D)) := by
 unfold StP
 have H := qh h
 have HB1 := qh (sbound_pos D)
 have HC : Hid (T.length + 200 ≤ 549755813888) := qh (by have := sbound_pos D; omega)
 clear h hcap
 subst hk
 go_enter Tryd.func47, Tryd.ntmps47
 rcases hr with ⟨hd1, hl1, hr⟩ | ⟨hd1, hl1, hr⟩ | ⟨hd1, hr⟩
 focus
  have HR := qh hr
  clear hr
  go_upto_region 4 with (go_at_call 46; go_must (refine (next_any (n := 40) (H.out.alloc _) (by decide) (by decide)).mono ?_); rintro e w2 ⟨rfl, hm, hk⟩; rw [HR.out]; obtain ⟨A0, sn, c0, v0, hb0, -⟩ := hm.m; have x3 := hb0.cell 3; have xlt := hb0.lt; simp only [GG] at x3; clear hb0; have HM2 := qh hm; have HK2 := qh ((Kp.alloc B mb w _).trans hk); clear hm hk)
  clear hl1 x3 hd1
 rotate_left
 focus
  have HR := qh hr
  clear hr
  go_upto_region 4 with (go_at_call 46; go_must (refine (next_any (n := 40) (H.out.alloc _) (by decide) (by decide)).mono ?_); rintro e w2 ⟨rfl, hm, hk⟩; have hq := HR.out; obtain ⟨rn, hrn, hr30⟩ := nat_of (nextV_ok S at_ (n := 40) (by decide)); rw [hrn] at hq ⊢; have hq2 := (Int.tmod_eq_emod_of_nonneg (a := (rn : Int)) (b := 14) (by omega)).trans hq; obtain ⟨A0, sn, c0, v0, hb0, -⟩ := hm.m; have x3 := hb0.cell 3; have xlt := hb0.lt; simp only [GG] at x3; clear hb0; have HM2 := qh hm; have HK2 := qh ((Kp.alloc B mb w _).trans hk); clear hm hk hrn)
  clear hq hq2 hl1 x3 hd1
 rotate_left
 focus
  have HR := qh hr
  clear hr
  go_upto_region 4 with (go_at_call 46; go_must (refine (next_any (n := 40) (H.out.alloc _) (by decide) (by decide)).mono ?_); rintro e w2 ⟨rfl, hm, hk⟩; have hq := HR.out; obtain ⟨rn, hrn, hr30⟩ := nat_of (nextV_ok S at_ (n := 40) (by decide)); rw [hrn] at hq ⊢; have hq2 := (Int.tmod_eq_emod_of_nonneg (a := (rn : Int)) (b := 14) (by omega)).trans hq; obtain ⟨A0, sn, c0, v0, hb0, -⟩ := hm.m; have x3 := hb0.cell 3; have xlt := hb0.lt; simp only [GG] at x3; clear hb0; have HM2 := qh hm; have HK2 := qh ((Kp.alloc B mb w _).trans hk); clear hm hk hrn)
  clear hq hq2 x3 hd1
 all_goals
  go_upto_region 28 with fail
  by_cases hz : nextV S (nextA S at_) 4 = 0
  ·have HZ := qh hz
   clear hz
   go_wp2_with (first | (go_at_call 48; have hgood := HM3.out.good.o (op := 54) (n := 0) (s := ⟨#[]⟩) (kids := []) (.inr (by decide)); go_must (refine (madd_none HM3.out 54 0 ⟨#[]⟩ hgood (by have h0 := HC.out; have hb := HB1.out; (try simp only [LL]); omega)).mono ?_); rintro e w4 ⟨r4, rfl, hr4, hm, hk⟩; have HM4 := qh hm; have HK4 := qh (HK3.out.trans hk); clear hm hk hgood hr4) | (go_at_call 46; go_must (refine (next_any (n := 4) HM2.out (by decide) (by decide)).mono ?_); rintro e w3 ⟨rfl, hm, hk⟩; rw [HZ.out]; have HM3 := qh hm; have HK3 := qh (HK2.out.trans hk); clear hm hk))
   go_ret
   exact ⟨_, _, [⟨54, 0, ⟨#[]⟩, 0, []⟩], rfl, HM4.out, HK4.out, (by have hb := HB1.out;  (try simp only [sbound, LL]); (try simp only [sbound]); omega)⟩
  ·obtain ⟨z, hzz⟩ : ∃ z, nextV S (nextA S at_) 4 = z := ⟨_, rfl⟩
   rw [hzz] at hz
   have hz0 : (z == 0) = false := beq_eq_false_iff_ne.2 hz
   have HZ := qh hzz
   clear hz hzz
   go_upto_region 30 with (first | (go_at_call 46; go_must (refine (next_any (n := 4) HM2.out (by decide) (by decide)).mono ?_); rintro e w3 ⟨rfl, hm, hk⟩; rw [HZ.out]; have HM3 := qh hm; have HK3 := qh (HK2.out.trans hk); clear hm hk))
   go_upto_region 31 with (first | (go_at_call 48; obtain ⟨hgood, hxp⟩ := HM4.out.good.x (d := 0) (op := 6) (n := 0) (s := s) (kids := []) (Xs.nil_ _ _) (by decide) (by decide) (fun ks hl hk => by match ks, hl with | [], _ => exact Good.name_ s (names_ok (l := [⟨#[86, 97, 108, 117, 101, 69, 114, 114, 111, 114]⟩, ⟨#[75, 101, 121, 69, 114, 114, 111, 114]⟩, ⟨#[69, 120, 99, 101, 112, 116, 105, 111, 110]⟩, ⟨#[75]⟩, ⟨#[101]⟩]) (by decide +kernel) s HS.out).1 (names_ok (l := [⟨#[86, 97, 108, 117, 101, 69, 114, 114, 111, 114]⟩, ⟨#[75, 101, 121, 69, 114, 114, 111, 114]⟩, ⟨#[69, 120, 99, 101, 112, 116, 105, 111, 110]⟩, ⟨#[75]⟩, ⟨#[101]⟩]) (by decide +kernel) s HS.out).2); go_must (refine (madd_none HM4.out 6 0 s hgood (by have h0 := HC.out; have hb := HB1.out; (try simp only [LL]); omega)).mono ?_); rintro e w5 ⟨r5, rfl, hr5, hm, hk⟩; rw [← hr5] at hxp; have HP5 := qh hxp; have HM5 := qh hm; have HK5 := qh (HK4.out.trans hk); clear hm hk hgood hr5 hxp) | (go_at_call 46; go_must (refine (next_any (n := 5) (HM3.out.alloc _) (by decide) (by decide)).mono ?_); rintro e w4 ⟨rfl, hm, hk⟩; obtain ⟨q, hq, hq8⟩ := nat_of (nextV_ok S _ (n := 5) (by decide)); rw [hq]; obtain ⟨s, hs, hc⟩ := pick_kp (l := [⟨#[86, 97, 108, 117, 101, 69, 114, 114, 111, 114]⟩, ⟨#[75, 101, 121, 69, 114, 114, 111, 114]⟩, ⟨#[69, 120, 99, 101, 112, 116, 105, 111, 110]⟩, ⟨#[75]⟩, ⟨#[101]⟩]) (Blk.new w3 9 _) (HM3.out.alloc _) hk (r := q) (by show q < 5; omega); have hq88 : q < 5 := (by omega); have hlt : w3.heap.size < w4.heap.size := kp_lt hk; have HM4 := qh hm; have HK4 := qh (HK3.out.trans ((Kp.alloc B mb w3 _).trans hk)); have HS := qh hs; clear hm hk hq hs))
   go_wp2_with (first | (go_at_call 48; have hgood := HM5.out.good.o (op := 54) (n := 0) (s := ⟨#[]⟩) (kids := [r5]) (.inr (by decide)); go_must (refine (madd_lit HM5.out [r5] rfl rfl rfl (by simp) 54 0 ⟨#[]⟩ hgood (by have h0 := HC.out; have hb := HB1.out; (try simp only [LL]); omega)).mono ?_); rintro e w6 ⟨r6, rfl, hr6, hm, hk⟩; have HM6 := qh hm.assoc; have HK6 := qh (HK5.out.trans hk); clear hm hk hgood hr6))
   go_ret
   exact ⟨_, _, ([⟨6, 0, s, 0, []⟩] ++ [⟨54, 0, ⟨#[]⟩, 0, [r5]⟩]), rfl, HM6.out, HK6.out, (by have hb := HB1.out;  (try simp only [sbound, LL]); (try simp only [sbound]); omega)⟩
theorem mst_13alllt {k : Int} (hk : k = 13) {D : Nat} {dv : Int} {B mb at_ : Nat} {F : Nat → Prop} {S : List Int} {T : List NodeD} {w : World} (h : Mk B mb F S at_ T w) (hcap : T.length + sbound D ≤ 549755813888) (f c : Bool) (hr : Pick S at_ T dv k) : Calls Tryd.prog 47 #[.pointer (some ⟨mb, 0, none⟩), .int .i64 dv, .agg #[.bool f, .bool true, .bool c]] w (StP B mb F S w T (sbound D)) := by
 unfold StP
 have H := qh h
 have HB1 := qh (sbound_pos D)
 have HC : Hid (T.length + 200 ≤ 549755813888) := qh (by have := sbound_pos D; omega)
 clear h hcap
 subst hk
 go_enter Tryd.func47, Tryd.ntmps47
 rcases hr with ⟨hd1, hl1, hr⟩ | ⟨hd1, hl1, hr⟩ | ⟨hd1, hr⟩
 focus
  have HR := qh hr
  clear hr
  go_upto_region 4 with (go_at_call 46; go_must (refine (next_any (n := 40) (H.out.alloc _) (by decide) (by decide)).mono ?_); rintro e w2 ⟨rfl, hm, hk⟩; rw [HR.out]; obtain ⟨A0, sn, c0, v0, hb0, -⟩ := hm.m; have x3 := hb0.cell 3; have xlt := hb0.lt; simp only [GG] at x3; clear hb0; have HM2 := qh hm; have HK2 := qh ((Kp.alloc B mb w _).trans hk); have HBX2 := qh (hk.blk (Blk.new w 91 #[.bool f, .bool true, .bool c]) (ne_mb H.out (Nat.le_refl _)) (by decide)); have b0 := HBX2.out.cell 0; have b1 := HBX2.out.cell 1; have b2 := HBX2.out.cell 2; have blt := HBX2.out.lt; simp only [GG] at b0 b1 b2; clear hm hk)
  clear hl1 x3 hd1
 rotate_left
 focus
  have HR := qh hr
  clear hr
  go_upto_region 4 with (go_at_call 46; go_must (refine (next_any (n := 40) (H.out.alloc _) (by decide) (by decide)).mono ?_); rintro e w2 ⟨rfl, hm, hk⟩; have hq := HR.out; obtain ⟨rn, hrn, hr30⟩ := nat_of (nextV_ok S at_ (n := 40) (by decide)); rw [hrn] at hq ⊢; have hq2 := (Int.tmod_eq_emod_of_nonneg (a := (rn : Int)) (b := 14) (by omega)).trans hq; obtain ⟨A0, sn, c0, v0, hb0, -⟩ := hm.m; have x3 := hb0.cell 3; have xlt := hb0.lt; simp only [GG] at x3; clear hb0; have HM2 := qh hm; have HK2 := qh ((Kp.alloc B mb w _).trans hk); have HBX2 := qh (hk.blk (Blk.new w 91 #[.bool f, .bool true, .bool c]) (ne_mb H.out (Nat.le_refl _)) (by decide)); have b0 := HBX2.out.cell 0; have b1 := HBX2.out.cell 1; have b2 := HBX2.out.cell 2; have blt := HBX2.out.lt; simp only [GG] at b0 b1 b2; clear hm hk hrn)
  clear hq hq2 hl1 x3 hd1
 rotate_left
 focus
  have HR := qh hr
  clear hr
  go_upto_region 4 with (go_at_call 46; go_must (refine (next_any (n := 40) (H.out.alloc _) (by decide) (by decide)).mono ?_); rintro e w2 ⟨rfl, hm, hk⟩; have hq := HR.out; obtain ⟨rn, hrn, hr30⟩ := nat_of (nextV_ok S at_ (n := 40) (by decide)); rw [hrn] at hq ⊢; have hq2 := (Int.tmod_eq_emod_of_nonneg (a := (rn : Int)) (b := 14) (by omega)).trans hq; obtain ⟨A0, sn, c0, v0, hb0, -⟩ := hm.m; have x3 := hb0.cell 3; have xlt := hb0.lt; simp only [GG] at x3; clear hb0; have HM2 := qh hm; have HK2 := qh ((Kp.alloc B mb w _).trans hk); have HBX2 := qh (hk.blk (Blk.new w 91 #[.bool f, .bool true, .bool c]) (ne_mb H.out (Nat.le_refl _)) (by decide)); have b0 := HBX2.out.cell 0; have b1 := HBX2.out.cell 1; have b2 := HBX2.out.cell 2; have blt := HBX2.out.lt; simp only [GG] at b0 b1 b2; clear hm hk hrn)
  clear hq hq2 x3 hd1
 all_goals
  go_wp2_with (first | (go_at_call 48; have hgood := HM3.out.good.o (op := s) (n := 0) (s := ⟨#[]⟩) (kids := []) (.inr (by have := HS.out; simp only [List.mem_cons, List.not_mem_nil, or_false] at this; omega)); go_must (refine (madd_none HM3.out s 0 ⟨#[]⟩ hgood (by have h0 := HC.out; have hb := HB1.out; (try simp only [LL]); omega)).mono ?_); rintro e w4 ⟨r4, rfl, hr4, hm, hk⟩; have HM4 := qh hm; have HK4 := qh (HK3.out.trans hk); clear hm hk hgood hr4) | (go_at_call 46; go_must (refine (next_any (n := 2) (HM2.out.alloc _) (by decide) (by decide)).mono ?_); rintro e w3 ⟨rfl, hm, hk⟩; obtain ⟨q, hq, hq8⟩ := nat_of (nextV_ok S _ (n := 2) (by decide)); rw [hq]; obtain ⟨s, hs, hc⟩ := pick_int (l := [48, 49]) (OwnI.made2 w2) (HM2.out.alloc _) hk (r := q) (by show q < 2; omega); have hq88 : q < 2 := (by omega); have hlt : w2.heap.size < w3.heap.size := kp_lt hk; have HM3 := qh hm; have HK3 := qh (HK2.out.trans ((Kp.alloc B mb w2 _).trans hk)); have HS := qh hs; clear hm hk hq hs))
  go_ret
  exact ⟨_, _, [⟨s, 0, ⟨#[]⟩, 0, []⟩], rfl, HM4.out, HK4.out, (by have hb := HB1.out;  (try simp only [sbound, LL]); (try simp only [sbound]); omega)⟩
theorem mst_13allftlf {k : Int} (hk : k = 13) {D : Nat} {dv : Int} {B mb at_ : Nat} {F : Nat → Prop} {S : List Int} {T : List NodeD} {w : World} (h : Mk B mb F S at_ T w) (hcap : T.length + sbound D ≤ 549755813888) (c : Bool) (hr : Pick S at_ T dv k) : Calls Tryd.prog 47 #[.pointer (some ⟨mb, 0, none⟩), .int .i64 dv, .agg #[.bool true, .bool false, .bool c]] w (StP B mb F S w T (sbound D)) := by
 unfold StP
 have H := qh h
 have HB1 := qh (sbound_pos D)
 have HC : Hid (T.length + 200 ≤ 549755813888) := qh (by have := sbound_pos D; omega)
 clear h hcap
 subst hk
 go_enter Tryd.func47, Tryd.ntmps47
 rcases hr with ⟨hd1, hl1, hr⟩ | ⟨hd1, hl1, hr⟩ | ⟨hd1, hr⟩
 focus
  have HR := qh hr
  clear hr
  go_upto_region 4 with (go_at_call 46; go_must (refine (next_any (n := 40) (H.out.alloc _) (by decide) (by decide)).mono ?_); rintro e w2 ⟨rfl, hm, hk⟩; rw [HR.out]; obtain ⟨A0, sn, c0, v0, hb0, -⟩ := hm.m; have x3 := hb0.cell 3; have xlt := hb0.lt; simp only [GG] at x3; clear hb0; have HM2 := qh hm; have HK2 := qh ((Kp.alloc B mb w _).trans hk); have HBX2 := qh (hk.blk (Blk.new w 91 #[.bool true, .bool false, .bool c]) (ne_mb H.out (Nat.le_refl _)) (by decide)); have b0 := HBX2.out.cell 0; have b1 := HBX2.out.cell 1; have b2 := HBX2.out.cell 2; have blt := HBX2.out.lt; simp only [GG] at b0 b1 b2; clear hm hk)
  clear hl1 x3 hd1
 rotate_left
 focus
  have HR := qh hr
  clear hr
  go_upto_region 4 with (go_at_call 46; go_must (refine (next_any (n := 40) (H.out.alloc _) (by decide) (by decide)).mono ?_); rintro e w2 ⟨rfl, hm, hk⟩; have hq := HR.out; obtain ⟨rn, hrn, hr30⟩ := nat_of (nextV_ok S at_ (n := 40) (by decide)); rw [hrn] at hq ⊢; have hq2 := (Int.tmod_eq_emod_of_nonneg (a := (rn : Int)) (b := 14) (by omega)).trans hq; obtain ⟨A0, sn, c0, v0, hb0, -⟩ := hm.m; have x3 := hb0.cell 3; have xlt := hb0.lt; simp only [GG] at x3; clear hb0; have HM2 := qh hm; have HK2 := qh ((Kp.alloc B mb w _).trans hk); have HBX2 := qh (hk.blk (Blk.new w 91 #[.bool true, .bool false, .bool c]) (ne_mb H.out (Nat.le_refl _)) (by decide)); have b0 := HBX2.out.cell 0; have b1 := HBX2.out.cell 1; have b2 := HBX2.out.cell 2; have blt := HBX2.out.lt; simp only [GG] at b0 b1 b2; clear hm hk hrn)
  clear hq hq2 hl1 x3 hd1
 rotate_left
 focus
  have HR := qh hr
  clear hr
  go_upto_region 4 with (go_at_call 46; go_must (refine (next_any (n := 40) (H.out.alloc _) (by decide) (by decide)).mono ?_); rintro e w2 ⟨rfl, hm, hk⟩; have hq := HR.out; obtain ⟨rn, hrn, hr30⟩ := nat_of (nextV_ok S at_ (n := 40) (by decide)); rw [hrn] at hq ⊢; have hq2 := (Int.tmod_eq_emod_of_nonneg (a := (rn : Int)) (b := 14) (by omega)).trans hq; obtain ⟨A0, sn, c0, v0, hb0, -⟩ := hm.m; have x3 := hb0.cell 3; have xlt := hb0.lt; simp only [GG] at x3; clear hb0; have HM2 := qh hm; have HK2 := qh ((Kp.alloc B mb w _).trans hk); have HBX2 := qh (hk.blk (Blk.new w 91 #[.bool true, .bool false, .bool c]) (ne_mb H.out (Nat.le_refl _)) (by decide)); have b0 := HBX2.out.cell 0; have b1 := HBX2.out.cell 1; have b2 := HBX2.out.cell 2; have blt := HBX2.out.lt; simp only [GG] at b0 b1 b2; clear hm hk hrn)
  clear hq hq2 x3 hd1
 all_goals
  go_wp2_with (first | (go_at_call 48; have hgood := HM3.out.good.o (op := 53) (n := 0) (s := ⟨#[]⟩) (kids := [r3]) (.inr (by decide)); go_must (refine (madd_lit HM3.out [r3] rfl rfl rfl (by simp) 53 0 ⟨#[]⟩ hgood (by have h0 := HC.out; have hb := HB1.out; have h3 := HX3.out; (try simp only [LL]); omega)).mono ?_); rintro e w4 ⟨r4, rfl, hr4, hm, hk⟩; have HM4 := qh hm.assoc; have HK4 := qh (HK3.out.trans hk); have HBX4 := qh (hk.blk HBX3.out (ne_mb H.out (Nat.le_refl _)) (by decide)); have b0 := HBX4.out.cell 0; have b1 := HBX4.out.cell 1; have b2 := HBX4.out.cell 2; have blt := HBX4.out.lt; simp only [GG] at b0 b1 b2; clear hm hk hgood hr4) | (go_at_call 71; go_must (refine (mexpr2_any HM2.out (by have h0 := HC.out; have hb := HB1.out; (try simp only [LL]); omega)).mono ?_); rintro e w3 ⟨r3, at3, X3, rfl, hm, hk, hx, hp⟩; have HM3 := qh hm; have HK3 := qh (HK2.out.trans hk); have HX3 := qh hx; have HP3 := qh hp; have HBX3 := qh (hk.blk HBX2.out (ne_mb H.out (Nat.le_refl _)) (by decide)); have b0 := HBX3.out.cell 0; have b1 := HBX3.out.cell 1; have b2 := HBX3.out.cell 2; have blt := HBX3.out.lt; simp only [GG] at b0 b1 b2; clear hm hk hx hp))
  go_ret
  exact ⟨_, _, (X3 ++ [⟨53, 0, ⟨#[]⟩, 0, [r3]⟩]), rfl, HM4.out, HK4.out, (by have hb := HB1.out; have h3 := HX3.out;  (try simp only [sbound, LL]); (try simp only [sbound]); omega)⟩
theorem mst_13allfflf {k : Int} (hk : k = 13) {D : Nat} {dv : Int} {B mb at_ : Nat} {F : Nat → Prop} {S : List Int} {T : List NodeD} {w : World} (h : Mk B mb F S at_ T w) (hcap : T.length + sbound D ≤ 549755813888) (c : Bool) (hr : Pick S at_ T dv k) : Calls Tryd.prog 47 #[.pointer (some ⟨mb, 0, none⟩), .int .i64 dv, .agg #[.bool false, .bool false, .bool c]] w (StP B mb F S w T (sbound D)) := by
 unfold StP
 have H := qh h
 have HB1 := qh (sbound_pos D)
 have HC : Hid (T.length + 200 ≤ 549755813888) := qh (by have := sbound_pos D; omega)
 clear h hcap
 subst hk
 go_enter Tryd.func47, Tryd.ntmps47
 rcases hr with ⟨hd1, hl1, hr⟩ | ⟨hd1, hl1, hr⟩ | ⟨hd1, hr⟩
 focus
  have HR := qh hr
  clear hr
  go_upto_region 4 with (go_at_call 46; go_must (refine (next_any (n := 40) (H.out.alloc _) (by decide) (by decide)).mono ?_); rintro e w2 ⟨rfl, hm, hk⟩; rw [HR.out]; obtain ⟨A0, sn, c0, v0, hb0, -⟩ := hm.m; have x3 := hb0.cell 3; have xlt := hb0.lt; simp only [GG] at x3; clear hb0; have HM2 := qh hm; have HK2 := qh ((Kp.alloc B mb w _).trans hk); have HBX2 := qh (hk.blk (Blk.new w 91 #[.bool false, .bool false, .bool c]) (ne_mb H.out (Nat.le_refl _)) (by decide)); have b0 := HBX2.out.cell 0; have b1 := HBX2.out.cell 1; have b2 := HBX2.out.cell 2; have blt := HBX2.out.lt; simp only [GG] at b0 b1 b2; clear hm hk)
  clear hl1 x3 hd1
 rotate_left
 focus
  have HR := qh hr
  clear hr
  go_upto_region 4 with (go_at_call 46; go_must (refine (next_any (n := 40) (H.out.alloc _) (by decide) (by decide)).mono ?_); rintro e w2 ⟨rfl, hm, hk⟩; have hq := HR.out; obtain ⟨rn, hrn, hr30⟩ := nat_of (nextV_ok S at_ (n := 40) (by decide)); rw [hrn] at hq ⊢; have hq2 := (Int.tmod_eq_emod_of_nonneg (a := (rn : Int)) (b := 14) (by omega)).trans hq; obtain ⟨A0, sn, c0, v0, hb0, -⟩ := hm.m; have x3 := hb0.cell 3; have xlt := hb0.lt; simp only [GG] at x3; clear hb0; have HM2 := qh hm; have HK2 := qh ((Kp.alloc B mb w _).trans hk); have HBX2 := qh (hk.blk (Blk.new w 91 #[.bool false, .bool false, .bool c]) (ne_mb H.out (Nat.le_refl _)) (by decide)); have b0 := HBX2.out.cell 0; have b1 := HBX2.out.cell 1; have b2 := HBX2.out.cell 2; have blt := HBX2.out.lt; simp only [GG] at b0 b1 b2; clear hm hk hrn)
  clear hq hq2 hl1 x3 hd1
 rotate_left
 focus
  have HR := qh hr
  clear hr
  go_upto_region 4 with (go_at_call 46; go_must (refine (next_any (n := 40) (H.out.alloc _) (by decide) (by decide)).mono ?_); rintro e w2 ⟨rfl, hm, hk⟩; have hq := HR.out; obtain ⟨rn, hrn, hr30⟩ := nat_of (nextV_ok S at_ (n := 40) (by decide)); rw [hrn] at hq ⊢; have hq2 := (Int.tmod_eq_emod_of_nonneg (a := (rn : Int)) (b := 14) (by omega)).trans hq; obtain ⟨A0, sn, c0, v0, hb0, -⟩ := hm.m; have x3 := hb0.cell 3; have xlt := hb0.lt; simp only [GG] at x3; clear hb0; have HM2 := qh hm; have HK2 := qh ((Kp.alloc B mb w _).trans hk); have HBX2 := qh (hk.blk (Blk.new w 91 #[.bool false, .bool false, .bool c]) (ne_mb H.out (Nat.le_refl _)) (by decide)); have b0 := HBX2.out.cell 0; have b1 := HBX2.out.cell 1; have b2 := HBX2.out.cell 2; have blt := HBX2.out.lt; simp only [GG] at b0 b1 b2; clear hm hk hrn)
  clear hq hq2 x3 hd1
 all_goals
  go_wp2_with (first | (go_at_call 48; have hgood := HM2.out.good.o (op := 50) (n := 0) (s := ⟨#[]⟩) (kids := []) (.inr (by decide)); go_must (refine (madd_none HM2.out 50 0 ⟨#[]⟩ hgood (by have h0 := HC.out; have hb := HB1.out; (try simp only [LL]); omega)).mono ?_); rintro e w3 ⟨r3, rfl, hr3, hm, hk⟩; have HM3 := qh hm; have HK3 := qh (HK2.out.trans hk); have HBX3 := qh (hk.blk HBX2.out (ne_mb H.out (Nat.le_refl _)) (by decide)); have b0 := HBX3.out.cell 0; have b1 := HBX3.out.cell 1; have b2 := HBX3.out.cell 2; have blt := HBX3.out.lt; simp only [GG] at b0 b1 b2; clear hm hk hgood hr3))
  go_ret
  exact ⟨_, _, [⟨50, 0, ⟨#[]⟩, 0, []⟩], rfl, HM3.out, HK3.out, (by have hb := HB1.out;  (try simp only [sbound, LL]); (try simp only [sbound]); omega)⟩
end Go.Proofs.YtjdcicopjipmnaaDoor
