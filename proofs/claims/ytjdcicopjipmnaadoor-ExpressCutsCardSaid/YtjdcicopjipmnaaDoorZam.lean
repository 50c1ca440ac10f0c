/- The maker: expr, choices that are leaves. The maker: expr, choices of two. The maker: expr, choices with kids. -/
import Derived.Test.YtjdcicopjipmnaaDoorZak
namespace Go.Proofs.YtjdcicopjipmnaaDoor
set_option maxRecDepth 100000
set_option maxHeartbeats 8000000
section
open Go.RowKit
set_option linter.unusedVariables false
set_option linter.unusedSimpArgs false
theorem ebound_pos : ∀ d, 1 ≤ ebound d
 | 0 => Nat.le_refl _
 | d + 1 => by simp only [ebound]; omega
theorem str_ok {l : List ByteArray} (h : (l.all fun s => decide (s.size ≤ 64)) = true) : ∀ s ∈ l, s.size ≤ 64 := fun s hs => of_decide_eq_true (List.all_eq_true.1 h s hs)
theorem OwnI.made3 (w : World) : OwnI (w.alloc (.cells #[.int .i64 1, .int .i64 2, .int .i64 3] 3)) (.slice (some ⟨w.heap.size, 0, none⟩) 3 3) [1, 2, 3] := Own.made (t := 3) (sz := 1) w #[.int .i64 1, .int .i64 2, .int .i64 3] 3 (by decide) rfl
theorem pick_int {B mb at_ : Nat} {F : Nat → Prop} {S : List Int} {T : List NodeD} {w w1 : World} {g n : Nat} {l : List Int} (hb : OwnI w (.slice (some ⟨g, 0, none⟩) n n) l) (hM : Mk B mb F S at_ T w) (hk : Kp B mb w w1) {r : Nat} (h : r < l.length) : ∃ s ∈ l, w1.cell? ⟨g, r, none⟩ = some (.int .i64 s) := by
 have h1 := hb.kp hM hk
 obtain ⟨A, c, e, hr, _⟩ := Own.rd h1
 injection e with e1 e2 e3
 subst e1
 refine ⟨l[r], List.getElem_mem h, ?_⟩
 obtain ⟨b, o, e4, _, hc⟩ := hr.kid (List.getElem?_eq_getElem h) (by omega)
 injection e4 with e4
 injection e4 with e5 e6
 subst e5 e6
 rw [Nat.zero_add] at hc
 exact hc
theorem word_good {s : Int} (h : s ∈ [1, 2, 3]) : Good (.mk s 0 ⟨#[]⟩ []) := by
 simp only [List.mem_cons, List.not_mem_nil, or_false] at h
 rcases h with rfl | rfl | rfl
 ·exact .none_
 ·exact .true_
 ·exact .false_
theorem bin_mem {l : List ByteArray} (h : (l.all fun s => binaries.any fun t => decide (t = s)) = true) : ∀ s ∈ l, s ∈ binaries := fun s hs => by
 obtain ⟨t, ht, e⟩ := List.any_eq_true.1 (List.all_eq_true.1 h s hs)
 exact (of_decide_eq_true e) ▸ ht
theorem cmp_mem {l : List ByteArray} (h : (l.all fun s => comparers.any fun t => decide (t = s)) = true) : ∀ s ∈ l, s ∈ comparers := fun s hs => by
 obtain ⟨t, ht, e⟩ := List.any_eq_true.1 (List.all_eq_true.1 h s hs)
 exact (of_decide_eq_true e) ▸ ht
def PickX (S : List Int) (at_ : Nat) (T : List NodeD) (dv k : Int) : Prop :=
 (decide (dv ≤ 0) = false ∧ decide (160 - (T.length : Int) ≤ 0) = false ∧ nextV S at_ 30 = k) ∨ (decide (dv ≤ 0) = false ∧ decide (160 - (T.length : Int) ≤ 0) = true ∧ nextV S at_ 30 % 6 = k) ∨ (decide (dv ≤ 0) = true ∧ nextV S at_ 30 % 6 = k)
theorem mexpr_0all {k : Int} (hk : k = 0) {D : Nat} {dv : Int} (hdv : 0 ≤ dv) {B mb at_ : Nat} {F : Nat → Prop} {S : List Int} {T : List NodeD} {w : World} (h : Mk B mb F S at_ T w) (hcap : T.length + ebound D ≤ 549755813888) (hr : PickX S at_ T dv k) : Calls Tryd.prog 71 #[.pointer (some ⟨mb, 0, none⟩), .int .i64 dv] w (ExP B mb F S w T (ebound D) (dv + 1)) := by
 unfold ExP
 have H := qh h
 have HB1 := qh (ebound_pos D)
 have HC : Hid (T.length + 1 ≤ 549755813888) := qh (by have := ebound_pos D; omega)
 have HDV := qh hdv
 clear h hcap hdv
 subst hk
 go_enter Tryd.func71, Tryd.ntmps71
 rcases hr with ⟨hd1, hl1, hr⟩ | ⟨hd1, hl1, hr⟩ | ⟨hd1, hr⟩
 focus
  have HR := qh hr
  clear hr
  go_upto_region 4 with (go_at_call 46; go_must (refine (next_any (n := 30) H.out (by decide) (by decide)).mono ?_); rintro e w2 ⟨rfl, hm, hk⟩; rw [HR.out]; obtain ⟨A0, sn, c0, v0, hb0, -⟩ := hm.m; have x3 := hb0.cell 3; have xlt := hb0.lt; simp only [GG] at x3; clear hb0; have HM := qh hm; have HK := qh hk; clear hm hk)
  clear hl1 x3 hd1
 rotate_left
 focus
  have HR := qh hr
  clear hr
  go_upto_region 4 with (go_at_call 46; go_must (refine (next_any (n := 30) H.out (by decide) (by decide)).mono ?_); rintro e w2 ⟨rfl, hm, hk⟩; have hq := HR.out; obtain ⟨rn, hrn, hr30⟩ := nat_of (nextV_ok S at_ (n := 30) (by decide)); rw [hrn] at hq ⊢; have hq2 := (Int.tmod_eq_emod_of_nonneg (a := (rn : Int)) (b := 6) (by omega)).trans hq; obtain ⟨A0, sn, c0, v0, hb0, -⟩ := hm.m; have x3 := hb0.cell 3; have xlt := hb0.lt; simp only [GG] at x3; clear hb0; have HM := qh hm; have HK := qh hk; clear hm hk hrn)
  clear hq hq2 hl1 x3 hd1
 rotate_left
 focus
  have HR := qh hr
  clear hr
  go_upto_region 4 with (go_at_call 46; go_must (refine (next_any (n := 30) H.out (by decide) (by decide)).mono ?_); rintro e w2 ⟨rfl, hm, hk⟩; have hq := HR.out; obtain ⟨rn, hrn, hr30⟩ := nat_of (nextV_ok S at_ (n := 30) (by decide)); rw [hrn] at hq ⊢; have hq2 := (Int.tmod_eq_emod_of_nonneg (a := (rn : Int)) (b := 6) (by omega)).trans hq; obtain ⟨A0, sn, c0, v0, hb0, -⟩ := hm.m; have x3 := hb0.cell 3; have xlt := hb0.lt; simp only [GG] at x3; clear hb0; have HM := qh hm; have HK := qh hk; clear hm hk hrn)
  clear hq hq2 x3 hd1
 all_goals
  go_wp2_with (first | (go_at_call 46; go_must (refine (next_any (n := 5) HM.out (by decide) (by decide)).mono ?_); rintro e w3 ⟨rfl, hm, hk⟩; obtain ⟨q, hq, hq8⟩ := nat_of (nextV_ok S (nextA S at_) (n := 5) (by decide)); rw [hq]; have HM3 := qh hm; have HK3 := qh (HK.out.trans hk); clear hm hk hq) | (go_at_call 48; obtain ⟨hgood, hxp⟩ := HM3.out.good.x (d := 0) (op := 4) (n := (q : Int)) (s := ⟨#[]⟩) (Xs.nil_ _ 0) (by decide) (by decide) (fun ks hl hk => by match ks, hl with | [], _ => exact Good.int_ (q : Int) (by omega) (by omega)); go_must (refine (madd_none HM3.out 4 (q : Int) ⟨#[]⟩ hgood (by have h0 := HC.out;  (try simp only [LL]); omega)).mono ?_); rintro e w4 ⟨r4, rfl, hr4, hm, hk⟩; rw [← hr4] at hxp; have HM4 := qh hm; have HK4 := qh (HK3.out.trans hk); have HP4 := qh hxp; clear hm hk hgood hxp hr4))
  go_ret
  exact ⟨_, _, [⟨4, 0, ⟨#[]⟩, (q : Int), []⟩], rfl, HM4.out, HK4.out, (by have hb := HB1.out; simp only [LL]; omega), HP4.out.le (by have := HDV.out; omega)⟩
theorem mexpr_1all {k : Int} (hk : k = 1 ∨ k = 2 ∨ k = 3) {D : Nat} {dv : Int} (hdv : 0 ≤ dv) {B mb at_ : Nat} {F : Nat → Prop} {S : List Int} {T : List NodeD} {w : World} (h : Mk B mb F S at_ T w) (hcap : T.length + ebound D ≤ 549755813888) (hr : PickX S at_ T dv k) : Calls Tryd.prog 71 #[.pointer (some ⟨mb, 0, none⟩), .int .i64 dv] w (ExP B mb F S w T (ebound D) (dv + 1)) := by
 unfold ExP
 have H := qh h
 have HB1 := qh (ebound_pos D)
 have HC : Hid (T.length + 1 ≤ 549755813888) := qh (by have := ebound_pos D; omega)
 have HDV := qh hdv
 clear h hcap hdv
 rcases hk with rfl | rfl | rfl
 all_goals
  go_enter Tryd.func71, Tryd.ntmps71
  rcases hr with ⟨hd1, hl1, hr⟩ | ⟨hd1, hl1, hr⟩ | ⟨hd1, hr⟩
  focus
   have HR := qh hr
   clear hr
   go_upto_region 4 with (go_at_call 46; go_must (refine (next_any (n := 30) H.out (by decide) (by decide)).mono ?_); rintro e w2 ⟨rfl, hm, hk⟩; rw [HR.out]; obtain ⟨A0, sn, c0, v0, hb0, -⟩ := hm.m; have x3 := hb0.cell 3; have xlt := hb0.lt; simp only [GG] at x3; clear hb0; have HM := qh hm; have HK := qh hk; clear hm hk)
   clear hl1 x3 hd1
  rotate_left
  focus
   have HR := qh hr
   clear hr
   go_upto_region 4 with (go_at_call 46; go_must (refine (next_any (n := 30) H.out (by decide) (by decide)).mono ?_); rintro e w2 ⟨rfl, hm, hk⟩; have hq := HR.out; obtain ⟨rn, hrn, hr30⟩ := nat_of (nextV_ok S at_ (n := 30) (by decide)); rw [hrn] at hq ⊢; have hq2 := (Int.tmod_eq_emod_of_nonneg (a := (rn : Int)) (b := 6) (by omega)).trans hq; obtain ⟨A0, sn, c0, v0, hb0, -⟩ := hm.m; have x3 := hb0.cell 3; have xlt := hb0.lt; simp only [GG] at x3; clear hb0; have HM := qh hm; have HK := qh hk; clear hm hk hrn)
   clear hq hq2 hl1 x3 hd1
  rotate_left
  focus
   have HR := qh hr
   clear hr
   go_upto_region 4 with (go_at_call 46; go_must (refine (next_any (n := 30) H.out (by decide) (by decide)).mono ?_); rintro e w2 ⟨rfl, hm, hk⟩; have hq := HR.out; obtain ⟨rn, hrn, hr30⟩ := nat_of (nextV_ok S at_ (n := 30) (by decide)); rw [hrn] at hq ⊢; have hq2 := (Int.tmod_eq_emod_of_nonneg (a := (rn : Int)) (b := 6) (by omega)).trans hq; obtain ⟨A0, sn, c0, v0, hb0, -⟩ := hm.m; have x3 := hb0.cell 3; have xlt := hb0.lt; simp only [GG] at x3; clear hb0; have HM := qh hm; have HK := qh hk; clear hm hk hrn)
   clear hq hq2 x3 hd1
 all_goals
  go_wp2_with (first | (go_at_call 90; go_must (refine (mname_any HM.out).mono ?_); rintro e w3 ⟨s, rfl, hs, hm, hk⟩; have HS := qh hs; have HM3 := qh hm; have HK3 := qh (HK.out.trans hk); clear hm hk hs) | (go_at_call 48; obtain ⟨hgood, hxp⟩ := HM3.out.good.x (d := 0) (op := 6) (n := 0) (s := s) (Xs.nil_ _ 0) (by decide) (by decide) (fun ks hl hk => by match ks, hl with | [], _ => exact Good.name_ s HS.out.1 HS.out.2); go_must (refine (madd_none HM3.out 6 0 s hgood (by have h0 := HC.out;  (try simp only [LL]); omega)).mono ?_); rintro e w4 ⟨r4, rfl, hr4, hm, hk⟩; rw [← hr4] at hxp; have HM4 := qh hm; have HK4 := qh (HK3.out.trans hk); have HP4 := qh hxp; clear hm hk hgood hxp hr4))
  go_ret
  exact ⟨_, _, [⟨6, 0, s, 0, []⟩], rfl, HM4.out, HK4.out, (by have hb := HB1.out; simp only [LL]; omega), HP4.out.le (by have := HDV.out; omega)⟩
theorem mexpr_4all {k : Int} (hk : k = 4) {D : Nat} {dv : Int} (hdv : 0 ≤ dv) {B mb at_ : Nat} {F : Nat → Prop} {S : List Int} {T : List NodeD} {w : World} (h : Mk B mb F S at_ T w) (hcap : T.length + ebound D ≤ 549755813888) (hr : PickX S at_ T dv k) : Calls Tryd.prog 71 #[.pointer (some ⟨mb, 0, none⟩), .int .i64 dv] w (ExP B mb F S w T (ebound D) (dv + 1)) := by
 unfold ExP
 have H := qh h
 have HB1 := qh (ebound_pos D)
 have HC : Hid (T.length + 1 ≤ 549755813888) := qh (by have := ebound_pos D; omega)
 have HDV := qh hdv
 clear h hcap hdv
 subst hk
 go_enter Tryd.func71, Tryd.ntmps71
 rcases hr with ⟨hd1, hl1, hr⟩ | ⟨hd1, hl1, hr⟩ | ⟨hd1, hr⟩
 focus
  have HR := qh hr
  clear hr
  go_upto_region 4 with (go_at_call 46; go_must (refine (next_any (n := 30) H.out (by decide) (by decide)).mono ?_); rintro e w2 ⟨rfl, hm, hk⟩; rw [HR.out]; obtain ⟨A0, sn, c0, v0, hb0, -⟩ := hm.m; have x3 := hb0.cell 3; have xlt := hb0.lt; simp only [GG] at x3; clear hb0; have HM := qh hm; have HK := qh hk; clear hm hk)
  clear hl1 x3 hd1
 rotate_left
 focus
  have HR := qh hr
  clear hr
  go_upto_region 4 with (go_at_call 46; go_must (refine (next_any (n := 30) H.out (by decide) (by decide)).mono ?_); rintro e w2 ⟨rfl, hm, hk⟩; have hq := HR.out; obtain ⟨rn, hrn, hr30⟩ := nat_of (nextV_ok S at_ (n := 30) (by decide)); rw [hrn] at hq ⊢; have hq2 := (Int.tmod_eq_emod_of_nonneg (a := (rn : Int)) (b := 6) (by omega)).trans hq; obtain ⟨A0, sn, c0, v0, hb0, -⟩ := hm.m; have x3 := hb0.cell 3; have xlt := hb0.lt; simp only [GG] at x3; clear hb0; have HM := qh hm; have HK := qh hk; clear hm hk hrn)
  clear hq hq2 hl1 x3 hd1
 rotate_left
 focus
  have HR := qh hr
  clear hr
  go_upto_region 4 with (go_at_call 46; go_must (refine (next_any (n := 30) H.out (by decide) (by decide)).mono ?_); rintro e w2 ⟨rfl, hm, hk⟩; have hq := HR.out; obtain ⟨rn, hrn, hr30⟩ := nat_of (nextV_ok S at_ (n := 30) (by decide)); rw [hrn] at hq ⊢; have hq2 := (Int.tmod_eq_emod_of_nonneg (a := (rn : Int)) (b := 6) (by omega)).trans hq; obtain ⟨A0, sn, c0, v0, hb0, -⟩ := hm.m; have x3 := hb0.cell 3; have xlt := hb0.lt; simp only [GG] at x3; clear hb0; have HM := qh hm; have HK := qh hk; clear hm hk hrn)
  clear hq hq2 x3 hd1
 all_goals
  go_wp2_with (first | (go_at_call 46; go_must (refine (next_any (n := 4) (HM.out.alloc _) (by decide) (by decide)).mono ?_); rintro e w3 ⟨rfl, hm, hk⟩; obtain ⟨q, hq, hq8⟩ := nat_of (nextV_ok S (nextA S at_) (n := 4) (by decide)); rw [hq]; obtain ⟨s, hs, hc⟩ := pick_kp (l := [⟨#[]⟩, ⟨#[107]⟩, ⟨#[97, 98]⟩, ⟨#[97, 39, 92]⟩]) (Blk.new w2 9 _) (HM.out.alloc _) hk (r := q) (by show q < 4; omega); have hq88 : q < 4 := (by omega); have hlt : w2.heap.size < w3.heap.size := kp_lt hk; have HM3 := qh hm; have HK3 := qh (HK.out.trans ((Kp.alloc B mb w2 _).trans hk)); have HS := qh hs; clear hm hk hq hs) | (go_at_call 48; obtain ⟨hgood, hxp⟩ := HM3.out.good.x (d := 0) (op := 5) (n := 0) (s := s) (Xs.nil_ _ 0) (by decide) (by decide) (fun ks hl hk => by match ks, hl with | [], _ => exact Good.str_ s (str_ok (l := [⟨#[]⟩, ⟨#[107]⟩, ⟨#[97, 98]⟩, ⟨#[97, 39, 92]⟩]) (by decide +kernel) s HS.out)); go_must (refine (madd_none HM3.out 5 0 s hgood (by have h0 := HC.out;  (try simp only [LL]); omega)).mono ?_); rintro e w4 ⟨r4, rfl, hr4, hm, hk⟩; rw [← hr4] at hxp; have HM4 := qh hm; have HK4 := qh (HK3.out.trans hk); have HP4 := qh hxp; clear hm hk hgood hxp hr4))
  go_ret
  exact ⟨_, _, [⟨5, 0, s, 0, []⟩], rfl, HM4.out, HK4.out, (by have hb := HB1.out; simp only [LL]; omega), HP4.out.le (by have := HDV.out; omega)⟩
theorem mexpr_5all {k : Int} (hk : k = 5) {D : Nat} {dv : Int} (hdv : 0 ≤ dv) {B mb at_ : Nat} {F : Nat → Prop} {S : List Int} {T : List NodeD} {w : World} (h : Mk B mb F S at_ T w) (hcap : T.length + ebound D ≤ 549755813888) (hr : PickX S at_ T dv k) : Calls Tryd.prog 71 #[.pointer (some ⟨mb, 0, none⟩), .int .i64 dv] w (ExP B mb F S w T (ebound D) (dv + 1)) := by
 unfold ExP
 have H := qh h
 have HB1 := qh (ebound_pos D)
 have HC : Hid (T.length + 1 ≤ 549755813888) := qh (by have := ebound_pos D; omega)
 have HDV := qh hdv
 clear h hcap hdv
 subst hk
 go_enter Tryd.func71, Tryd.ntmps71
 rcases hr with ⟨hd1, hl1, hr⟩ | ⟨hd1, hl1, hr⟩ | ⟨hd1, hr⟩
 focus
  have HR := qh hr
  clear hr
  go_upto_region 4 with (go_at_call 46; go_must (refine (next_any (n := 30) H.out (by decide) (by decide)).mono ?_); rintro e w2 ⟨rfl, hm, hk⟩; rw [HR.out]; obtain ⟨A0, sn, c0, v0, hb0, -⟩ := hm.m; have x3 := hb0.cell 3; have xlt := hb0.lt; simp only [GG] at x3; clear hb0; have HM := qh hm; have HK := qh hk; clear hm hk)
  clear hl1 x3 hd1
 rotate_left
 focus
  have HR := qh hr
  clear hr
  go_upto_region 4 with (go_at_call 46; go_must (refine (next_any (n := 30) H.out (by decide) (by decide)).mono ?_); rintro e w2 ⟨rfl, hm, hk⟩; have hq := HR.out; obtain ⟨rn, hrn, hr30⟩ := nat_of (nextV_ok S at_ (n := 30) (by decide)); rw [hrn] at hq ⊢; have hq2 := (Int.tmod_eq_emod_of_nonneg (a := (rn : Int)) (b := 6) (by omega)).trans hq; obtain ⟨A0, sn, c0, v0, hb0, -⟩ := hm.m; have x3 := hb0.cell 3; have xlt := hb0.lt; simp only [GG] at x3; clear hb0; have HM := qh hm; have HK := qh hk; clear hm hk hrn)
  clear hq hq2 hl1 x3 hd1
 rotate_left
 focus
  have HR := qh hr
  clear hr
  go_upto_region 4 with (go_at_call 46; go_must (refine (next_any (n := 30) H.out (by decide) (by decide)).mono ?_); rintro e w2 ⟨rfl, hm, hk⟩; have hq := HR.out; obtain ⟨rn, hrn, hr30⟩ := nat_of (nextV_ok S at_ (n := 30) (by decide)); rw [hrn] at hq ⊢; have hq2 := (Int.tmod_eq_emod_of_nonneg (a := (rn : Int)) (b := 6) (by omega)).trans hq; obtain ⟨A0, sn, c0, v0, hb0, -⟩ := hm.m; have x3 := hb0.cell 3; have xlt := hb0.lt; simp only [GG] at x3; clear hb0; have HM := qh hm; have HK := qh hk; clear hm hk hrn)
  clear hq hq2 x3 hd1
 all_goals
  go_wp2_with (first | (go_at_call 46; go_must (refine (next_any (n := 3) (HM.out.alloc _) (by decide) (by decide)).mono ?_); rintro e w3 ⟨rfl, hm, hk⟩; obtain ⟨q, hq, hq8⟩ := nat_of (nextV_ok S (nextA S at_) (n := 3) (by decide)); rw [hq]; obtain ⟨s, hs, hc⟩ := pick_int (l := [1, 2, 3]) (OwnI.made3 w2) (HM.out.alloc _) hk (r := q) (by show q < 3; omega); have hq88 : q < 3 := (by omega); have hlt : w2.heap.size < w3.heap.size := kp_lt hk; have HM3 := qh hm; have HK3 := qh (HK.out.trans ((Kp.alloc B mb w2 _).trans hk)); have HS := qh hs; clear hm hk hq hs) | (go_at_call 48; obtain ⟨hgood, hxp⟩ := HM3.out.good.x (d := 0) (op := s) (n := 0) (s := ⟨#[]⟩) (Xs.nil_ _ 0) (by decide) (by decide) (fun ks hl hk => by match ks, hl with | [], _ => exact word_good HS.out); go_must (refine (madd_none HM3.out s 0 ⟨#[]⟩ hgood (by have h0 := HC.out;  (try simp only [LL]); omega)).mono ?_); rintro e w4 ⟨r4, rfl, hr4, hm, hk⟩; rw [← hr4] at hxp; have HM4 := qh hm; have HK4 := qh (HK3.out.trans hk); have HP4 := qh hxp; clear hm hk hgood hxp hr4))
  go_ret
  exact ⟨_, _, [⟨s, 0, ⟨#[]⟩, 0, []⟩], rfl, HM4.out, HK4.out, (by have hb := HB1.out; simp only [LL]; omega), HP4.out.le (by have := HDV.out; omega)⟩
end
section
open Go.RowKit
set_option linter.unusedVariables false
set_option linter.unusedSimpArgs false
theorem mexpr_6free {k : Int} (hk : k = 6 ∨ k = 7) {d : Nat} (hd : d ≤ 9) (HE : EX d) (HE0 : EX 0) {B mb at_ : Nat} {F : Nat → Prop} {S : List Int} {T : List NodeD} {w : World} (h : Mk B mb F S at_ T w) (hcap : T.length + ebound (d + 1) ≤ 549755813888) (hl : ¬ 160 - (T.length : Int) ≤ 0) (hr : nextV S at_ 30 = k) : Calls Tryd.prog 71 #[.pointer (some ⟨mb, 0, none⟩), .int .i64 ((d : Int) + 1)] w (ExP B mb F S w T (ebound (d + 1)) (((d : Int) + 1) + 1)) := by
 rcases hk with rfl | rfl
 all_goals
  unfold ExP
  have H := qh h
  have hd1 : decide ((d : Int) + 1 ≤ 0) = false := decide_eq_false (by omega)
  have hdd : ((d : Int) + 1 == 0) = false := by rw [beq_eq_false_iff_ne]; omega
  have HC : Hid (T.length + (3 * ebound d + 4) ≤ 549755813888) := qh hcap
  have HB1 := qh (ebound_pos d)
  have hl1 : decide (160 - (T.length : Int) ≤ 0) = false := decide_eq_false hl
  have HR := qh hr
  have HE := qh HE
  have HE0 := qh HE0
  clear h hcap hr hl
  go_enter Tryd.func71, Tryd.ntmps71
  go_upto_region 4 with (go_at_call 46; go_must (refine (next_any (n := 30) H.out (by decide) (by decide)).mono ?_); rintro e w2 ⟨rfl, hm, hk⟩; rw [HR.out]; obtain ⟨A0, sn, c0, v0, hb0, -⟩ := hm.m; have x3 := hb0.cell 3; have xlt := hb0.lt; simp only [GG] at x3; clear hb0; have HM2 := qh hm; have HK2 := qh hk; clear hm hk)
  clear hl1 x3 hd1
  go_wp2_with (first | (go_at_call 46; go_must (refine (next_any (n := 8) (HM2.out.alloc _) (by decide) (by decide)).mono ?_); rintro e w3 ⟨rfl, hm, hk⟩; obtain ⟨q, hq, hq8⟩ := nat_of (nextV_ok S (nextA S at_) (n := 8) (by decide)); rw [hq]; obtain ⟨s, hs, hc⟩ := pick_kp (l := [⟨#[43]⟩, ⟨#[45]⟩, ⟨#[42]⟩, ⟨#[47, 47]⟩, ⟨#[37]⟩, ⟨#[42, 42]⟩, ⟨#[43]⟩, ⟨#[43]⟩]) (Blk.new w2 9 _) (HM2.out.alloc _) hk (r := q) (by show q < 8; omega); have hq88 : q < 8 := (by omega); have hlt : w2.heap.size < w3.heap.size := kp_lt hk; have HM3 := qh hm; have HK3 := qh (HK2.out.trans ((Kp.alloc B mb w2 _).trans hk)); have HS := qh hs; clear hm hk hq hs) | (go_at_call 91; go_must (refine (two_any HE.out hd HM3.out (by have h0 := HC.out; have h1 := HB1.out; omega) 12 s (fun a b ha hb => Good.bin_ s a b (bin_mem (by decide +kernel) s HS.out) ha hb)).mono ?_); rintro e w4 ⟨r4, at4, X4, rfl, hm, hk, hx, hp⟩; have HM4 := qh hm; have HK4 := qh (HK3.out.trans hk); have HX4 := qh hx; have HP4 := qh hp; clear hm hk hx hp))
  go_ret
  exact ⟨_, _, X4, rfl, HM4.out, HK4.out, (by have h4 := HX4.out; have hb := HB1.out; simp only [ebound, LL]; omega), HP4.out.le (by omega)⟩
theorem mexpr_8free {k : Int} (hk : k = 8 ∨ k = 9) {d : Nat} (hd : d ≤ 9) (HE : EX d) (HE0 : EX 0) {B mb at_ : Nat} {F : Nat → Prop} {S : List Int} {T : List NodeD} {w : World} (h : Mk B mb F S at_ T w) (hcap : T.length + ebound (d + 1) ≤ 549755813888) (hl : ¬ 160 - (T.length : Int) ≤ 0) (hr : nextV S at_ 30 = k) : Calls Tryd.prog 71 #[.pointer (some ⟨mb, 0, none⟩), .int .i64 ((d : Int) + 1)] w (ExP B mb F S w T (ebound (d + 1)) (((d : Int) + 1) + 1)) := by
 rcases hk with rfl | rfl
 all_goals
  unfold ExP
  have H := qh h
  have hd1 : decide ((d : Int) + 1 ≤ 0) = false := decide_eq_false (by omega)
  have hdd : ((d : Int) + 1 == 0) = false := by rw [beq_eq_false_iff_ne]; omega
  have HC : Hid (T.length + (3 * ebound d + 4) ≤ 549755813888) := qh hcap
  have HB1 := qh (ebound_pos d)
  have hl1 : decide (160 - (T.length : Int) ≤ 0) = false := decide_eq_false hl
  have HR := qh hr
  have HE := qh HE
  have HE0 := qh HE0
  clear h hcap hr hl
  go_enter Tryd.func71, Tryd.ntmps71
  go_upto_region 4 with (go_at_call 46; go_must (refine (next_any (n := 30) H.out (by decide) (by decide)).mono ?_); rintro e w2 ⟨rfl, hm, hk⟩; rw [HR.out]; obtain ⟨A0, sn, c0, v0, hb0, -⟩ := hm.m; have x3 := hb0.cell 3; have xlt := hb0.lt; simp only [GG] at x3; clear hb0; have HM2 := qh hm; have HK2 := qh hk; clear hm hk)
  clear hl1 x3 hd1
  go_wp2_with (first | (go_at_call 46; go_must (refine (next_any (n := 10) (HM2.out.alloc _) (by decide) (by decide)).mono ?_); rintro e w3 ⟨rfl, hm, hk⟩; obtain ⟨q, hq, hq8⟩ := nat_of (nextV_ok S (nextA S at_) (n := 10) (by decide)); rw [hq]; obtain ⟨s, hs, hc⟩ := pick_kp (l := [⟨#[61, 61]⟩, ⟨#[60]⟩, ⟨#[105, 110]⟩, ⟨#[105, 115]⟩, ⟨#[33, 61]⟩, ⟨#[110, 111, 116, 32, 105, 110]⟩, ⟨#[105, 115, 32, 110, 111, 116]⟩, ⟨#[60, 61]⟩, ⟨#[62]⟩, ⟨#[62, 61]⟩]) (Blk.new w2 9 _) (HM2.out.alloc _) hk (r := q) (by show q < 10; omega); have hq88 : q < 10 := (by omega); have hlt : w2.heap.size < w3.heap.size := kp_lt hk; have HM3 := qh hm; have HK3 := qh (HK2.out.trans ((Kp.alloc B mb w2 _).trans hk)); have HS := qh hs; clear hm hk hq hs) | (go_at_call 91; go_must (refine (two_any HE.out hd HM3.out (by have h0 := HC.out; have h1 := HB1.out; omega) 13 s (fun a b ha hb => Good.cmp_ s a b (cmp_mem (by decide +kernel) s HS.out) ha hb)).mono ?_); rintro e w4 ⟨r4, at4, X4, rfl, hm, hk, hx, hp⟩; have HM4 := qh hm; have HK4 := qh (HK3.out.trans hk); have HX4 := qh hx; have HP4 := qh hp; clear hm hk hx hp))
  go_ret
  exact ⟨_, _, X4, rfl, HM4.out, HK4.out, (by have h4 := HX4.out; have hb := HB1.out; simp only [ebound, LL]; omega), HP4.out.le (by omega)⟩
theorem mexpr_10free {d : Nat} (hd : d ≤ 9) (HE : EX d) (HE0 : EX 0) {B mb at_ : Nat} {F : Nat → Prop} {S : List Int} {T : List NodeD} {w : World} (h : Mk B mb F S at_ T w) (hcap : T.length + ebound (d + 1) ≤ 549755813888) (hl : ¬ 160 - (T.length : Int) ≤ 0) (hr : nextV S at_ 30 = 10) : Calls Tryd.prog 71 #[.pointer (some ⟨mb, 0, none⟩), .int .i64 ((d : Int) + 1)] w (ExP B mb F S w T (ebound (d + 1)) (((d : Int) + 1) + 1)) := by
 unfold ExP
 have H := qh h
 have hd1 : decide ((d : Int) + 1 ≤ 0) = false := decide_eq_false (by omega)
 have hdd : ((d : Int) + 1 == 0) = false := by rw [beq_eq_false_iff_ne]; omega
 have HC : Hid (T.length + (3 * ebound d + 4) ≤ 549755813888) := qh hcap
 have HB1 := qh (ebound_pos d)
 have hl1 : decide (160 - (T.length : Int) ≤ 0) = false := decide_eq_false hl
 have HR := qh hr
 have HE := qh HE
 have HE0 := qh HE0
 clear h hcap hr hl
 go_enter Tryd.func71, Tryd.ntmps71
 go_upto_region 4 with (go_at_call 46; go_must (refine (next_any (n := 30) H.out (by decide) (by decide)).mono ?_); rintro e w2 ⟨rfl, hm, hk⟩; rw [HR.out]; obtain ⟨A0, sn, c0, v0, hb0, -⟩ := hm.m; have x3 := hb0.cell 3; have xlt := hb0.lt; simp only [GG] at x3; clear hb0; have HM2 := qh hm; have HK2 := qh hk; clear hm hk)
 clear hl1 x3 hd1
 go_wp2_with ((go_at_call 91; go_must (refine (two_any HE.out hd HM2.out (by have h0 := HC.out; have h1 := HB1.out; omega) 14 ⟨#[]⟩ (fun a b ha hb => Good.and_ a b ha hb)).mono ?_); rintro e w4 ⟨r4, at4, X4, rfl, hm, hk, hx, hp⟩; have HM4 := qh hm; have HK4 := qh (HK2.out.trans hk); have HX4 := qh hx; have HP4 := qh hp; clear hm hk hx hp))
 go_ret
 exact ⟨_, _, X4, rfl, HM4.out, HK4.out, (by have h4 := HX4.out; have hb := HB1.out; simp only [ebound, LL]; omega), HP4.out.le (by omega)⟩
theorem mexpr_11free {d : Nat} (hd : d ≤ 9) (HE : EX d) (HE0 : EX 0) {B mb at_ : Nat} {F : Nat → Prop} {S : List Int} {T : List NodeD} {w : World} (h : Mk B mb F S at_ T w) (hcap : T.length + ebound (d + 1) ≤ 549755813888) (hl : ¬ 160 - (T.length : Int) ≤ 0) (hr : nextV S at_ 30 = 11) : Calls Tryd.prog 71 #[.pointer (some ⟨mb, 0, none⟩), .int .i64 ((d : Int) + 1)] w (ExP B mb F S w T (ebound (d + 1)) (((d : Int) + 1) + 1)) := by
 unfold ExP
 have H := qh h
 have hd1 : decide ((d : Int) + 1 ≤ 0) = false := decide_eq_false (by omega)
 have hdd : ((d : Int) + 1 == 0) = false := by rw [beq_eq_false_iff_ne]; omega
 have HC : Hid (T.length + (3 * ebound d + 4) ≤ 549755813888) := qh hcap
 have HB1 := qh (ebound_pos d)
 have hl1 : decide (160 - (T.length : Int) ≤ 0) = false := decide_eq_false hl
 have HR := qh hr
 have HE := qh HE
 have HE0 := qh HE0
 clear h hcap hr hl
 go_enter Tryd.func71, Tryd.ntmps71
 go_upto_region 4 with (go_at_call 46; go_must (refine (next_any (n := 30) H.out (by decide) (by decide)).mono ?_); rintro e w2 ⟨rfl, hm, hk⟩; rw [HR.out]; obtain ⟨A0, sn, c0, v0, hb0, -⟩ := hm.m; have x3 := hb0.cell 3; have xlt := hb0.lt; simp only [GG] at x3; clear hb0; have HM2 := qh hm; have HK2 := qh hk; clear hm hk)
 clear hl1 x3 hd1
 go_wp2_with ((go_at_call 91; go_must (refine (two_any HE.out hd HM2.out (by have h0 := HC.out; have h1 := HB1.out; omega) 15 ⟨#[]⟩ (fun a b ha hb => Good.or_ a b ha hb)).mono ?_); rintro e w4 ⟨r4, at4, X4, rfl, hm, hk, hx, hp⟩; have HM4 := qh hm; have HK4 := qh (HK2.out.trans hk); have HX4 := qh hx; have HP4 := qh hp; clear hm hk hx hp))
 go_ret
 exact ⟨_, _, X4, rfl, HM4.out, HK4.out, (by have h4 := HX4.out; have hb := HB1.out; simp only [ebound, LL]; omega), HP4.out.le (by omega)⟩
theorem mexpr_26free {d : Nat} (hd : d ≤ 9) (HE : EX d) (HE0 : EX 0) {B mb at_ : Nat} {F : Nat → Prop} {S : List Int} {T : List NodeD} {w : World} (h : Mk B mb F S at_ T w) (hcap : T.length + ebound (d + 1) ≤ 549755813888) (hl : ¬ 160 - (T.length : Int) ≤ 0) (hr : nextV S at_ 30 = 26) : Calls Tryd.prog 71 #[.pointer (some ⟨mb, 0, none⟩), .int .i64 ((d : Int) + 1)] w (ExP B mb F S w T (ebound (d + 1)) (((d : Int) + 1) + 1)) := by
 unfold ExP
 have H := qh h
 have hd1 : decide ((d : Int) + 1 ≤ 0) = false := decide_eq_false (by omega)
 have hdd : ((d : Int) + 1 == 0) = false := by rw [beq_eq_false_iff_ne]; omega
 have HC : Hid (T.length + (3 * ebound d + 4) ≤ 549755813888) := qh hcap
 have HB1 := qh (ebound_pos d)
 have hl1 : decide (160 - (T.length : Int) ≤ 0) = false := decide_eq_false hl
 have HR := qh hr
 have HE := qh HE
 have HE0 := qh HE0
 clear h hcap hr hl
 go_enter Tryd.func71, Tryd.ntmps71
 go_upto_region 4 with (go_at_call 46; go_must (refine (next_any (n := 30) H.out (by decide) (by decide)).mono ?_); rintro e w2 ⟨rfl, hm, hk⟩; rw [HR.out]; obtain ⟨A0, sn, c0, v0, hb0, -⟩ := hm.m; have x3 := hb0.cell 3; have xlt := hb0.lt; simp only [GG] at x3; clear hb0; have HM2 := qh hm; have HK2 := qh hk; clear hm hk)
 clear hl1 x3 hd1
 go_wp2_with ((go_at_call 91; go_must (refine (two_any HE.out hd HM2.out (by have h0 := HC.out; have h1 := HB1.out; omega) 19 ⟨#[]⟩ (fun a b ha hb => Good.index_ a b ha hb)).mono ?_); rintro e w4 ⟨r4, at4, X4, rfl, hm, hk, hx, hp⟩; have HM4 := qh hm; have HK4 := qh (HK2.out.trans hk); have HX4 := qh hx; have HP4 := qh hp; clear hm hk hx hp))
 go_ret
 exact ⟨_, _, X4, rfl, HM4.out, HK4.out, (by have h4 := HX4.out; have hb := HB1.out; simp only [ebound, LL]; omega), HP4.out.le (by omega)⟩
end
section
open Go.RowKit
set_option linter.unusedVariables false
set_option linter.unusedSimpArgs false
section
variable {T X Y : List NodeD} {d r : Int} {l : List Int}
theorem Xp.up (h : Xp (T ++ X) d r) : Xp (T ++ (X ++ Y)) d r := by rw [← List.append_assoc]; exact h.app
theorem Xp.assoc (h : Xp (T ++ X ++ Y) d r) : Xp (T ++ (X ++ Y)) d r := by rw [← List.append_assoc]; exact h
theorem Xs.up2 (h : Xs (T ++ X) d l) : Xs (T ++ (X ++ Y)) d l := by rw [← List.append_assoc]; exact h.app2
theorem Xs.assoc (h : Xs (T ++ X ++ Y) d l) : Xs (T ++ (X ++ Y)) d l := by rw [← List.append_assoc]; exact h
end
theorem EX.zero (h : EX 0) {B mb at_ : Nat} {F : Nat → Prop} {S : List Int} {T : List NodeD} {w : World} (hM : Mk B mb F S at_ T w) (hc : T.length + 1 ≤ 549755813888) : Calls Tryd.prog 71 #[.pointer (some ⟨mb, 0, none⟩), .int .i64 0] w (ExP B mb F S w T 1 1) := h.run hM hc
theorem mrow3 {d : Nat} (HE : EX d) (hd : d ≤ 9) {B mb at_ : Nat} {F : Nat → Prop} {S : List Int} {T : List NodeD} {w : World} (h : Mk B mb F S at_ T w) (hcap : T.length + 3 * ebound d ≤ 549755813888) :
  Calls Tryd.prog 92 #[.pointer (some ⟨mb, 0, none⟩), .int .i64 ((d : Int) + 1), .int .i64 3] w (RwP B mb F S w T (3 * ebound d) 3 ((d : Int) + 1)) := mrow_any HE hd h (most := 3) (by decide) (by decide) hcap
theorem mrow4 {d : Nat} (HE : EX d) (hd : d ≤ 9) {B mb at_ : Nat} {F : Nat → Prop} {S : List Int} {T : List NodeD} {w : World} (h : Mk B mb F S at_ T w) (hcap : T.length + 3 * ebound d ≤ 549755813888) :
  Calls Tryd.prog 92 #[.pointer (some ⟨mb, 0, none⟩), .int .i64 ((d : Int) + 1), .int .i64 4] w (RwP B mb F S w T (3 * ebound d) 3 ((d : Int) + 1)) := mrow_any HE hd h (most := 4) (by decide) (by decide) hcap
theorem mexpr_12free {d : Nat} (hd : d ≤ 9) (HE : EX d) (HE0 : EX 0) {B mb at_ : Nat} {F : Nat → Prop} {S : List Int} {T : List NodeD} {w : World} (h : Mk B mb F S at_ T w) (hcap : T.length + ebound (d + 1) ≤ 549755813888) (hl : ¬ 160 - (T.length : Int) ≤ 0) (hr : nextV S at_ 30 = 12) : Calls Tryd.prog 71 #[.pointer (some ⟨mb, 0, none⟩), .int .i64 ((d : Int) + 1)] w (ExP B mb F S w T (ebound (d + 1)) (((d : Int) + 1) + 1)) := by
 unfold ExP
 have H := qh h
 have hd1 : decide ((d : Int) + 1 ≤ 0) = false := decide_eq_false (by omega)
 have hdd : ((d : Int) + 1 == 0) = false := by rw [beq_eq_false_iff_ne]; omega
 have HC : Hid (T.length + (3 * ebound d + 4) ≤ 549755813888) := qh hcap
 have HB1 := qh (ebound_pos d)
 have hl1 : decide (160 - (T.length : Int) ≤ 0) = false := decide_eq_false hl
 have HR := qh hr
 have HE := qh HE
 have HE0 := qh HE0
 clear h hcap hr hl
 go_enter Tryd.func71, Tryd.ntmps71
 go_upto_region 4 with (go_at_call 46; go_must (refine (next_any (n := 30) H.out (by decide) (by decide)).mono ?_); rintro e w2 ⟨rfl, hm, hk⟩; rw [HR.out]; obtain ⟨A0, sn, c0, v0, hb0, -⟩ := hm.m; have x3 := hb0.cell 3; have xlt := hb0.lt; simp only [GG] at x3; clear hb0; have HM2 := qh hm; have HK2 := qh hk; clear hm hk)
 clear hl1 x3 hd1
 go_wp2_with (first | (go_at_call 48; obtain ⟨hgood, hxp⟩ := HM3.out.good.x (d := (d : Int) + 1) (op := 11) (n := 0) (s := ⟨#[]⟩) (kids := [r3]) ((Xs.nil_ _ _).snoc ((HP3.out).le (by omega))) (by omega) (by omega) (fun ks hl hk => by match ks, hl with | [a], _ => exact Good.not_ a (hk a (by simp))); go_must (refine (madd_lit HM3.out [r3] rfl rfl rfl (by simp) 11 0 ⟨#[]⟩ hgood (by have h0 := HC.out; have hb := HB1.out; have h3 := HX3.out; (try simp only [LL]); omega)).mono ?_); rintro e w4 ⟨r4, rfl, hr4, hm, hk⟩; rw [← hr4] at hxp; have HM4 := qh hm.assoc; have HK4 := qh (HK3.out.trans hk); have HP4 := qh hxp.assoc; clear hm hk hgood hxp hr4) | (go_at_call 71; go_must (refine (HE.out.run HM2.out (by have h0 := HC.out; have hb := HB1.out; (try simp only [LL]); omega)).mono ?_); rintro e w3 ⟨r3, at3, X3, rfl, hm, hk, hx, hp⟩; have HM3 := qh hm; have HK3 := qh (HK2.out.trans hk); have HX3 := qh hx; have HP3 := qh hp; clear hm hk hx hp))
 go_ret
 exact ⟨_, _, (X3 ++ [⟨11, 0, ⟨#[]⟩, 0, [r3]⟩]), rfl, HM4.out, HK4.out, (by have hb := HB1.out; have h3 := HX3.out;  simp only [ebound, LL]; omega), HP4.out.le (by omega)⟩
theorem mexpr_13free {d : Nat} (hd : d ≤ 9) (HE : EX d) (HE0 : EX 0) {B mb at_ : Nat} {F : Nat → Prop} {S : List Int} {T : List NodeD} {w : World} (h : Mk B mb F S at_ T w) (hcap : T.length + ebound (d + 1) ≤ 549755813888) (hl : ¬ 160 - (T.length : Int) ≤ 0) (hr : nextV S at_ 30 = 13) : Calls Tryd.prog 71 #[.pointer (some ⟨mb, 0, none⟩), .int .i64 ((d : Int) + 1)] w (ExP B mb F S w T (ebound (d + 1)) (((d : Int) + 1) + 1)) := by
 unfold ExP
 have H := qh h
 have hd1 : decide ((d : Int) + 1 ≤ 0) = false := decide_eq_false (by omega)
 have hdd : ((d : Int) + 1 == 0) = false := by rw [beq_eq_false_iff_ne]; omega
 have HC : Hid (T.length + (3 * ebound d + 4) ≤ 549755813888) := qh hcap
 have HB1 := qh (ebound_pos d)
 have hl1 : decide (160 - (T.length : Int) ≤ 0) = false := decide_eq_false hl
 have HR := qh hr
 have HE := qh HE
 have HE0 := qh HE0
 clear h hcap hr hl
 go_enter Tryd.func71, Tryd.ntmps71
 go_upto_region 4 with (go_at_call 46; go_must (refine (next_any (n := 30) H.out (by decide) (by decide)).mono ?_); rintro e w2 ⟨rfl, hm, hk⟩; rw [HR.out]; obtain ⟨A0, sn, c0, v0, hb0, -⟩ := hm.m; have x3 := hb0.cell 3; have xlt := hb0.lt; simp only [GG] at x3; clear hb0; have HM2 := qh hm; have HK2 := qh hk; clear hm hk)
 clear hl1 x3 hd1
 go_wp2_with (first | (go_at_call 48; obtain ⟨hgood, hxp⟩ := HM3.out.good.x (d := (d : Int) + 1) (op := 10) (n := 0) (s := ⟨#[]⟩) (kids := [r3]) ((Xs.nil_ _ _).snoc ((HP3.out).le (by omega))) (by omega) (by omega) (fun ks hl hk => by match ks, hl with | [a], _ => exact Good.neg_ a (hk a (by simp))); go_must (refine (madd_lit HM3.out [r3] rfl rfl rfl (by simp) 10 0 ⟨#[]⟩ hgood (by have h0 := HC.out; have hb := HB1.out; have h3 := HX3.out; (try simp only [LL]); omega)).mono ?_); rintro e w4 ⟨r4, rfl, hr4, hm, hk⟩; rw [← hr4] at hxp; have HM4 := qh hm.assoc; have HK4 := qh (HK3.out.trans hk); have HP4 := qh hxp.assoc; clear hm hk hgood hxp hr4) | (go_at_call 71; go_must (refine (HE.out.run HM2.out (by have h0 := HC.out; have hb := HB1.out; (try simp only [LL]); omega)).mono ?_); rintro e w3 ⟨r3, at3, X3, rfl, hm, hk, hx, hp⟩; have HM3 := qh hm; have HK3 := qh (HK2.out.trans hk); have HX3 := qh hx; have HP3 := qh hp; clear hm hk hx hp))
 go_ret
 exact ⟨_, _, (X3 ++ [⟨10, 0, ⟨#[]⟩, 0, [r3]⟩]), rfl, HM4.out, HK4.out, (by have hb := HB1.out; have h3 := HX3.out;  simp only [ebound, LL]; omega), HP4.out.le (by omega)⟩
theorem mexpr_14free {k : Int} (hk : k = 14 ∨ k = 15) {d : Nat} (hd : d ≤ 9) (HE : EX d) (HE0 : EX 0) {B mb at_ : Nat} {F : Nat → Prop} {S : List Int} {T : List NodeD} {w : World} (h : Mk B mb F S at_ T w) (hcap : T.length + ebound (d + 1) ≤ 549755813888) (hl : ¬ 160 - (T.length : Int) ≤ 0) (hr : nextV S at_ 30 = k) : Calls Tryd.prog 71 #[.pointer (some ⟨mb, 0, none⟩), .int .i64 ((d : Int) + 1)] w (ExP B mb F S w T (ebound (d + 1)) (((d : Int) + 1) + 1)) := by
 rcases hk with rfl | rfl
 all_goals
  unfold ExP
  have H := qh h
  have hd1 : decide ((d : Int) + 1 ≤ 0) = false := decide_eq_false (by omega)
  have hdd : ((d : Int) + 1 == 0) = false := by rw [beq_eq_false_iff_ne]; omega
  have HC : Hid (T.length + (3 * ebound d + 4) ≤ 549755813888) := qh hcap
  have HB1 := qh (ebound_pos d)
  have hl1 : decide (160 - (T.length : Int) ≤ 0) = false := decide_eq_false hl
  have HR := qh hr
  have HE := qh HE
  have HE0 := qh HE0
  clear h hcap hr hl
  go_enter Tryd.func71, Tryd.ntmps71
  go_upto_region 4 with (go_at_call 46; go_must (refine (next_any (n := 30) H.out (by decide) (by decide)).mono ?_); rintro e w2 ⟨rfl, hm, hk⟩; rw [HR.out]; obtain ⟨A0, sn, c0, v0, hb0, -⟩ := hm.m; have x3 := hb0.cell 3; have xlt := hb0.lt; simp only [GG] at x3; clear hb0; have HM2 := qh hm; have HK2 := qh hk; clear hm hk)
  clear hl1 x3 hd1
  go_wp2_with (first | (go_at_call 48; obtain ⟨hgood, hxp⟩ := HM3.out.good.x (d := (d : Int) + 1) (op := 7) (n := 0) (s := ⟨#[]⟩) (kids := kids) HXs.out (by omega) (by omega) (fun ks hl hk => Good.list_ ks hk (by have := HKL.out; omega)); go_must (refine (madd_own HM3.out HO3.out rfl rfl (by have := HKL.out; omega) 7 0 ⟨#[]⟩ hgood (by have h0 := HC.out; have hb := HB1.out; have h3 := HX3.out; (try simp only [LL]); omega)).mono ?_); rintro e w4 ⟨r4, rfl, hr4, hm, hk⟩; rw [← hr4] at hxp; have HM4 := qh hm.assoc; have HK4 := qh (HK3.out.trans hk); have HP4 := qh hxp.assoc; clear hm hk hgood hxp hr4) | (go_at_call 92; go_must (refine (mrow4 HE.out hd HM2.out (by have h0 := HC.out; have hb := HB1.out; (try simp only [LL]); omega)).mono ?_); rintro e w3 ⟨v, kids, at3, X3, rfl, ho, hnw, hkl, hm, hk, hx, hxs⟩; obtain ⟨A3, c3, rfl, -, -⟩ := Own.rd ho; have HO3 := qh ho; have HKL := qh hkl; have HM3 := qh hm; have HK3 := qh (HK2.out.trans hk); have HX3 := qh hx; have HXs := qh hxs; clear ho hnw hkl hm hk hx hxs))
  go_ret
  exact ⟨_, _, (X3 ++ [⟨7, 0, ⟨#[]⟩, 0, kids⟩]), rfl, HM4.out.less fun k hk => .inl hk, HK4.out, (by have hb := HB1.out; have h3 := HX3.out;  simp only [ebound, LL]; omega), HP4.out.le (by omega)⟩
theorem mexpr_16free {d : Nat} (hd : d ≤ 9) (HE : EX d) (HE0 : EX 0) {B mb at_ : Nat} {F : Nat → Prop} {S : List Int} {T : List NodeD} {w : World} (h : Mk B mb F S at_ T w) (hcap : T.length + ebound (d + 1) ≤ 549755813888) (hl : ¬ 160 - (T.length : Int) ≤ 0) (hr : nextV S at_ 30 = 16) : Calls Tryd.prog 71 #[.pointer (some ⟨mb, 0, none⟩), .int .i64 ((d : Int) + 1)] w (ExP B mb F S w T (ebound (d + 1)) (((d : Int) + 1) + 1)) := by
 unfold ExP
 have H := qh h
 have hd1 : decide ((d : Int) + 1 ≤ 0) = false := decide_eq_false (by omega)
 have hdd : ((d : Int) + 1 == 0) = false := by rw [beq_eq_false_iff_ne]; omega
 have HC : Hid (T.length + (3 * ebound d + 4) ≤ 549755813888) := qh hcap
 have HB1 := qh (ebound_pos d)
 have hl1 : decide (160 - (T.length : Int) ≤ 0) = false := decide_eq_false hl
 have HR := qh hr
 have HE := qh HE
 have HE0 := qh HE0
 clear h hcap hr hl
 go_enter Tryd.func71, Tryd.ntmps71
 go_upto_region 4 with (go_at_call 46; go_must (refine (next_any (n := 30) H.out (by decide) (by decide)).mono ?_); rintro e w2 ⟨rfl, hm, hk⟩; rw [HR.out]; obtain ⟨A0, sn, c0, v0, hb0, -⟩ := hm.m; have x3 := hb0.cell 3; have xlt := hb0.lt; simp only [GG] at x3; clear hb0; have HM2 := qh hm; have HK2 := qh hk; clear hm hk)
 clear hl1 x3 hd1
 go_wp2_with (first | (go_at_call 48; obtain ⟨hgood, hxp⟩ := HM3.out.good.x (d := (d : Int) + 1) (op := 8) (n := 0) (s := ⟨#[]⟩) (kids := kids) HXs.out (by omega) (by omega) (fun ks hl hk => Good.tuple_ ks hk (by have := HKL.out; omega)); go_must (refine (madd_own HM3.out HO3.out rfl rfl (by have := HKL.out; omega) 8 0 ⟨#[]⟩ hgood (by have h0 := HC.out; have hb := HB1.out; have h3 := HX3.out; (try simp only [LL]); omega)).mono ?_); rintro e w4 ⟨r4, rfl, hr4, hm, hk⟩; rw [← hr4] at hxp; have HM4 := qh hm.assoc; have HK4 := qh (HK3.out.trans hk); have HP4 := qh hxp.assoc; clear hm hk hgood hxp hr4) | (go_at_call 92; go_must (refine (mrow3 HE.out hd HM2.out (by have h0 := HC.out; have hb := HB1.out; (try simp only [LL]); omega)).mono ?_); rintro e w3 ⟨v, kids, at3, X3, rfl, ho, hnw, hkl, hm, hk, hx, hxs⟩; obtain ⟨A3, c3, rfl, -, -⟩ := Own.rd ho; have HO3 := qh ho; have HKL := qh hkl; have HM3 := qh hm; have HK3 := qh (HK2.out.trans hk); have HX3 := qh hx; have HXs := qh hxs; clear ho hnw hkl hm hk hx hxs))
 go_ret
 exact ⟨_, _, (X3 ++ [⟨8, 0, ⟨#[]⟩, 0, kids⟩]), rfl, HM4.out.less fun k hk => .inl hk, HK4.out, (by have hb := HB1.out; have h3 := HX3.out;  simp only [ebound, LL]; omega), HP4.out.le (by omega)⟩
theorem mexpr_27free {d : Nat} (hd : d ≤ 9) (HE : EX d) (HE0 : EX 0) {B mb at_ : Nat} {F : Nat → Prop} {S : List Int} {T : List NodeD} {w : World} (h : Mk B mb F S at_ T w) (hcap : T.length + ebound (d + 1) ≤ 549755813888) (hl : ¬ 160 - (T.length : Int) ≤ 0) (hr : nextV S at_ 30 = 27) : Calls Tryd.prog 71 #[.pointer (some ⟨mb, 0, none⟩), .int .i64 ((d : Int) + 1)] w (ExP B mb F S w T (ebound (d + 1)) (((d : Int) + 1) + 1)) := by
 unfold ExP
 have H := qh h
 have hd1 : decide ((d : Int) + 1 ≤ 0) = false := decide_eq_false (by omega)
 have hdd : ((d : Int) + 1 == 0) = false := by rw [beq_eq_false_iff_ne]; omega
 have HC : Hid (T.length + (3 * ebound d + 4) ≤ 549755813888) := qh hcap
 have HB1 := qh (ebound_pos d)
 have hl1 : decide (160 - (T.length : Int) ≤ 0) = false := decide_eq_false hl
 have HR := qh hr
 have HE := qh HE
 have HE0 := qh HE0
 clear h hcap hr hl
 go_enter Tryd.func71, Tryd.ntmps71
 go_upto_region 4 with (go_at_call 46; go_must (refine (next_any (n := 30) H.out (by decide) (by decide)).mono ?_); rintro e w2 ⟨rfl, hm, hk⟩; rw [HR.out]; obtain ⟨A0, sn, c0, v0, hb0, -⟩ := hm.m; have x3 := hb0.cell 3; have xlt := hb0.lt; simp only [GG] at x3; clear hb0; have HM2 := qh hm; have HK2 := qh hk; clear hm hk)
 clear hl1 x3 hd1
 go_upto_region 61 with (first | (go_at_call 71; go_must (refine (HE.out.run HM2.out (by have h0 := HC.out; have hb := HB1.out; (try simp only [LL]); omega)).mono ?_); rintro e w3 ⟨r3, at3, X3, rfl, hm, hk, hx, hp⟩; have HM3 := qh hm; have HK3 := qh (HK2.out.trans hk); have HX3 := qh hx; have HP3 := qh hp; clear hm hk hx hp))
 go_upto_region 62 with (first | (go_at_call 71; go_must (refine (HE0.out.zero HM3.out (by have h0 := HC.out; have hb := HB1.out; have h3 := HX3.out; (try simp only [LL]); omega)).mono ?_); rintro e w4 ⟨r4, at4, X4, rfl, hm, hk, hx, hp⟩; have HM4 := qh hm.assoc; have HK4 := qh (HK3.out.trans hk); have HX4 := qh hx; have HP4 := qh hp.assoc; clear hm hk hx hp))
 go_wp2_with (first | (go_at_call 48; have hg0 := HP5.out; clear hg0; obtain ⟨hgood, hxp⟩ := HM5.out.good.x (d := (d : Int) + 1) (op := 20) (n := 0) (s := ⟨#[]⟩) (kids := [r3, r4, r5]) ((((Xs.nil_ _ _).snoc ((HP3.out.up.up).le (by omega))).snoc ((HP4.out.up).le (by omega))).snoc ((HP5.out).le (by omega))) (by omega) (by omega) (fun ks hl hk => by match ks, hl with | [a, b, c], _ => exact Good.slice_ a b c (hk a (by simp)) (hk b (by simp)) (hk c (by simp))); go_must (refine (madd_lit HM5.out [r3, r4, r5] rfl rfl rfl (by simp) 20 0 ⟨#[]⟩ hgood (by have h0 := HC.out; have hb := HB1.out; have h3 := HX3.out; have h4 := HX4.out; (try simp only [LL]); omega)).mono ?_); rintro e w6 ⟨r6, rfl, hr6, hm, hk⟩; rw [← hr6] at hxp; have HM6 := qh hm.assoc; have HK6 := qh (HK5.out.trans hk); have HP6 := qh hxp.assoc; clear hm hk hgood hxp hr6) | (go_at_call 48; obtain ⟨hgood, hxp⟩ := HM4.out.good.x (d := 0) (op := 1) (n := 0) (s := ⟨#[]⟩) (Xs.nil_ _ 0) (by decide) (by decide) (fun ks hl hk => by match ks, hl with | [], _ => exact Good.none_); go_must (refine (madd_none HM4.out 1 0 ⟨#[]⟩ hgood (by have h0 := HC.out; have hb := HB1.out; have h3 := HX3.out; have h4 := HX4.out; (try simp only [LL]); omega)).mono ?_); rintro e w5 ⟨r5, rfl, hr5, hm, hk⟩; rw [← hr5] at hxp; have HM5 := qh hm.assoc; have HK5 := qh (HK4.out.trans hk); have HP5 := qh hxp.assoc; clear hm hk hgood hxp hr5))
 go_ret
 exact ⟨_, _, (((X3 ++ X4) ++ [⟨1, 0, ⟨#[]⟩, 0, []⟩]) ++ [⟨20, 0, ⟨#[]⟩, 0, [r3, r4, r5]⟩]), rfl, HM6.out, HK6.out, (by have hb := HB1.out; have h3 := HX3.out; have h4 := HX4.out;  simp only [ebound, LL]; omega), HP6.out.le (by omega)⟩
theorem mexpr_28free {d : Nat} (hd : d ≤ 9) (HE : EX d) (HE0 : EX 0) {B mb at_ : Nat} {F : Nat → Prop} {S : List Int} {T : List NodeD} {w : World} (h : Mk B mb F S at_ T w) (hcap : T.length + ebound (d + 1) ≤ 549755813888) (hl : ¬ 160 - (T.length : Int) ≤ 0) (hr : nextV S at_ 30 = 28) : Calls Tryd.prog 71 #[.pointer (some ⟨mb, 0, none⟩), .int .i64 ((d : Int) + 1)] w (ExP B mb F S w T (ebound (d + 1)) (((d : Int) + 1) + 1)) := by
 unfold ExP
 have H := qh h
 have hd1 : decide ((d : Int) + 1 ≤ 0) = false := decide_eq_false (by omega)
 have hdd : ((d : Int) + 1 == 0) = false := by rw [beq_eq_false_iff_ne]; omega
 have HC : Hid (T.length + (3 * ebound d + 4) ≤ 549755813888) := qh hcap
 have HB1 := qh (ebound_pos d)
 have hl1 : decide (160 - (T.length : Int) ≤ 0) = false := decide_eq_false hl
 have HR := qh hr
 have HE := qh HE
 have HE0 := qh HE0
 clear h hcap hr hl
 go_enter Tryd.func71, Tryd.ntmps71
 go_upto_region 4 with (go_at_call 46; go_must (refine (next_any (n := 30) H.out (by decide) (by decide)).mono ?_); rintro e w2 ⟨rfl, hm, hk⟩; rw [HR.out]; obtain ⟨A0, sn, c0, v0, hb0, -⟩ := hm.m; have x3 := hb0.cell 3; have xlt := hb0.lt; simp only [GG] at x3; clear hb0; have HM2 := qh hm; have HK2 := qh hk; clear hm hk)
 clear hl1 x3 hd1
 go_upto_region 65 with (first | (go_at_call 71; go_must (refine (HE.out.run HM2.out (by have h0 := HC.out; have hb := HB1.out; (try simp only [LL]); omega)).mono ?_); rintro e w3 ⟨r3, at3, X3, rfl, hm, hk, hx, hp⟩; have HM3 := qh hm; have HK3 := qh (HK2.out.trans hk); have HX3 := qh hx; have HP3 := qh hp; clear hm hk hx hp))
 go_upto_region 66 with (first | (go_at_call 71; go_must (refine (HE.out.run HM3.out (by have h0 := HC.out; have hb := HB1.out; have h3 := HX3.out; (try simp only [LL]); omega)).mono ?_); rintro e w4 ⟨r4, at4, X4, rfl, hm, hk, hx, hp⟩; have HM4 := qh hm.assoc; have HK4 := qh (HK3.out.trans hk); have HX4 := qh hx; have HP4 := qh hp.assoc; clear hm hk hx hp))
 go_wp2_with (first | (go_at_call 48; obtain ⟨hgood, hxp⟩ := HM5.out.good.x (d := (d : Int) + 1) (op := 16) (n := 0) (s := ⟨#[]⟩) (kids := [r3, r4, r5]) ((((Xs.nil_ _ _).snoc ((HP3.out.up.up).le (by omega))).snoc ((HP4.out.up).le (by omega))).snoc ((HP5.out).le (by omega))) (by omega) (by omega) (fun ks hl hk => by match ks, hl with | [a, b, c], _ => exact Good.if_ a b c (hk a (by simp)) (hk b (by simp)) (hk c (by simp))); go_must (refine (madd_lit HM5.out [r3, r4, r5] rfl rfl rfl (by simp) 16 0 ⟨#[]⟩ hgood (by have h0 := HC.out; have hb := HB1.out; have h3 := HX3.out; have h4 := HX4.out; have h5 := HX5.out; (try simp only [LL]); omega)).mono ?_); rintro e w6 ⟨r6, rfl, hr6, hm, hk⟩; rw [← hr6] at hxp; have HM6 := qh hm.assoc; have HK6 := qh (HK5.out.trans hk); have HP6 := qh hxp.assoc; clear hm hk hgood hxp hr6) | (go_at_call 71; go_must (refine (HE.out.run HM4.out (by have h0 := HC.out; have hb := HB1.out; have h3 := HX3.out; have h4 := HX4.out; (try simp only [LL]); omega)).mono ?_); rintro e w5 ⟨r5, at5, X5, rfl, hm, hk, hx, hp⟩; have HM5 := qh hm.assoc; have HK5 := qh (HK4.out.trans hk); have HX5 := qh hx; have HP5 := qh hp.assoc; clear hm hk hx hp))
 go_ret
 exact ⟨_, _, (((X3 ++ X4) ++ X5) ++ [⟨16, 0, ⟨#[]⟩, 0, [r3, r4, r5]⟩]), rfl, HM6.out, HK6.out, (by have hb := HB1.out; have h3 := HX3.out; have h4 := HX4.out; have h5 := HX5.out;  simp only [ebound, LL]; omega), HP6.out.le (by omega)⟩
end
end Go.Proofs.YtjdcicopjipmnaaDoor
