/- The maker: expr: a lambda, calls, dicts. The maker: expr: dicts, attributes. -/
import Derived.Test.YtjdcicopjipmnaaDoorZam
namespace Go.Proofs.YtjdcicopjipmnaaDoor
set_option maxRecDepth 100000
set_option maxHeartbeats 8000000
section
open Go.RowKit
set_option linter.unusedVariables false
set_option linter.unusedSimpArgs false
theorem lam_node {T X : List NodeD} {s : ByteArray} {d r4 r5 : Int} (h : GoodT (T ++ ([(⟨22, 0, s, 0, []⟩ : NodeD)] ++ X))) (hs : NameOk s) (h4 : r4 = (T.length : Int)) (hx : Xp (T ++ ([(⟨22, 0, s, 0, []⟩ : NodeD)] ++ X)) d r5) (hd : 1 ≤ d) (hd2 : d ≤ 11) :
  GoodT (T ++ ([(⟨22, 0, s, 0, []⟩ : NodeD)] ++ X) ++ [⟨21, 0, ⟨#[]⟩, 0, [r4, r5]⟩]) ∧ Xp (T ++ ([(⟨22, 0, s, 0, []⟩ : NodeD)] ++ X) ++ [⟨21, 0, ⟨#[]⟩, 0, [r4, r5]⟩]) (d + 1) (T ++ ([(⟨22, 0, s, 0, []⟩ : NodeD)] ++ X)).length := by
 subst h4
 obtain ⟨k, e, rfl, h1, h2, h3⟩ := hx
 have hp : RdTr (T ++ ([(⟨22, 0, s, 0, []⟩ : NodeD)] ++ X)) T.length (.mk 22 0 s []) := RdTr.mk (x := ⟨22, 0, s, 0, []⟩) (by rw [List.getElem?_append_right (Nat.le_refl _), Nat.sub_self]; rfl) .nil
 have hr := RdTr.new (T := T ++ ([(⟨22, 0, s, 0, []⟩ : NodeD)] ++ X)) (x := ⟨21, 0, ⟨#[]⟩, 0, [(T.length : Int), (k : Int)]⟩) (.cons hp.lt hp (.cons h1.lt h1 .nil))
 have hdp : Tr.dep (.mk 21 0 ⟨#[]⟩ [.mk 22 0 s [], e]) ≤ d + 1 := by
  simp only [Tr.dep, Tr.depm]
  omega
 have hgd : Good (.mk 21 0 ⟨#[]⟩ [.mk 22 0 s [], e]) := .lambda_ s e hs.1 hs.2 h2
 exact ⟨h.snoc fun _ _ => ⟨.mk 21 0 ⟨#[]⟩ [.mk 22 0 s [], e], hr, hgd, Int.le_trans hdp (by omega)⟩, _, .mk 21 0 ⟨#[]⟩ [.mk 22 0 s [], e], rfl, hr, hgd, hdp⟩
theorem Xs.cat {T : List NodeD} {d : Int} {l l' : List Int} (h : Xs T d l) (h' : Xs T d l') : Xs T d (l ++ l') := by
 obtain ⟨ks, h1, h2⟩ := h
 obtain ⟨ks', h3, h4⟩ := h'
 exact ⟨ks ++ ks', h1.app h3, fun k hk => by
  rcases List.mem_append.1 hk with hk | hk
  ·exact h2 k hk
  ·exact h4 k hk⟩
theorem OwnI.lit (w : World) (r : Int) : OwnI (w.alloc (.cells #[.int .i64 r] 3)) (.slice (some ⟨w.heap.size, 0, none⟩) 1 1) [r] := Own.made (t := 3) (sz := 1) w #[.int .i64 r] 1 (by decide) rfl
theorem Mk.lit {B mb at_ : Nat} {F : Nat → Prop} {S : List Int} {T : List NodeD} {w : World} (h : Mk B mb F S at_ T w) (o : Obj) : Mk B mb (fun k => F k ∨ (Value.slice (some ⟨w.heap.size, 0, none⟩) 1 1).ownBlock = some k) S at_ T (w.alloc o) := by
 have key : ∀ k, (Value.slice (some ⟨w.heap.size, 0, none⟩) 1 1).ownBlock = some k → k = w.heap.size := fun k e => by
  have e2 : w.heap.size = k := by simpa [Value.ownBlock] using e
  omega
 refine h.belF (Below.alloc (Below.refl _ _) (Nat.le_refl _) _) (fun k hk => ?_) fun k hk => ?_
 ·rcases hk with hk | hk
  ·exact .inl hk
  ·exact .inr (by rw [key k hk]; exact Nat.le_refl _)
 ·rw [World.size_alloc]
  rcases hk with hk | hk
  ·have := h.fl k hk; omega
  ·rw [key k hk]; omega
theorem lit_ge {w : World} {m : Nat} (h : m ≤ w.heap.size) : ∀ b, (Value.slice (some ⟨w.heap.size, 0, none⟩) 1 1).ownBlock = some b → m ≤ b := fun b e => by
 have e2 : w.heap.size = b := by simpa [Value.ownBlock] using e
 omega
theorem mexpr_29free {d : Nat} (hd : d ≤ 9) (HE : EX d) (HE0 : EX 0) {B mb at_ : Nat} {F : Nat → Prop} {S : List Int} {T : List NodeD} {w : World} (h : Mk B mb F S at_ T w) (hcap : T.length + ebound (d + 1) ≤ 549755813888) (hl : ¬ 160 - (T.length : Int) ≤ 0) (hr : nextV S at_ 30 = 29) : Calls Tryd.prog 71 #[.pointer (some ⟨mb, 0, none⟩), .int .i64 ((d : Int) + 1)] w (ExP B mb F S w T (ebound (d + 1)) (((d : Int) + 1) + 1)) := by
 unfold ExP
 have H := qh h
 have hd1 : decide ((d : Int) + 1 ≤ 0) = false := decide_eq_false (by omega)
 have hdd : ((d : Int) + 1 == 0) = false := by rw [beq_eq_false_iff_ne]; omega
 have HC : Hid (T.length + (3 * ebound d + 4) ≤ 549755813888) := qh hcap
 have HB1 := qh (ebound_pos d)
 have hl1 : decide (160 - (T.length : Int) ≤ 0) = false := decide_eq_false hl
 have HR := qh hr
 have HE := qh HE
 have HE0 := qh HE0
 clear h hcap hr hl
 go_enter Tryd.func71, Tryd.ntmps71
 go_upto_region 4 with (go_at_call 46; go_must (refine (next_any (n := 30) H.out (by decide) (by decide)).mono ?_); rintro e w2 ⟨rfl, hm, hk⟩; rw [HR.out]; obtain ⟨A0, sn, c0, v0, hb0, -⟩ := hm.m; have x3 := hb0.cell 3; have xlt := hb0.lt; simp only [GG] at x3; clear hb0; have HM2 := qh hm; have HK2 := qh hk; clear hm hk)
 clear hl1 x3 hd1
 go_upto_region 68 with (first | (go_at_call 48; go_must (refine (madd_none HM3.out 22 0 s (HM3.out.good.o (.inl rfl)) (by have h0 := HC.out; have hb := HB1.out; (try simp only [LL]); omega)).mono ?_); rintro e w4 ⟨r4, rfl, hr4, hm, hk⟩; have HM4 := qh hm; have HK4 := qh (HK3.out.trans hk); have HR4 := qh hr4; clear hm hk hr4) | (go_at_call 90; go_must (refine (mname_any HM2.out).mono ?_); rintro e w3 ⟨s, rfl, hs, hm, hk⟩; have HS := qh hs; have HM3 := qh hm; have HK3 := qh (HK2.out.trans hk); clear hm hk hs))
 go_wp2_with (first | (go_at_call 48; obtain ⟨hgood, hxp⟩ := lam_node HM5.out.good HS.out HR4.out HP5.out (by omega) (by omega); go_must (refine (madd_lit HM5.out [r4, r5] rfl rfl rfl (by simp) 21 0 ⟨#[]⟩ hgood (by have h0 := HC.out; have hb := HB1.out; have h5 := HX5.out; (try simp only [LL]); omega)).mono ?_); rintro e w6 ⟨r6, rfl, hr6, hm, hk⟩; rw [← hr6] at hxp; have HM6 := qh hm.assoc; have HK6 := qh (HK5.out.trans hk); have HP6 := qh hxp.assoc; clear hm hk hgood hxp hr6) | (go_at_call 71; go_must (refine (HE.out.run HM4.out (by have h0 := HC.out; have hb := HB1.out; (try simp only [LL]); omega)).mono ?_); rintro e w5 ⟨r5, at5, X5, rfl, hm, hk, hx, hp⟩; have HM5 := qh hm.assoc; have HK5 := qh (HK4.out.trans hk); have HX5 := qh hx; have HP5 := qh hp.assoc; clear hm hk hx hp))
 go_ret
 exact ⟨_, _, (([⟨22, 0, s, 0, []⟩] ++ X5) ++ [⟨21, 0, ⟨#[]⟩, 0, [r4, r5]⟩]), rfl, HM6.out, HK6.out, (by have hb := HB1.out; have h5 := HX5.out;  simp only [ebound, LL]; omega), HP6.out.le (by omega)⟩
theorem mexpr_18free {k : Int} (hk : k = 18 ∨ k = 19 ∨ k = 20 ∨ k = 21) {d : Nat} (hd : d ≤ 9) (HE : EX d) (HE0 : EX 0) {B mb at_ : Nat} {F : Nat → Prop} {S : List Int} {T : List NodeD} {w : World} (h : Mk B mb F S at_ T w) (hcap : T.length + ebound (d + 1) ≤ 549755813888) (hl : ¬ 160 - (T.length : Int) ≤ 0) (hr : nextV S at_ 30 = k) : Calls Tryd.prog 71 #[.pointer (some ⟨mb, 0, none⟩), .int .i64 ((d : Int) + 1)] w (ExP B mb F S w T (ebound (d + 1)) (((d : Int) + 1) + 1)) := by
 rcases hk with rfl | rfl | rfl | rfl
 all_goals
  unfold ExP
  have H := qh h
  have hd1 : decide ((d : Int) + 1 ≤ 0) = false := decide_eq_false (by omega)
  have hdd : ((d : Int) + 1 == 0) = false := by rw [beq_eq_false_iff_ne]; omega
  have HC : Hid (T.length + (3 * ebound d + 4) ≤ 549755813888) := qh hcap
  have HB1 := qh (ebound_pos d)
  have hl1 : decide (160 - (T.length : Int) ≤ 0) = false := decide_eq_false hl
  have HR := qh hr
  have HE := qh HE
  have HE0 := qh HE0
  clear h hcap hr hl
  go_enter Tryd.func71, Tryd.ntmps71
  go_upto_region 4 with (go_at_call 46; go_must (refine (next_any (n := 30) H.out (by decide) (by decide)).mono ?_); rintro e w2 ⟨rfl, hm, hk⟩; rw [HR.out]; obtain ⟨A0, sn, c0, v0, hb0, -⟩ := hm.m; have x3 := hb0.cell 3; have xlt := hb0.lt; simp only [GG] at x3; clear hb0; have HM2 := qh hm; have HK2 := qh hk; clear hm hk)
  clear hl1 x3 hd1
  go_upto_region 49 with (first | (go_at_call 48; obtain ⟨hgood, hxp⟩ := HM3.out.good.x (d := 0) (op := 6) (n := 0) (s := s) (Xs.nil_ _ 0) (by decide) (by decide) (fun ks hl hk => by match ks, hl with | [], _ => exact Good.name_ s (names_ok (l := [⟨#[102]⟩, ⟨#[103]⟩, ⟨#[75]⟩]) (by decide +kernel) s HS.out).1 (names_ok (l := [⟨#[102]⟩, ⟨#[103]⟩, ⟨#[75]⟩]) (by decide +kernel) s HS.out).2); go_must (refine (madd_none HM3.out 6 0 s hgood (by have h0 := HC.out; have hb := HB1.out; (try simp only [LL]); omega)).mono ?_); rintro e w4 ⟨r4, rfl, hr4, hm, hk⟩; rw [← hr4] at hxp; have HM4 := qh hm; have HK4 := qh (HK3.out.trans hk); have HP4 := qh hxp; clear hm hk hgood hxp hr4) | (go_at_call 46; go_must (refine (next_any (n := 3) (HM2.out.alloc _) (by decide) (by decide)).mono ?_); rintro e w3 ⟨rfl, hm, hk⟩; obtain ⟨q, hq, hq8⟩ := nat_of (nextV_ok S (nextA S at_) (n := 3) (by decide)); rw [hq]; obtain ⟨s, hs, hc⟩ := pick_kp (l := [⟨#[102]⟩, ⟨#[103]⟩, ⟨#[75]⟩]) (Blk.new w2 9 _) (HM2.out.alloc _) hk (r := q) (by show q < 3; omega); have hq88 : q < 3 := (by omega); have hlt : w2.heap.size < w3.heap.size := kp_lt hk; have HM3 := qh hm; have HK3 := qh (HK2.out.trans ((Kp.alloc B mb w2 _).trans hk)); have HS := qh hs; clear hm hk hq hs))
  go_wp2_with (first | (go_at_call 48; have hxg := (Xs.one ((HP4.out.up (Y := X5)).le (show (0 : Int) + 1 ≤ (d : Int) + 1 by omega))).cat HXs.out; rw [HG6.out] at hxg; obtain ⟨hgood, hxp⟩ := HM6.out.good.x (d := (d : Int) + 1) (op := 17) (n := 0) (s := ⟨#[]⟩) (kids := G) hxg (by omega) (by omega) (fun ks hl hk => by match ks, hl with | [], hl => (rw [← HG6.out] at hl; simp at hl) | f :: ks, hl => exact Good.call_ f ks (hk f (by simp)) (fun k h => hk k (by simp [h])) (by have h1 := HKL.out; rw [← HG6.out] at hl; simp only [LL] at hl; omega)); go_must (refine (madd_own HM6.out HO6.out rfl rfl (by have := HKL.out; rw [← HG6.out]; simp only [LL]; omega) 17 0 ⟨#[]⟩ hgood (by have h0 := HC.out; have hb := HB1.out; have h5 := HX5.out; (try simp only [LL]); omega)).mono ?_); rintro e w7 ⟨r7, rfl, hr7, hm, hk⟩; rw [← hr7] at hxp; have HM7 := qh hm.assoc; have HK7 := qh (HK6.out.trans hk); have HP7 := qh hxp.assoc; clear hm hk hgood hxp hr7 hxg) | (at_builtin; go_must (refine wpList_appendN _ rfl _ _ rfl (Value.slice (some ⟨w4.heap.size, 0, none⟩) 1 1) [r4] rfl (OwnI.bel HL5.out (by exact bl0)) A5 kids.length c5 kids rfl (HR5.out.bel (by exact bl0)) rfl (by have := HKL.out; simp only [List.length_cons, List.length_nil]; omega) ?_); intro v6 w6 ho6 hg6 hn6; generalize hG : [r4] ++ kids = G at ho6; have HG6 := qh hG; obtain ⟨A6, c6, e6, -, -⟩ := Own.rd ho6; subst e6; have HM6 := qh (HM5.out.grown (by exact bl0) HL5.out (lit_ge HM4.out.wB) hg6 hn6 (fun b e => Own.lt ho6 e)); have HK6 := qh (HK5.out.grown hg6 (lit_ge HK4.out.size)); have HO6 := qh ho6; clear hG ho6 hg6 hn6) | (go_at_call 92; go_must (refine (mrow3 HE.out hd (HM4.out.lit _) (by have h0 := HC.out; have hb := HB1.out; (try simp only [LL]); omega)).mono ?_); rintro e w5 ⟨v, kids, at5, X5, rfl, ho, hnw, hkl, hm, hk, hx, hxs⟩; obtain ⟨A5, c5, e5, hr5, -⟩ := Own.rd ho; subst e5; have HL5 := qh ((OwnI.lit w4 r4).kp (HM4.out.lit _) hk); have HR5 := qh hr5; have HKL := qh hkl; have HM5 := qh (hm.assoc.less fun k hk => Or.inl hk); have HK5 := qh (HK4.out.trans ((Kp.alloc B mb w4 _).trans hk)); have HX5 := qh hx; have HXs := qh hxs.assoc; clear ho hnw hkl hm hk hx hxs hr5))
  go_ret
  exact ⟨_, _, (([⟨6, 0, s, 0, []⟩] ++ X5) ++ [⟨17, 0, ⟨#[]⟩, 0, G⟩]), rfl, HM7.out.less fun k hk => .inl hk, HK7.out, (by have hb := HB1.out; have h5 := HX5.out;  simp only [ebound, LL]; omega), HP7.out.le (by omega)⟩
theorem mexpr_22free {k : Int} (hk : k = 22 ∨ k = 23) {d : Nat} (hd : d ≤ 9) (HE : EX d) (HE0 : EX 0) {B mb at_ : Nat} {F : Nat → Prop} {S : List Int} {T : List NodeD} {w : World} (h : Mk B mb F S at_ T w) (hcap : T.length + ebound (d + 1) ≤ 549755813888) (hl : ¬ 160 - (T.length : Int) ≤ 0) (hr : nextV S at_ 30 = k) : Calls Tryd.prog 71 #[.pointer (some ⟨mb, 0, none⟩), .int .i64 ((d : Int) + 1)] w (ExP B mb F S w T (ebound (d + 1)) (((d : Int) + 1) + 1)) := by
 rcases hk with rfl | rfl
 all_goals
  unfold ExP
  have H := qh h
  have hd1 : decide ((d : Int) + 1 ≤ 0) = false := decide_eq_false (by omega)
  have hdd : ((d : Int) + 1 == 0) = false := by rw [beq_eq_false_iff_ne]; omega
  have HC : Hid (T.length + (3 * ebound d + 4) ≤ 549755813888) := qh hcap
  have HB1 := qh (ebound_pos d)
  have hl1 : decide (160 - (T.length : Int) ≤ 0) = false := decide_eq_false hl
  have HR := qh hr
  have HE := qh HE
  have HE0 := qh HE0
  clear h hcap hr hl
  go_enter Tryd.func71, Tryd.ntmps71
  go_upto_region 4 with (go_at_call 46; go_must (refine (next_any (n := 30) H.out (by decide) (by decide)).mono ?_); rintro e w2 ⟨rfl, hm, hk⟩; rw [HR.out]; obtain ⟨A0, sn, c0, v0, hb0, -⟩ := hm.m; have x3 := hb0.cell 3; have xlt := hb0.lt; simp only [GG] at x3; clear hb0; have HM2 := qh hm; have HK2 := qh hk; clear hm hk)
  clear hl1 x3 hd1
  go_upto_region 53 with (first | (go_at_call 48; obtain ⟨hgood, hxp⟩ := HM3.out.good.x (d := 0) (op := 6) (n := 0) (s := s) (Xs.nil_ _ 0) (by decide) (by decide) (fun ks hl hk => by match ks, hl with | [], _ => exact Good.name_ s (HS.out).1 (HS.out).2); go_must (refine (madd_none HM3.out 6 0 s hgood (by have h0 := HC.out; have hb := HB1.out; (try simp only [LL]); omega)).mono ?_); rintro e w4 ⟨r4, rfl, hr4, hm, hk⟩; rw [← hr4] at hxp; have HM4 := qh hm; have HK4 := qh (HK3.out.trans hk); have HP4 := qh hxp; clear hm hk hgood hxp hr4) | (go_at_call 93; go_must (refine (mglobal_any HM2.out).mono ?_); rintro e w3 ⟨s, rfl, hs, hm, hk⟩; have HS := qh hs; have HM3 := qh hm; have HK3 := qh (HK2.out.trans hk); clear hm hk hs))
  go_wp2_with (first | (go_at_call 48; have hxg := (Xs.one ((HP4.out.up (Y := X5)).le (show (0 : Int) + 1 ≤ (d : Int) + 1 by omega))).cat HXs.out; rw [HG6.out] at hxg; obtain ⟨hgood, hxp⟩ := HM6.out.good.x (d := (d : Int) + 1) (op := 17) (n := 0) (s := ⟨#[]⟩) (kids := G) hxg (by omega) (by omega) (fun ks hl hk => by match ks, hl with | [], hl => (rw [← HG6.out] at hl; simp at hl) | f :: ks, hl => exact Good.call_ f ks (hk f (by simp)) (fun k h => hk k (by simp [h])) (by have h1 := HKL.out; rw [← HG6.out] at hl; simp only [LL] at hl; omega)); go_must (refine (madd_own HM6.out HO6.out rfl rfl (by have := HKL.out; rw [← HG6.out]; simp only [LL]; omega) 17 0 ⟨#[]⟩ hgood (by have h0 := HC.out; have hb := HB1.out; have h5 := HX5.out; (try simp only [LL]); omega)).mono ?_); rintro e w7 ⟨r7, rfl, hr7, hm, hk⟩; rw [← hr7] at hxp; have HM7 := qh hm.assoc; have HK7 := qh (HK6.out.trans hk); have HP7 := qh hxp.assoc; clear hm hk hgood hxp hr7 hxg) | (at_builtin; go_must (refine wpList_appendN _ rfl _ _ rfl (Value.slice (some ⟨w4.heap.size, 0, none⟩) 1 1) [r4] rfl (OwnI.bel HL5.out (by exact bl0)) A5 kids.length c5 kids rfl (HR5.out.bel (by exact bl0)) rfl (by have := HKL.out; simp only [List.length_cons, List.length_nil]; omega) ?_); intro v6 w6 ho6 hg6 hn6; generalize hG : [r4] ++ kids = G at ho6; have HG6 := qh hG; obtain ⟨A6, c6, e6, -, -⟩ := Own.rd ho6; subst e6; have HM6 := qh (HM5.out.grown (by exact bl0) HL5.out (lit_ge HM4.out.wB) hg6 hn6 (fun b e => Own.lt ho6 e)); have HK6 := qh (HK5.out.grown hg6 (lit_ge HK4.out.size)); have HO6 := qh ho6; clear hG ho6 hg6 hn6) | (go_at_call 92; go_must (refine (mrow3 HE.out hd (HM4.out.lit _) (by have h0 := HC.out; have hb := HB1.out; (try simp only [LL]); omega)).mono ?_); rintro e w5 ⟨v, kids, at5, X5, rfl, ho, hnw, hkl, hm, hk, hx, hxs⟩; obtain ⟨A5, c5, e5, hr5, -⟩ := Own.rd ho; subst e5; have HL5 := qh ((OwnI.lit w4 r4).kp (HM4.out.lit _) hk); have HR5 := qh hr5; have HKL := qh hkl; have HM5 := qh (hm.assoc.less fun k hk => Or.inl hk); have HK5 := qh (HK4.out.trans ((Kp.alloc B mb w4 _).trans hk)); have HX5 := qh hx; have HXs := qh hxs.assoc; clear ho hnw hkl hm hk hx hxs hr5))
  go_ret
  exact ⟨_, _, (([⟨6, 0, s, 0, []⟩] ++ X5) ++ [⟨17, 0, ⟨#[]⟩, 0, G⟩]), rfl, HM7.out.less fun k hk => .inl hk, HK7.out, (by have hb := HB1.out; have h5 := HX5.out;  simp only [ebound, LL]; omega), HP7.out.le (by omega)⟩
end
section
open Go.RowKit
set_option linter.unusedVariables false
set_option linter.unusedSimpArgs false
theorem pick_arr {l : List ByteArray} {r : Nat} (h : r < l.length) : ∃ s ∈ l, (l.map Value.string).toArray[r]? = some (.string s) := ⟨l[r], List.getElem_mem h, by simp [h]⟩
theorem ne_mb {B mb at_ : Nat} {F : Nat → Prop} {S : List Int} {T : List NodeD} {w : World} (h : Mk B mb F S at_ T w) {g : Nat} (hg : w.heap.size ≤ g) : ¬ g = mb := fun e => by have := h.lt; omega
theorem mexpr_17free {d : Nat} (hd : d ≤ 9) (HE : EX d) (HE0 : EX 0) {B mb at_ : Nat} {F : Nat → Prop} {S : List Int} {T : List NodeD} {w : World} (h : Mk B mb F S at_ T w) (hcap : T.length + ebound (d + 1) ≤ 549755813888) (hl : ¬ 160 - (T.length : Int) ≤ 0) (hr : nextV S at_ 30 = 17) : Calls Tryd.prog 71 #[.pointer (some ⟨mb, 0, none⟩), .int .i64 ((d : Int) + 1)] w (ExP B mb F S w T (ebound (d + 1)) (((d : Int) + 1) + 1)) := by
 unfold ExP
 have H := qh h
 have hd1 : decide ((d : Int) + 1 ≤ 0) = false := decide_eq_false (by omega)
 have hdd : ((d : Int) + 1 == 0) = false := by rw [beq_eq_false_iff_ne]; omega
 have HC : Hid (T.length + (3 * ebound d + 4) ≤ 549755813888) := qh hcap
 have HB1 := qh (ebound_pos d)
 have hl1 : decide (160 - (T.length : Int) ≤ 0) = false := decide_eq_false hl
 have HR := qh hr
 have HE := qh HE
 have HE0 := qh HE0
 clear h hcap hr hl
 go_enter Tryd.func71, Tryd.ntmps71
 go_upto_region 4 with (go_at_call 46; go_must (refine (next_any (n := 30) H.out (by decide) (by decide)).mono ?_); rintro e w2 ⟨rfl, hm, hk⟩; rw [HR.out]; obtain ⟨A0, sn, c0, v0, hb0, -⟩ := hm.m; have x3 := hb0.cell 3; have xlt := hb0.lt; simp only [GG] at x3; clear hb0; have HM2 := qh hm; have HK2 := qh hk; clear hm hk)
 clear hl1 x3 hd1
 go_wp2_with ((go_at_call 46; go_must (refine (next_any (n := 3) HM2.out (by decide) (by decide)).mono ?_); rintro e w3 ⟨rfl, hm, hk⟩; obtain ⟨q, hq, hq8⟩ := nat_of (nextV_ok S (nextA S at_) (n := 3) (by decide)); rw [hq]; have HM3 := qh hm; have HK3 := qh (HK2.out.trans hk); clear hm hk hq))
 have hq2 : q ≤ 2 := by omega
 clear hq8
 go_loopw [6, 8, 9] (fun v6 v8 v9 wr => ∃ (i at4 : Nat) (X : List NodeD) (A1 : Option Addr) (c1 : Nat) (M : List Int), i ≤ q ∧ v8 = .int .i64 i ∧ v6 = .slice A1 M.length c1 ∧ Hid (M.length = 2 * i) ∧ Hid (OwnI wr (.slice A1 M.length c1) M) ∧ Hid (∀ b, (Value.slice A1 M.length c1).ownBlock = some b → w.heap.size ≤ b) ∧ Hid (Mk B mb (fun k => F k ∨ (Value.slice A1 M.length c1).ownBlock = some k) S at4 (T ++ X) wr) ∧ Hid (Kp B mb w wr) ∧ Hid (X.length ≤ i * (1 + ebound d)) ∧ Hid (Xs (T ++ X) ((d : Int) + 1) M)) (fun _ v8 _ _ => q - (intOf v8).toNat)
 case atStart => exact ⟨0, _, [], none, 0, [], Nat.zero_le _, rfl, rfl, qh rfl, qh (OwnI.nil_ _), qh (fun b e => by cases e), qh (by rw [List.append_nil]; exact HM3.out.less fun k hk => hk.resolve_right (fun e => by cases e)), HK3, qh (by simp), qh (Xs.nil_ _ _)⟩
 case round =>
  obtain ⟨i, at4, X, A1, c1, M, hi, rfl, rfl, HMl, HO4, HNw, HM4, HK4, HX4, HXs⟩ := hrel
  clear HM3 HK3
  by_cases hlt : i < q
  ·have hml : M.length ≤ 2 := by have := HMl.out; omega
   have hmul : i * (1 + ebound d) ≤ 1 * (1 + ebound d) := Nat.mul_le_mul_right _ (by omega)
   have HMU := qh hmul
   clear hmul
   go_upto_region 41 with (go_at_call 71; go_must (refine (HE0.out.zero HM4.out (by have h0 := HC.out; have hb := HB1.out; have h4 := HX4.out; have h5 := HMU.out; rw [List.length_append]; omega)).mono ?_); rintro e w5 ⟨r5, at5, X5, rfl, hm, hk, hx, hp⟩; have HO5 := qh (HO4.out.kp HM4.out hk); have HM5 := qh hm.assoc; have HK5 := qh (HK4.out.trans hk); have HX5 := qh hx; have HP5 := qh hp.assoc; clear hm hk hx hp)
   go_upto_region 42 with (at_builtin; go_must (refine wpList_appendN _ rfl _ _ rfl (.slice A1 M.length c1) M rfl (OwnI.bel HO5.out (by exact bl1)) _ 1 1 [r5] rfl (Rd.intG rfl r5) rfl (by omega) ?_); intro v6 w6 ho6 hg6 hn6; generalize hG : M ++ [r5] = G at ho6; have HGl : Hid (G.length = 2 * i + 1) := qh (by rw [← hG, List.length_append, HMl.out]; rfl); have HXG : Hid (Xs (T ++ (X ++ X5)) ((d : Int) + 1) G) := qh (by rw [← hG]; exact HXs.out.up2.snoc (HP5.out.le (by omega))); obtain ⟨A2, c2, e6, -, -⟩ := Own.rd ho6; subst e6; have HM6 := qh (HM5.out.grown (by exact bl1) HO5.out (fun b e => Nat.le_trans H.out.wB (HNw.out b e)) hg6 hn6 (fun b e => Own.lt ho6 e)); have HK6 := qh ((HK5.out.trans (Kp.alloc B mb _ _)).grown hg6 HNw.out); have HN6 : Hid (∀ b, (Value.slice A2 G.length c2).ownBlock = some b → w.heap.size ≤ b) := qh (new_own HNw.out hn6 (Nat.le_trans HK5.out.size (alloc_le _ _))); have HO6 := qh ho6; clear hG ho6 hg6 hn6)
   have hgl : G.length ≤ 3 := by have := HGl.out; omega
   go_wp2_with (first
    | (go_at_call 71; go_must (refine (HE.out.run HM6.out (by have h0 := HC.out; have hb := HB1.out; have h4 := HX4.out; have h5 := HMU.out; have h6 := HX5.out; simp only [List.length_append]; omega)).mono ?_); rintro e w7 ⟨r7, at7, X7, rfl, hm, hk, hx, hp⟩; have HO7 := qh (HO6.out.kp HM6.out hk); have HM7 := qh hm.assoc; have HK7 := qh (HK6.out.trans hk); have HX7 := qh hx; have HP7 := qh hp.assoc; clear hm hk hx hp)
    | (at_builtin; go_must (refine wpList_appendN _ rfl _ _ rfl (.slice A2 G.length c2) G rfl (OwnI.bel HO7.out (by exact bl1)) _ 1 1 [r7] rfl (Rd.intG rfl r7) rfl (by omega) ?_); intro v8 w8 ho8 hg8 hn8; generalize hG : G ++ [r7] = K at ho8; have HKl : Hid (K.length = 2 * (i + 1)) := qh (by rw [← hG, List.length_append, HGl.out]; simp; omega); have HXK : Hid (Xs (T ++ (X ++ X5 ++ X7)) ((d : Int) + 1) K) := qh (by rw [← hG]; exact HXG.out.up2.snoc HP7.out); obtain ⟨A3, c3, e8, -, -⟩ := Own.rd ho8; subst e8; have HM8 := qh (HM7.out.grown (by exact bl1) HO7.out (fun b e => Nat.le_trans H.out.wB (HN6.out b e)) hg8 hn8 (fun b e => Own.lt ho8 e)); have HK8 := qh ((HK7.out.trans (Kp.alloc B mb _ _)).grown hg8 HN6.out); have HN8 : Hid (∀ b, (Value.slice A3 K.length c3).ownBlock = some b → w.heap.size ≤ b) := qh (new_own HN6.out hn8 (Nat.le_trans HK7.out.size (alloc_le _ _))); have HO8 := qh ho8; clear hG ho8 hg8 hn8))
   go_round
   case rel => exact ⟨i + 1, at7, X ++ X5 ++ X7, A3, c3, K, by omega, by go_num, rfl, HKl, HO8, HN8, HM8, HK8, qh (by have h4 := HX4.out; have h5 := HX5.out; have h7 := HX7.out; simp only [List.length_append, Nat.add_mul]; omega), HXK⟩
   case measure => simp [intOf]; omega
  ·obtain rfl : i = q := by omega
   have hml : M.length ≤ 4 := by have := HMl.out; omega
   have hmul : i * (1 + ebound d) ≤ 2 * (1 + ebound d) := Nat.mul_le_mul_right _ hq2
   have HMU := qh hmul
   clear hmul
   go_wp2_with (go_at_call 48; obtain ⟨hgood, hxp⟩ := HM4.out.good.x (d := (d : Int) + 1) (op := 9) (n := 0) (s := ⟨#[]⟩) (kids := M) HXs.out (by omega) (by omega) (fun ks hl hk => Good.dict_ ks hk (by rw [hl, HMl.out]; omega) (by rw [hl]; omega)); go_must (refine (madd_own HM4.out HO4.out rfl rfl (by omega) 9 0 ⟨#[]⟩ hgood (by have h0 := HC.out; have hb := HB1.out; have h4 := HX4.out; have h5 := HMU.out; rw [List.length_append]; omega)).mono ?_); rintro e w9 ⟨r9, rfl, hr9, hm, hk⟩; rw [← hr9] at hxp; have HM9 := qh hm.assoc; have HK9 := qh (HK4.out.trans hk); have HP9 := qh hxp.assoc; clear hm hk hgood hxp hr9)
   go_ret
   exact ⟨_, _, X ++ [⟨9, 0, ⟨#[]⟩, 0, M⟩], rfl, HM9.out.less fun k hk => .inl hk, HK9.out, (by have hb := HB1.out; have h4 := HX4.out; have h5 := HMU.out; simp only [ebound, LL]; omega), HP9.out.le (by omega)⟩
end
end Go.Proofs.YtjdcicopjipmnaaDoor
