/- The maker: statements that hold no block (2). -/
import Derived.Test.YtjdcicopjipmnaaDoorZaq
namespace Go.Proofs.YtjdcicopjipmnaaDoor
set_option maxRecDepth 100000
set_option maxHeartbeats 16000000
open Go.RowKit
set_option linter.unusedVariables false
set_option linter.unusedSimpArgs false
theorem mst_8all {k : Int} (hk : k = 8) {D : Nat} {dv : Int} {B mb at_ : Nat} {F : Nat → Prop} {S : List Int} {T : List NodeD} {w : World} (h : Mk B mb F S at_ T w) (hcap : T.length + sbound D ≤ 549755813888) (f l c : Bool) (hr : Pick S at_ T dv k) : Calls Tryd.prog 47 #[.pointer (some ⟨mb, 0, none⟩), .int .i64 dv, .agg #[.bool f, .bool l, .bool c]] w (StP B mb F S w T (sbound D)) := by
 unfold StP
 have H := qh h
 have HB1 := qh (sbound_pos D)
 have HC : Hid (T.length + 200 ≤ 549755813888) := qh (by have := sbound_pos D; omega)
 clear h hcap
 subst hk
 go_enter Tryd.func47, Tryd.ntmps47
 rcases hr with ⟨hd1, hl1, hr⟩ | ⟨hd1, hl1, hr⟩ | ⟨hd1, hr⟩
 focus
  have HR := qh hr
  clear hr
  go_upto_region 4 with (go_at_call 46; go_must (refine (next_any (n := 40) (H.out.alloc _) (by decide) (by decide)).mono ?_); rintro e w2 ⟨rfl, hm, hk⟩; rw [HR.out]; obtain ⟨A0, sn, c0, v0, hb0, -⟩ := hm.m; have x3 := hb0.cell 3; have xlt := hb0.lt; simp only [GG] at x3; clear hb0; have HM2 := qh hm; have HK2 := qh ((Kp.alloc B mb w _).trans hk); clear hm hk)
  clear hl1 x3 hd1
 rotate_left
 focus
  have HR := qh hr
  clear hr
  go_upto_region 4 with (go_at_call 46; go_must (refine (next_any (n := 40) (H.out.alloc _) (by decide) (by decide)).mono ?_); rintro e w2 ⟨rfl, hm, hk⟩; have hq := HR.out; obtain ⟨rn, hrn, hr30⟩ := nat_of (nextV_ok S at_ (n := 40) (by decide)); rw [hrn] at hq ⊢; have hq2 := (Int.tmod_eq_emod_of_nonneg (a := (rn : Int)) (b := 14) (by omega)).trans hq; obtain ⟨A0, sn, c0, v0, hb0, -⟩ := hm.m; have x3 := hb0.cell 3; have xlt := hb0.lt; simp only [GG] at x3; clear hb0; have HM2 := qh hm; have HK2 := qh ((Kp.alloc B mb w _).trans hk); clear hm hk hrn)
  clear hq hq2 hl1 x3 hd1
 rotate_left
 focus
  have HR := qh hr
  clear hr
  go_upto_region 4 with (go_at_call 46; go_must (refine (next_any (n := 40) (H.out.alloc _) (by decide) (by decide)).mono ?_); rintro e w2 ⟨rfl, hm, hk⟩; have hq := HR.out; obtain ⟨rn, hrn, hr30⟩ := nat_of (nextV_ok S at_ (n := 40) (by decide)); rw [hrn] at hq ⊢; have hq2 := (Int.tmod_eq_emod_of_nonneg (a := (rn : Int)) (b := 14) (by omega)).trans hq; obtain ⟨A0, sn, c0, v0, hb0, -⟩ := hm.m; have x3 := hb0.cell 3; have xlt := hb0.lt; simp only [GG] at x3; clear hb0; have HM2 := qh hm; have HK2 := qh ((Kp.alloc B mb w _).trans hk); clear hm hk hrn)
  clear hq hq2 x3 hd1
 all_goals
  go_upto_region 20 with (first | (go_at_call 72; go_must (refine (mtarget_any HM2.out (by have h0 := HC.out; have hb := HB1.out; (try simp only [LL]); omega)).mono ?_); rintro e w3 ⟨r3, at3, X3, rfl, hm, hk, hx, hp⟩; have HM3 := qh hm; have HK3 := qh (HK2.out.trans hk); have HX3 := qh hx; have HP3 := qh hp; clear hm hk hx hp))
  have HM10 := qh HM3.out.drew
  have HK10 := qh (HK3.out.trans (Kp.bel B mb (Below.drew (Below.refl _ _))))
  refine wp_region_noPanic ?_
  refine wp_region_held_drew (S := fun _ => True) (by kernel_rfl) trivial (fun hHeld => ?_)
  clear hHeld
  generalize w3.drew = w10 at HM10 HK10 ⊢
  refine wpAnyH_take (i := 0) (v := ?_) (by rw [List.getElem?_toArray]; rfl) (by kernel_rfl) (by kernel_rfl) (by kernel_rfl) (fun _ _ _ h => h) (Or.inl ⟨by rfl, ?_⟩) (trivial) ?_
  rotate_left 1
  ·(intro w_ hSw; (try dsimp only at hSw); go_simp; try with_reducible rfl)
  try simp only [Act.put, PP]
  refine wpAnyH_take (i := 2) (v := ?_) (by rw [List.getElem?_toArray]; rfl) (by kernel_rfl) (by kernel_rfl) (by kernel_rfl) (fun _ _ _ h => h) (Or.inl ⟨by rfl, ?_⟩) (trivial) ?_
  rotate_left 1
  ·(intro w_ hSw; (try dsimp only at hSw); go_simp; try with_reducible rfl)
  try simp only [Act.put, PP]
  refine wpAnyH_take (i := 6) (v := ?_) (by rw [List.getElem?_toArray]; rfl) (by kernel_rfl) (by kernel_rfl) (by kernel_rfl) (fun _ _ _ h => h) (Or.inl ⟨by rfl, ?_⟩) (trivial) ?_
  rotate_left 1
  ·(intro w_ hSw; (try dsimp only at hSw); go_simp; try with_reducible rfl)
  try simp only [Act.put, PP]
  refine wpAnyH_take (i := 7) (v := ?_) (by rw [List.getElem?_toArray]; rfl) (by kernel_rfl) (by kernel_rfl) (by kernel_rfl) (fun _ _ _ h => h) (Or.inl ⟨by rfl, ?_⟩) (trivial) ?_
  rotate_left 1
  ·(intro w_ hSw; (try dsimp only at hSw); go_simp; try with_reducible rfl)
  try simp only [Act.put, PP]
  refine wpAnyH_ready (rs := [1, 3]) (by kernel_rfl) (by simp) ?_
  refine AllReadyH.cons (by rw [List.getElem?_toArray]; rfl) (fun K hK => ?_) ?_
  ·skip
   go_simp
   refine hK.out _ _ trivial (fun hHeld => ?_)
   clear hK K
   try simp only [Act.put, PP]
   have hb11 : Below w10.heap.size w10 (w10.alloc (.cells #[.string ⟨#[43]⟩, .string ⟨#[45]⟩, .string ⟨#[42]⟩] 9)) := Below.alloc (Below.refl _ _) (Nat.le_refl _) _
   have HM11 := qh (HM10.out.bel hb11)
   have HK11 := qh (HK10.out.trans (Kp.bel B mb hb11))
   have HBK11 := qh (Blk.new w10 9 #[.string ⟨#[43]⟩, .string ⟨#[45]⟩, .string ⟨#[42]⟩])
   have hlt11 := HBK11.out.lt
   generalize w10.alloc (.cells #[.string ⟨#[43]⟩, .string ⟨#[45]⟩, .string ⟨#[42]⟩] 9) = w11 at hb11 HM11 HK11 HBK11 hlt11 ⊢
   clear hb11
   refine wpAnyH_ready (rs := [3]) (by kernel_rfl) (by simp) ?_
   refine AllReadyH.cons (by rw [List.getElem?_toArray]; rfl) (fun K hK => ?_) AllReadyH.nil
   go_simp
   refine (next_any (n := 3) HM11.out (by decide) (by decide)).mono ?_
   rintro e w12 ⟨rfl, hm, hk⟩
   obtain ⟨q, hq, hq8⟩ := nat_of (nextV_ok S (at3) (n := 3) (by decide))
   rw [hq]
   obtain ⟨s, hs, hL⟩ := pick_arr (l := [⟨#[43]⟩, ⟨#[45]⟩, ⟨#[42]⟩]) (r := q) (by show q < 3; omega)
   have HLL := qh hL
   have HS := qh hs
   have hq88 : q < 3 := by omega
   have HM12 := qh hm
   have HK12 := qh (HK11.out.trans hk)
   have HBK12 := qh (hk.blk HBK11.out (ne_mb HM10.out (Nat.le_refl _)) (by decide))
   have hlt12 := HBK12.out.lt
   have hc12 := (HBK12.out.cell q).trans HLL.out
   clear hm hk hq hs hL hlt11
   refine hK.out _ _ trivial (fun hHeld => ?_)
   clear hK K
   try simp only [Act.put, PP]
   refine wpAnyH_take (i := 4) (v := ?_) (by rw [List.getElem?_toArray]; rfl) (by kernel_rfl) (by kernel_rfl) (by kernel_rfl) (fun _ _ _ h => h) (Or.inl ⟨by rfl, ?_⟩) (trivial) ?_
   rotate_left 1
   ·(intro w_ hSw; (try dsimp only at hSw); go_simp; try with_reducible rfl)
   try simp only [Act.put, PP]
   refine wpAnyH_ready (rs := [5, 8]) (by kernel_rfl) (by simp) ?_
   refine AllReadyH.cons (by rw [List.getElem?_toArray]; rfl) (fun K hK => ?_) ?_
   ·skip
    go_simp
    refine hK.out _ _ trivial (fun hHeld => ?_)
    clear hK K
    try simp only [Act.put, PP]
    refine wpAnyH_ready (rs := [8]) (by kernel_rfl) (by simp) ?_
    refine AllReadyH.cons (by rw [List.getElem?_toArray]; rfl) (fun K hK => ?_) AllReadyH.nil
    go_simp
    refine (mexpr2_any HM12.out (by have h0 := HC.out; have hb := HB1.out; have h3 := HX3.out; simp only [List.length_append]; omega)).mono ?_
    rintro e w13 ⟨r, atr, X, rfl, hm, hk, hx, hp⟩
    have HM13 := qh hm.assoc
    have HK13 := qh (HK12.out.trans hk)
    have HXX := qh hx
    have HPP := qh hp.assoc
    have HBK13 := qh (hk.blk HBK12.out (ne_mb HM10.out (Nat.le_refl _)) (by decide))
    have hlt13 := HBK13.out.lt
    have hc13 := (HBK13.out.cell q).trans HLL.out
    clear hm hk hx hp hlt12 hc12
    refine hK.out _ _ trivial (fun hHeld => ?_)
    clear hK K
    try simp only [Act.put, PP]
    refine wpAnyH_ready (rs := [9]) (by kernel_rfl) (by simp) ?_
    refine AllReadyH.cons (by rw [List.getElem?_toArray]; rfl) (fun K hK => ?_) AllReadyH.nil
    go_simp
    refine hK.out _ _ trivial (fun hHeld => ?_)
    clear hK K
    try simp only [Act.put, PP]
    have hb14 : Below w13.heap.size w13 (w13.alloc (.cells #[.int .i64 r3, .int .i64 r] 3)) := Below.alloc (Below.refl _ _) (Nat.le_refl _) _
    have HM14 := qh (HM13.out.bel hb14)
    have HK14 := qh (HK13.out.trans (Kp.bel B mb hb14))
    have HBK14 := qh (HBK13.out.bel hb14)
    have hlt14 := HBK14.out.lt
    have hc14 := (HBK14.out.cell q).trans HLL.out
    have HRI14 := qh (Rd.ints w13 [r3, r] #[.int .i64 r3, .int .i64 r] 2 rfl rfl (by decide))
    have HGI : Hid (mb ≠ w13.heap.size) := qh (by have := HM13.out.lt; omega)
    generalize w13.alloc (.cells #[.int .i64 r3, .int .i64 r] 3) = w14 at hb14 HM14 HK14 HBK14 hlt14 hc14 HRI14 ⊢
    clear hb14 hlt13 hc13
    refine wpAnyH_ready (rs := [10]) (by kernel_rfl) (by simp) ?_
    refine AllReadyH.cons (by rw [List.getElem?_toArray]; rfl) (fun K hK => ?_) AllReadyH.nil
    go_simp
    have hgood := HM14.out.good.o (op := 44) (n := 0) (s := s) (kids := [r3, r]) (.inr (by decide))
    refine (madd_any HM14.out (k := 2) (c1 := 2) (kids := [r3, r]) HRI14.out rfl (by decide) (fun b o e => by cases e; exact HGI.out.symm) 44 0 s hgood (by have h0 := HC.out; have hb := HB1.out; have h3 := HX3.out; have h4 := HXX.out; simp only [List.length_append]; omega)).mono ?_
    rintro e w15 ⟨rfl, hm, hk⟩
    generalize hr5 : (((T ++ (X3 ++ X)).length : Nat) : Int) = r5
    have HM15 := qh hm.assoc
    have HK15 := qh (HK14.out.trans hk)
    clear hm hk hgood hr5
    refine hK.out _ _ trivial (fun hHeld => ?_)
    clear hK K
    try simp only [Act.put, PP]
    refine wpAnyH_take (i := 11) (v := ?_) (by rw [List.getElem?_toArray]; rfl) (by kernel_rfl) (by kernel_rfl) (by kernel_rfl) (fun _ _ _ h => h) (Or.inl ⟨by rfl, ?_⟩) (trivial) ?_
    rotate_left 1
    ·(intro w_ hSw; (try dsimp only at hSw); go_simp; try with_reducible rfl)
    try simp only [Act.put, PP]
    refine wpAnyH_done (by kernel_rfl) ?_ _
    refine NoPanic.normal ?_
    go_wp2_with fail
    go_ret
    exact ⟨_, _, (X3 ++ X) ++ [⟨44, 0, s, 0, [r3, r]⟩], rfl, HM15.out, HK15.out, (by have hb := HB1.out; have h3 := HX3.out; have h4 := HXX.out; simp only [sbound, LL]; omega)⟩
   refine AllReadyH.cons (by rw [List.getElem?_toArray]; rfl) (fun K hK => ?_) ?_
   ·skip
    go_simp
    refine (mexpr2_any HM12.out (by have h0 := HC.out; have hb := HB1.out; have h3 := HX3.out; simp only [List.length_append]; omega)).mono ?_
    rintro e w13 ⟨r, atr, X, rfl, hm, hk, hx, hp⟩
    have HM13 := qh hm.assoc
    have HK13 := qh (HK12.out.trans hk)
    have HXX := qh hx
    have HPP := qh hp.assoc
    have HBK13 := qh (hk.blk HBK12.out (ne_mb HM10.out (Nat.le_refl _)) (by decide))
    have hlt13 := HBK13.out.lt
    have hc13 := (HBK13.out.cell q).trans HLL.out
    clear hm hk hx hp hlt12 hc12
    refine hK.out _ _ trivial (fun hHeld => ?_)
    clear hK K
    try simp only [Act.put, PP]
    refine wpAnyH_ready (rs := [5, 9]) (by kernel_rfl) (by simp) ?_
    refine AllReadyH.cons (by rw [List.getElem?_toArray]; rfl) (fun K hK => ?_) ?_
    ·skip
     go_simp
     refine hK.out _ _ trivial (fun hHeld => ?_)
     clear hK K
     try simp only [Act.put, PP]
     refine wpAnyH_ready (rs := [9]) (by kernel_rfl) (by simp) ?_
     refine AllReadyH.cons (by rw [List.getElem?_toArray]; rfl) (fun K hK => ?_) AllReadyH.nil
     go_simp
     refine hK.out _ _ trivial (fun hHeld => ?_)
     clear hK K
     try simp only [Act.put, PP]
     have hb14 : Below w13.heap.size w13 (w13.alloc (.cells #[.int .i64 r3, .int .i64 r] 3)) := Below.alloc (Below.refl _ _) (Nat.le_refl _) _
     have HM14 := qh (HM13.out.bel hb14)
     have HK14 := qh (HK13.out.trans (Kp.bel B mb hb14))
     have HBK14 := qh (HBK13.out.bel hb14)
     have hlt14 := HBK14.out.lt
     have hc14 := (HBK14.out.cell q).trans HLL.out
     have HRI14 := qh (Rd.ints w13 [r3, r] #[.int .i64 r3, .int .i64 r] 2 rfl rfl (by decide))
     have HGI : Hid (mb ≠ w13.heap.size) := qh (by have := HM13.out.lt; omega)
     generalize w13.alloc (.cells #[.int .i64 r3, .int .i64 r] 3) = w14 at hb14 HM14 HK14 HBK14 hlt14 hc14 HRI14 ⊢
     clear hb14 hlt13 hc13
     refine wpAnyH_ready (rs := [10]) (by kernel_rfl) (by simp) ?_
     refine AllReadyH.cons (by rw [List.getElem?_toArray]; rfl) (fun K hK => ?_) AllReadyH.nil
     go_simp
     have hgood := HM14.out.good.o (op := 44) (n := 0) (s := s) (kids := [r3, r]) (.inr (by decide))
     refine (madd_any HM14.out (k := 2) (c1 := 2) (kids := [r3, r]) HRI14.out rfl (by decide) (fun b o e => by cases e; exact HGI.out.symm) 44 0 s hgood (by have h0 := HC.out; have hb := HB1.out; have h3 := HX3.out; have h4 := HXX.out; simp only [List.length_append]; omega)).mono ?_
     rintro e w15 ⟨rfl, hm, hk⟩
     generalize hr5 : (((T ++ (X3 ++ X)).length : Nat) : Int) = r5
     have HM15 := qh hm.assoc
     have HK15 := qh (HK14.out.trans hk)
     clear hm hk hgood hr5
     refine hK.out _ _ trivial (fun hHeld => ?_)
     clear hK K
     try simp only [Act.put, PP]
     refine wpAnyH_take (i := 11) (v := ?_) (by rw [List.getElem?_toArray]; rfl) (by kernel_rfl) (by kernel_rfl) (by kernel_rfl) (fun _ _ _ h => h) (Or.inl ⟨by rfl, ?_⟩) (trivial) ?_
     rotate_left 1
     ·(intro w_ hSw; (try dsimp only at hSw); go_simp; try with_reducible rfl)
     try simp only [Act.put, PP]
     refine wpAnyH_done (by kernel_rfl) ?_ _
     refine NoPanic.normal ?_
     go_wp2_with fail
     go_ret
     exact ⟨_, _, (X3 ++ X) ++ [⟨44, 0, s, 0, [r3, r]⟩], rfl, HM15.out, HK15.out, (by have hb := HB1.out; have h3 := HX3.out; have h4 := HXX.out; simp only [sbound, LL]; omega)⟩
    refine AllReadyH.cons (by rw [List.getElem?_toArray]; rfl) (fun K hK => ?_) ?_
    ·skip
     go_simp
     refine hK.out _ _ trivial (fun hHeld => ?_)
     clear hK K
     try simp only [Act.put, PP]
     have hb14 : Below w13.heap.size w13 (w13.alloc (.cells #[.int .i64 r3, .int .i64 r] 3)) := Below.alloc (Below.refl _ _) (Nat.le_refl _) _
     have HM14 := qh (HM13.out.bel hb14)
     have HK14 := qh (HK13.out.trans (Kp.bel B mb hb14))
     have HBK14 := qh (HBK13.out.bel hb14)
     have hlt14 := HBK14.out.lt
     have hc14 := (HBK14.out.cell q).trans HLL.out
     have HRI14 := qh (Rd.ints w13 [r3, r] #[.int .i64 r3, .int .i64 r] 2 rfl rfl (by decide))
     have HGI : Hid (mb ≠ w13.heap.size) := qh (by have := HM13.out.lt; omega)
     generalize w13.alloc (.cells #[.int .i64 r3, .int .i64 r] 3) = w14 at hb14 HM14 HK14 HBK14 hlt14 hc14 HRI14 ⊢
     clear hb14 hlt13 hc13
     refine wpAnyH_ready (rs := [5]) (by kernel_rfl) (by simp) ?_
     refine AllReadyH.cons (by rw [List.getElem?_toArray]; rfl) (fun K hK => ?_) AllReadyH.nil
     go_simp
     refine hK.out _ _ trivial (fun hHeld => ?_)
     clear hK K
     try simp only [Act.put, PP]
     refine wpAnyH_ready (rs := [10]) (by kernel_rfl) (by simp) ?_
     refine AllReadyH.cons (by rw [List.getElem?_toArray]; rfl) (fun K hK => ?_) AllReadyH.nil
     go_simp
     have hgood := HM14.out.good.o (op := 44) (n := 0) (s := s) (kids := [r3, r]) (.inr (by decide))
     refine (madd_any HM14.out (k := 2) (c1 := 2) (kids := [r3, r]) HRI14.out rfl (by decide) (fun b o e => by cases e; exact HGI.out.symm) 44 0 s hgood (by have h0 := HC.out; have hb := HB1.out; have h3 := HX3.out; have h4 := HXX.out; simp only [List.length_append]; omega)).mono ?_
     rintro e w15 ⟨rfl, hm, hk⟩
     generalize hr5 : (((T ++ (X3 ++ X)).length : Nat) : Int) = r5
     have HM15 := qh hm.assoc
     have HK15 := qh (HK14.out.trans hk)
     clear hm hk hgood hr5
     refine hK.out _ _ trivial (fun hHeld => ?_)
     clear hK K
     try simp only [Act.put, PP]
     refine wpAnyH_take (i := 11) (v := ?_) (by rw [List.getElem?_toArray]; rfl) (by kernel_rfl) (by kernel_rfl) (by kernel_rfl) (fun _ _ _ h => h) (Or.inl ⟨by rfl, ?_⟩) (trivial) ?_
     rotate_left 1
     ·(intro w_ hSw; (try dsimp only at hSw); go_simp; try with_reducible rfl)
     try simp only [Act.put, PP]
     refine wpAnyH_done (by kernel_rfl) ?_ _
     refine NoPanic.normal ?_
     go_wp2_with fail
     go_ret
     exact ⟨_, _, (X3 ++ X) ++ [⟨44, 0, s, 0, [r3, r]⟩], rfl, HM15.out, HK15.out, (by have hb := HB1.out; have h3 := HX3.out; have h4 := HXX.out; simp only [sbound, LL]; omega)⟩
    exact AllReadyH.nil
   exact AllReadyH.nil
  refine AllReadyH.cons (by rw [List.getElem?_toArray]; rfl) (fun K hK => ?_) ?_
  ·skip
   go_simp
   refine (next_any (n := 3) HM10.out (by decide) (by decide)).mono ?_
   rintro e w11 ⟨rfl, hm, hk⟩
   obtain ⟨q, hq, hq8⟩ := nat_of (nextV_ok S (at3) (n := 3) (by decide))
   rw [hq]
   obtain ⟨s, hs, hL⟩ := pick_arr (l := [⟨#[43]⟩, ⟨#[45]⟩, ⟨#[42]⟩]) (r := q) (by show q < 3; omega)
   have HLL := qh hL
   have HS := qh hs
   have hq88 : q < 3 := by omega
   have HM11 := qh hm
   have HK11 := qh (HK10.out.trans hk)
   clear hm hk hq hs hL
   refine hK.out _ _ trivial (fun hHeld => ?_)
   clear hK K
   try simp only [Act.put, PP]
   refine wpAnyH_ready (rs := [1, 8]) (by kernel_rfl) (by simp) ?_
   refine AllReadyH.cons (by rw [List.getElem?_toArray]; rfl) (fun K hK => ?_) ?_
   ·skip
    go_simp
    refine hK.out _ _ trivial (fun hHeld => ?_)
    clear hK K
    try simp only [Act.put, PP]
    have hb12 : Below w11.heap.size w11 (w11.alloc (.cells #[.string ⟨#[43]⟩, .string ⟨#[45]⟩, .string ⟨#[42]⟩] 9)) := Below.alloc (Below.refl _ _) (Nat.le_refl _) _
    have HM12 := qh (HM11.out.bel hb12)
    have HK12 := qh (HK11.out.trans (Kp.bel B mb hb12))
    have HBK12 := qh (Blk.new w11 9 #[.string ⟨#[43]⟩, .string ⟨#[45]⟩, .string ⟨#[42]⟩])
    have hlt12 := HBK12.out.lt
    have hc12 := (HBK12.out.cell q).trans HLL.out
    generalize w11.alloc (.cells #[.string ⟨#[43]⟩, .string ⟨#[45]⟩, .string ⟨#[42]⟩] 9) = w12 at hb12 HM12 HK12 HBK12 hlt12 hc12 ⊢
    clear hb12
    refine wpAnyH_take (i := 4) (v := ?_) (by rw [List.getElem?_toArray]; rfl) (by kernel_rfl) (by kernel_rfl) (by kernel_rfl) (fun _ _ _ h => h) (Or.inl ⟨by rfl, ?_⟩) (trivial) ?_
    rotate_left 1
    ·(intro w_ hSw; (try dsimp only at hSw); go_simp; try with_reducible rfl)
    try simp only [Act.put, PP]
    refine wpAnyH_ready (rs := [5, 8]) (by kernel_rfl) (by simp) ?_
    refine AllReadyH.cons (by rw [List.getElem?_toArray]; rfl) (fun K hK => ?_) ?_
    ·skip
     go_simp
     refine hK.out _ _ trivial (fun hHeld => ?_)
     clear hK K
     try simp only [Act.put, PP]
     refine wpAnyH_ready (rs := [8]) (by kernel_rfl) (by simp) ?_
     refine AllReadyH.cons (by rw [List.getElem?_toArray]; rfl) (fun K hK => ?_) AllReadyH.nil
     go_simp
     refine (mexpr2_any HM12.out (by have h0 := HC.out; have hb := HB1.out; have h3 := HX3.out; simp only [List.length_append]; omega)).mono ?_
     rintro e w13 ⟨r, atr, X, rfl, hm, hk, hx, hp⟩
     have HM13 := qh hm.assoc
     have HK13 := qh (HK12.out.trans hk)
     have HXX := qh hx
     have HPP := qh hp.assoc
     have HBK13 := qh (hk.blk HBK12.out (ne_mb HM11.out (Nat.le_refl _)) (by decide))
     have hlt13 := HBK13.out.lt
     have hc13 := (HBK13.out.cell q).trans HLL.out
     clear hm hk hx hp hlt12 hc12
     refine hK.out _ _ trivial (fun hHeld => ?_)
     clear hK K
     try simp only [Act.put, PP]
     refine wpAnyH_ready (rs := [9]) (by kernel_rfl) (by simp) ?_
     refine AllReadyH.cons (by rw [List.getElem?_toArray]; rfl) (fun K hK => ?_) AllReadyH.nil
     go_simp
     refine hK.out _ _ trivial (fun hHeld => ?_)
     clear hK K
     try simp only [Act.put, PP]
     have hb14 : Below w13.heap.size w13 (w13.alloc (.cells #[.int .i64 r3, .int .i64 r] 3)) := Below.alloc (Below.refl _ _) (Nat.le_refl _) _
     have HM14 := qh (HM13.out.bel hb14)
     have HK14 := qh (HK13.out.trans (Kp.bel B mb hb14))
     have HBK14 := qh (HBK13.out.bel hb14)
     have hlt14 := HBK14.out.lt
     have hc14 := (HBK14.out.cell q).trans HLL.out
     have HRI14 := qh (Rd.ints w13 [r3, r] #[.int .i64 r3, .int .i64 r] 2 rfl rfl (by decide))
     have HGI : Hid (mb ≠ w13.heap.size) := qh (by have := HM13.out.lt; omega)
     generalize w13.alloc (.cells #[.int .i64 r3, .int .i64 r] 3) = w14 at hb14 HM14 HK14 HBK14 hlt14 hc14 HRI14 ⊢
     clear hb14 hlt13 hc13
     refine wpAnyH_ready (rs := [10]) (by kernel_rfl) (by simp) ?_
     refine AllReadyH.cons (by rw [List.getElem?_toArray]; rfl) (fun K hK => ?_) AllReadyH.nil
     go_simp
     have hgood := HM14.out.good.o (op := 44) (n := 0) (s := s) (kids := [r3, r]) (.inr (by decide))
     refine (madd_any HM14.out (k := 2) (c1 := 2) (kids := [r3, r]) HRI14.out rfl (by decide) (fun b o e => by cases e; exact HGI.out.symm) 44 0 s hgood (by have h0 := HC.out; have hb := HB1.out; have h3 := HX3.out; have h4 := HXX.out; simp only [List.length_append]; omega)).mono ?_
     rintro e w15 ⟨rfl, hm, hk⟩
     generalize hr5 : (((T ++ (X3 ++ X)).length : Nat) : Int) = r5
     have HM15 := qh hm.assoc
     have HK15 := qh (HK14.out.trans hk)
     clear hm hk hgood hr5
     refine hK.out _ _ trivial (fun hHeld => ?_)
     clear hK K
     try simp only [Act.put, PP]
     refine wpAnyH_take (i := 11) (v := ?_) (by rw [List.getElem?_toArray]; rfl) (by kernel_rfl) (by kernel_rfl) (by kernel_rfl) (fun _ _ _ h => h) (Or.inl ⟨by rfl, ?_⟩) (trivial) ?_
     rotate_left 1
     ·(intro w_ hSw; (try dsimp only at hSw); go_simp; try with_reducible rfl)
     try simp only [Act.put, PP]
     refine wpAnyH_done (by kernel_rfl) ?_ _
     refine NoPanic.normal ?_
     go_wp2_with fail
     go_ret
     exact ⟨_, _, (X3 ++ X) ++ [⟨44, 0, s, 0, [r3, r]⟩], rfl, HM15.out, HK15.out, (by have hb := HB1.out; have h3 := HX3.out; have h4 := HXX.out; simp only [sbound, LL]; omega)⟩
    refine AllReadyH.cons (by rw [List.getElem?_toArray]; rfl) (fun K hK => ?_) ?_
    ·skip
     go_simp
     refine (mexpr2_any HM12.out (by have h0 := HC.out; have hb := HB1.out; have h3 := HX3.out; simp only [List.length_append]; omega)).mono ?_
     rintro e w13 ⟨r, atr, X, rfl, hm, hk, hx, hp⟩
     have HM13 := qh hm.assoc
     have HK13 := qh (HK12.out.trans hk)
     have HXX := qh hx
     have HPP := qh hp.assoc
     have HBK13 := qh (hk.blk HBK12.out (ne_mb HM11.out (Nat.le_refl _)) (by decide))
     have hlt13 := HBK13.out.lt
     have hc13 := (HBK13.out.cell q).trans HLL.out
     clear hm hk hx hp hlt12 hc12
     refine hK.out _ _ trivial (fun hHeld => ?_)
     clear hK K
     try simp only [Act.put, PP]
     refine wpAnyH_ready (rs := [5, 9]) (by kernel_rfl) (by simp) ?_
     refine AllReadyH.cons (by rw [List.getElem?_toArray]; rfl) (fun K hK => ?_) ?_
     ·skip
      go_simp
      refine hK.out _ _ trivial (fun hHeld => ?_)
      clear hK K
      try simp only [Act.put, PP]
      refine wpAnyH_ready (rs := [9]) (by kernel_rfl) (by simp) ?_
      refine AllReadyH.cons (by rw [List.getElem?_toArray]; rfl) (fun K hK => ?_) AllReadyH.nil
      go_simp
      refine hK.out _ _ trivial (fun hHeld => ?_)
      clear hK K
      try simp only [Act.put, PP]
      have hb14 : Below w13.heap.size w13 (w13.alloc (.cells #[.int .i64 r3, .int .i64 r] 3)) := Below.alloc (Below.refl _ _) (Nat.le_refl _) _
      have HM14 := qh (HM13.out.bel hb14)
      have HK14 := qh (HK13.out.trans (Kp.bel B mb hb14))
      have HBK14 := qh (HBK13.out.bel hb14)
      have hlt14 := HBK14.out.lt
      have hc14 := (HBK14.out.cell q).trans HLL.out
      have HRI14 := qh (Rd.ints w13 [r3, r] #[.int .i64 r3, .int .i64 r] 2 rfl rfl (by decide))
      have HGI : Hid (mb ≠ w13.heap.size) := qh (by have := HM13.out.lt; omega)
      generalize w13.alloc (.cells #[.int .i64 r3, .int .i64 r] 3) = w14 at hb14 HM14 HK14 HBK14 hlt14 hc14 HRI14 ⊢
      clear hb14 hlt13 hc13
      refine wpAnyH_ready (rs := [10]) (by kernel_rfl) (by simp) ?_
      refine AllReadyH.cons (by rw [List.getElem?_toArray]; rfl) (fun K hK => ?_) AllReadyH.nil
      go_simp
      have hgood := HM14.out.good.o (op := 44) (n := 0) (s := s) (kids := [r3, r]) (.inr (by decide))
      refine (madd_any HM14.out (k := 2) (c1 := 2) (kids := [r3, r]) HRI14.out rfl (by decide) (fun b o e => by cases e; exact HGI.out.symm) 44 0 s hgood (by have h0 := HC.out; have hb := HB1.out; have h3 := HX3.out; have h4 := HXX.out; simp only [List.length_append]; omega)).mono ?_
      rintro e w15 ⟨rfl, hm, hk⟩
      generalize hr5 : (((T ++ (X3 ++ X)).length : Nat) : Int) = r5
      have HM15 := qh hm.assoc
      have HK15 := qh (HK14.out.trans hk)
      clear hm hk hgood hr5
      refine hK.out _ _ trivial (fun hHeld => ?_)
      clear hK K
      try simp only [Act.put, PP]
      refine wpAnyH_take (i := 11) (v := ?_) (by rw [List.getElem?_toArray]; rfl) (by kernel_rfl) (by kernel_rfl) (by kernel_rfl) (fun _ _ _ h => h) (Or.inl ⟨by rfl, ?_⟩) (trivial) ?_
      rotate_left 1
      ·(intro w_ hSw; (try dsimp only at hSw); go_simp; try with_reducible rfl)
      try simp only [Act.put, PP]
      refine wpAnyH_done (by kernel_rfl) ?_ _
      refine NoPanic.normal ?_
      go_wp2_with fail
      go_ret
      exact ⟨_, _, (X3 ++ X) ++ [⟨44, 0, s, 0, [r3, r]⟩], rfl, HM15.out, HK15.out, (by have hb := HB1.out; have h3 := HX3.out; have h4 := HXX.out; simp only [sbound, LL]; omega)⟩
     refine AllReadyH.cons (by rw [List.getElem?_toArray]; rfl) (fun K hK => ?_) ?_
     ·skip
      go_simp
      refine hK.out _ _ trivial (fun hHeld => ?_)
      clear hK K
      try simp only [Act.put, PP]
      have hb14 : Below w13.heap.size w13 (w13.alloc (.cells #[.int .i64 r3, .int .i64 r] 3)) := Below.alloc (Below.refl _ _) (Nat.le_refl _) _
      have HM14 := qh (HM13.out.bel hb14)
      have HK14 := qh (HK13.out.trans (Kp.bel B mb hb14))
      have HBK14 := qh (HBK13.out.bel hb14)
      have hlt14 := HBK14.out.lt
      have hc14 := (HBK14.out.cell q).trans HLL.out
      have HRI14 := qh (Rd.ints w13 [r3, r] #[.int .i64 r3, .int .i64 r] 2 rfl rfl (by decide))
      have HGI : Hid (mb ≠ w13.heap.size) := qh (by have := HM13.out.lt; omega)
      generalize w13.alloc (.cells #[.int .i64 r3, .int .i64 r] 3) = w14 at hb14 HM14 HK14 HBK14 hlt14 hc14 HRI14 ⊢
      clear hb14 hlt13 hc13
      refine wpAnyH_ready (rs := [5]) (by kernel_rfl) (by simp) ?_
      refine AllReadyH.cons (by rw [List.getElem?_toArray]; rfl) (fun K hK => ?_) AllReadyH.nil
      go_simp
      refine hK.out _ _ trivial (fun hHeld => ?_)
      clear hK K
      try simp only [Act.put, PP]
      refine wpAnyH_ready (rs := [10]) (by kernel_rfl) (by simp) ?_
      refine AllReadyH.cons (by rw [List.getElem?_toArray]; rfl) (fun K hK => ?_) AllReadyH.nil
      go_simp
      have hgood := HM14.out.good.o (op := 44) (n := 0) (s := s) (kids := [r3, r]) (.inr (by decide))
      refine (madd_any HM14.out (k := 2) (c1 := 2) (kids := [r3, r]) HRI14.out rfl (by decide) (fun b o e => by cases e; exact HGI.out.symm) 44 0 s hgood (by have h0 := HC.out; have hb := HB1.out; have h3 := HX3.out; have h4 := HXX.out; simp only [List.length_append]; omega)).mono ?_
      rintro e w15 ⟨rfl, hm, hk⟩
      generalize hr5 : (((T ++ (X3 ++ X)).length : Nat) : Int) = r5
      have HM15 := qh hm.assoc
      have HK15 := qh (HK14.out.trans hk)
      clear hm hk hgood hr5
      refine hK.out _ _ trivial (fun hHeld => ?_)
      clear hK K
      try simp only [Act.put, PP]
      refine wpAnyH_take (i := 11) (v := ?_) (by rw [List.getElem?_toArray]; rfl) (by kernel_rfl) (by kernel_rfl) (by kernel_rfl) (fun _ _ _ h => h) (Or.inl ⟨by rfl, ?_⟩) (trivial) ?_
      rotate_left 1
      ·(intro w_ hSw; (try dsimp only at hSw); go_simp; try with_reducible rfl)
      try simp only [Act.put, PP]
      refine wpAnyH_done (by kernel_rfl) ?_ _
      refine NoPanic.normal ?_
      go_wp2_with fail
      go_ret
      exact ⟨_, _, (X3 ++ X) ++ [⟨44, 0, s, 0, [r3, r]⟩], rfl, HM15.out, HK15.out, (by have hb := HB1.out; have h3 := HX3.out; have h4 := HXX.out; simp only [sbound, LL]; omega)⟩
     exact AllReadyH.nil
    exact AllReadyH.nil
   refine AllReadyH.cons (by rw [List.getElem?_toArray]; rfl) (fun K hK => ?_) ?_
   ·skip
    go_simp
    refine (mexpr2_any HM11.out (by have h0 := HC.out; have hb := HB1.out; have h3 := HX3.out; simp only [List.length_append]; omega)).mono ?_
    rintro e w12 ⟨r, atr, X, rfl, hm, hk, hx, hp⟩
    have HM12 := qh hm.assoc
    have HK12 := qh (HK11.out.trans hk)
    have HXX := qh hx
    have HPP := qh hp.assoc
    clear hm hk hx hp
    refine hK.out _ _ trivial (fun hHeld => ?_)
    clear hK K
    try simp only [Act.put, PP]
    refine wpAnyH_ready (rs := [1, 9]) (by kernel_rfl) (by simp) ?_
    refine AllReadyH.cons (by rw [List.getElem?_toArray]; rfl) (fun K hK => ?_) ?_
    ·skip
     go_simp
     refine hK.out _ _ trivial (fun hHeld => ?_)
     clear hK K
     try simp only [Act.put, PP]
     have hb13 : Below w12.heap.size w12 (w12.alloc (.cells #[.string ⟨#[43]⟩, .string ⟨#[45]⟩, .string ⟨#[42]⟩] 9)) := Below.alloc (Below.refl _ _) (Nat.le_refl _) _
     have HM13 := qh (HM12.out.bel hb13)
     have HK13 := qh (HK12.out.trans (Kp.bel B mb hb13))
     have HBK13 := qh (Blk.new w12 9 #[.string ⟨#[43]⟩, .string ⟨#[45]⟩, .string ⟨#[42]⟩])
     have hlt13 := HBK13.out.lt
     have hc13 := (HBK13.out.cell q).trans HLL.out
     generalize w12.alloc (.cells #[.string ⟨#[43]⟩, .string ⟨#[45]⟩, .string ⟨#[42]⟩] 9) = w13 at hb13 HM13 HK13 HBK13 hlt13 hc13 ⊢
     clear hb13
     refine wpAnyH_take (i := 4) (v := ?_) (by rw [List.getElem?_toArray]; rfl) (by kernel_rfl) (by kernel_rfl) (by kernel_rfl) (fun _ _ _ h => h) (Or.inl ⟨by rfl, ?_⟩) (trivial) ?_
     rotate_left 1
     ·(intro w_ hSw; (try dsimp only at hSw); go_simp; try with_reducible rfl)
     try simp only [Act.put, PP]
     refine wpAnyH_ready (rs := [5, 9]) (by kernel_rfl) (by simp) ?_
     refine AllReadyH.cons (by rw [List.getElem?_toArray]; rfl) (fun K hK => ?_) ?_
     ·skip
      go_simp
      refine hK.out _ _ trivial (fun hHeld => ?_)
      clear hK K
      try simp only [Act.put, PP]
      refine wpAnyH_ready (rs := [9]) (by kernel_rfl) (by simp) ?_
      refine AllReadyH.cons (by rw [List.getElem?_toArray]; rfl) (fun K hK => ?_) AllReadyH.nil
      go_simp
      refine hK.out _ _ trivial (fun hHeld => ?_)
      clear hK K
      try simp only [Act.put, PP]
      have hb14 : Below w13.heap.size w13 (w13.alloc (.cells #[.int .i64 r3, .int .i64 r] 3)) := Below.alloc (Below.refl _ _) (Nat.le_refl _) _
      have HM14 := qh (HM13.out.bel hb14)
      have HK14 := qh (HK13.out.trans (Kp.bel B mb hb14))
      have HBK14 := qh (HBK13.out.bel hb14)
      have hlt14 := HBK14.out.lt
      have hc14 := (HBK14.out.cell q).trans HLL.out
      have HRI14 := qh (Rd.ints w13 [r3, r] #[.int .i64 r3, .int .i64 r] 2 rfl rfl (by decide))
      have HGI : Hid (mb ≠ w13.heap.size) := qh (by have := HM13.out.lt; omega)
      generalize w13.alloc (.cells #[.int .i64 r3, .int .i64 r] 3) = w14 at hb14 HM14 HK14 HBK14 hlt14 hc14 HRI14 ⊢
      clear hb14 hlt13 hc13
      refine wpAnyH_ready (rs := [10]) (by kernel_rfl) (by simp) ?_
      refine AllReadyH.cons (by rw [List.getElem?_toArray]; rfl) (fun K hK => ?_) AllReadyH.nil
      go_simp
      have hgood := HM14.out.good.o (op := 44) (n := 0) (s := s) (kids := [r3, r]) (.inr (by decide))
      refine (madd_any HM14.out (k := 2) (c1 := 2) (kids := [r3, r]) HRI14.out rfl (by decide) (fun b o e => by cases e; exact HGI.out.symm) 44 0 s hgood (by have h0 := HC.out; have hb := HB1.out; have h3 := HX3.out; have h4 := HXX.out; simp only [List.length_append]; omega)).mono ?_
      rintro e w15 ⟨rfl, hm, hk⟩
      generalize hr5 : (((T ++ (X3 ++ X)).length : Nat) : Int) = r5
      have HM15 := qh hm.assoc
      have HK15 := qh (HK14.out.trans hk)
      clear hm hk hgood hr5
      refine hK.out _ _ trivial (fun hHeld => ?_)
      clear hK K
      try simp only [Act.put, PP]
      refine wpAnyH_take (i := 11) (v := ?_) (by rw [List.getElem?_toArray]; rfl) (by kernel_rfl) (by kernel_rfl) (by kernel_rfl) (fun _ _ _ h => h) (Or.inl ⟨by rfl, ?_⟩) (trivial) ?_
      rotate_left 1
      ·(intro w_ hSw; (try dsimp only at hSw); go_simp; try with_reducible rfl)
      try simp only [Act.put, PP]
      refine wpAnyH_done (by kernel_rfl) ?_ _
      refine NoPanic.normal ?_
      go_wp2_with fail
      go_ret
      exact ⟨_, _, (X3 ++ X) ++ [⟨44, 0, s, 0, [r3, r]⟩], rfl, HM15.out, HK15.out, (by have hb := HB1.out; have h3 := HX3.out; have h4 := HXX.out; simp only [sbound, LL]; omega)⟩
     refine AllReadyH.cons (by rw [List.getElem?_toArray]; rfl) (fun K hK => ?_) ?_
     ·skip
      go_simp
      refine hK.out _ _ trivial (fun hHeld => ?_)
      clear hK K
      try simp only [Act.put, PP]
      have hb14 : Below w13.heap.size w13 (w13.alloc (.cells #[.int .i64 r3, .int .i64 r] 3)) := Below.alloc (Below.refl _ _) (Nat.le_refl _) _
      have HM14 := qh (HM13.out.bel hb14)
      have HK14 := qh (HK13.out.trans (Kp.bel B mb hb14))
      have HBK14 := qh (HBK13.out.bel hb14)
      have hlt14 := HBK14.out.lt
      have hc14 := (HBK14.out.cell q).trans HLL.out
      have HRI14 := qh (Rd.ints w13 [r3, r] #[.int .i64 r3, .int .i64 r] 2 rfl rfl (by decide))
      have HGI : Hid (mb ≠ w13.heap.size) := qh (by have := HM13.out.lt; omega)
      generalize w13.alloc (.cells #[.int .i64 r3, .int .i64 r] 3) = w14 at hb14 HM14 HK14 HBK14 hlt14 hc14 HRI14 ⊢
      clear hb14 hlt13 hc13
      refine wpAnyH_ready (rs := [5]) (by kernel_rfl) (by simp) ?_
      refine AllReadyH.cons (by rw [List.getElem?_toArray]; rfl) (fun K hK => ?_) AllReadyH.nil
      go_simp
      refine hK.out _ _ trivial (fun hHeld => ?_)
      clear hK K
      try simp only [Act.put, PP]
      refine wpAnyH_ready (rs := [10]) (by kernel_rfl) (by simp) ?_
      refine AllReadyH.cons (by rw [List.getElem?_toArray]; rfl) (fun K hK => ?_) AllReadyH.nil
      go_simp
      have hgood := HM14.out.good.o (op := 44) (n := 0) (s := s) (kids := [r3, r]) (.inr (by decide))
      refine (madd_any HM14.out (k := 2) (c1 := 2) (kids := [r3, r]) HRI14.out rfl (by decide) (fun b o e => by cases e; exact HGI.out.symm) 44 0 s hgood (by have h0 := HC.out; have hb := HB1.out; have h3 := HX3.out; have h4 := HXX.out; simp only [List.length_append]; omega)).mono ?_
      rintro e w15 ⟨rfl, hm, hk⟩
      generalize hr5 : (((T ++ (X3 ++ X)).length : Nat) : Int) = r5
      have HM15 := qh hm.assoc
      have HK15 := qh (HK14.out.trans hk)
      clear hm hk hgood hr5
      refine hK.out _ _ trivial (fun hHeld => ?_)
      clear hK K
      try simp only [Act.put, PP]
      refine wpAnyH_take (i := 11) (v := ?_) (by rw [List.getElem?_toArray]; rfl) (by kernel_rfl) (by kernel_rfl) (by kernel_rfl) (fun _ _ _ h => h) (Or.inl ⟨by rfl, ?_⟩) (trivial) ?_
      rotate_left 1
      ·(intro w_ hSw; (try dsimp only at hSw); go_simp; try with_reducible rfl)
      try simp only [Act.put, PP]
      refine wpAnyH_done (by kernel_rfl) ?_ _
      refine NoPanic.normal ?_
      go_wp2_with fail
      go_ret
      exact ⟨_, _, (X3 ++ X) ++ [⟨44, 0, s, 0, [r3, r]⟩], rfl, HM15.out, HK15.out, (by have hb := HB1.out; have h3 := HX3.out; have h4 := HXX.out; simp only [sbound, LL]; omega)⟩
     exact AllReadyH.nil
    refine AllReadyH.cons (by rw [List.getElem?_toArray]; rfl) (fun K hK => ?_) ?_
    ·skip
     go_simp
     refine hK.out _ _ trivial (fun hHeld => ?_)
     clear hK K
     try simp only [Act.put, PP]
     have hb13 : Below w12.heap.size w12 (w12.alloc (.cells #[.int .i64 r3, .int .i64 r] 3)) := Below.alloc (Below.refl _ _) (Nat.le_refl _) _
     have HM13 := qh (HM12.out.bel hb13)
     have HK13 := qh (HK12.out.trans (Kp.bel B mb hb13))
     have HRI13 := qh (Rd.ints w12 [r3, r] #[.int .i64 r3, .int .i64 r] 2 rfl rfl (by decide))
     have HGI : Hid (mb ≠ w12.heap.size) := qh (by have := HM12.out.lt; omega)
     generalize w12.alloc (.cells #[.int .i64 r3, .int .i64 r] 3) = w13 at hb13 HM13 HK13 HRI13 ⊢
     clear hb13
     refine wpAnyH_ready (rs := [1]) (by kernel_rfl) (by simp) ?_
     refine AllReadyH.cons (by rw [List.getElem?_toArray]; rfl) (fun K hK => ?_) AllReadyH.nil
     go_simp
     refine hK.out _ _ trivial (fun hHeld => ?_)
     clear hK K
     try simp only [Act.put, PP]
     have hb14 : Below w13.heap.size w13 (w13.alloc (.cells #[.string ⟨#[43]⟩, .string ⟨#[45]⟩, .string ⟨#[42]⟩] 9)) := Below.alloc (Below.refl _ _) (Nat.le_refl _) _
     have HM14 := qh (HM13.out.bel hb14)
     have HK14 := qh (HK13.out.trans (Kp.bel B mb hb14))
     have HRI14 := qh (HRI13.out.bel hb14)
     have HBK14 := qh (Blk.new w13 9 #[.string ⟨#[43]⟩, .string ⟨#[45]⟩, .string ⟨#[42]⟩])
     have hlt14 := HBK14.out.lt
     have hc14 := (HBK14.out.cell q).trans HLL.out
     generalize w13.alloc (.cells #[.string ⟨#[43]⟩, .string ⟨#[45]⟩, .string ⟨#[42]⟩] 9) = w14 at hb14 HM14 HK14 HBK14 hlt14 hc14 HRI14 ⊢
     clear hb14
     refine wpAnyH_take (i := 4) (v := ?_) (by rw [List.getElem?_toArray]; rfl) (by kernel_rfl) (by kernel_rfl) (by kernel_rfl) (fun _ _ _ h => h) (Or.inl ⟨by rfl, ?_⟩) (trivial) ?_
     rotate_left 1
     ·(intro w_ hSw; (try dsimp only at hSw); go_simp; try with_reducible rfl)
     try simp only [Act.put, PP]
     refine wpAnyH_ready (rs := [5]) (by kernel_rfl) (by simp) ?_
     refine AllReadyH.cons (by rw [List.getElem?_toArray]; rfl) (fun K hK => ?_) AllReadyH.nil
     go_simp
     refine hK.out _ _ trivial (fun hHeld => ?_)
     clear hK K
     try simp only [Act.put, PP]
     refine wpAnyH_ready (rs := [10]) (by kernel_rfl) (by simp) ?_
     refine AllReadyH.cons (by rw [List.getElem?_toArray]; rfl) (fun K hK => ?_) AllReadyH.nil
     go_simp
     have hgood := HM14.out.good.o (op := 44) (n := 0) (s := s) (kids := [r3, r]) (.inr (by decide))
     refine (madd_any HM14.out (k := 2) (c1 := 2) (kids := [r3, r]) HRI14.out rfl (by decide) (fun b o e => by cases e; exact HGI.out.symm) 44 0 s hgood (by have h0 := HC.out; have hb := HB1.out; have h3 := HX3.out; have h4 := HXX.out; simp only [List.length_append]; omega)).mono ?_
     rintro e w15 ⟨rfl, hm, hk⟩
     generalize hr5 : (((T ++ (X3 ++ X)).length : Nat) : Int) = r5
     have HM15 := qh hm.assoc
     have HK15 := qh (HK14.out.trans hk)
     clear hm hk hgood hr5
     refine hK.out _ _ trivial (fun hHeld => ?_)
     clear hK K
     try simp only [Act.put, PP]
     refine wpAnyH_take (i := 11) (v := ?_) (by rw [List.getElem?_toArray]; rfl) (by kernel_rfl) (by kernel_rfl) (by kernel_rfl) (fun _ _ _ h => h) (Or.inl ⟨by rfl, ?_⟩) (trivial) ?_
     rotate_left 1
     ·(intro w_ hSw; (try dsimp only at hSw); go_simp; try with_reducible rfl)
     try simp only [Act.put, PP]
     refine wpAnyH_done (by kernel_rfl) ?_ _
     refine NoPanic.normal ?_
     go_wp2_with fail
     go_ret
     exact ⟨_, _, (X3 ++ X) ++ [⟨44, 0, s, 0, [r3, r]⟩], rfl, HM15.out, HK15.out, (by have hb := HB1.out; have h3 := HX3.out; have h4 := HXX.out; simp only [sbound, LL]; omega)⟩
    exact AllReadyH.nil
   exact AllReadyH.nil
  exact AllReadyH.nil
end Go.Proofs.YtjdcicopjipmnaaDoor
