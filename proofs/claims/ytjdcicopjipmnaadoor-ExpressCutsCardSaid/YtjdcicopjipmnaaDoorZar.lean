/- The maker: block; statements that hold blocks. -/
import Derived.Test.YtjdcicopjipmnaaDoorZaq
namespace Go.Proofs.YtjdcicopjipmnaaDoor
set_option maxRecDepth 100000
set_option maxHeartbeats 16000000
open Go.RowKit
set_option linter.unusedVariables false
set_option linter.unusedSimpArgs false
theorem blk_grown91 {w1 w2 W : World} {g : Nat} {cs : Array Value} {v : Value} {xs : List Int} (hb : Blk w1 g 91 cs) (ho : OwnI w1 v xs) (hB : Below w1.heap.size w1 W) (hg : W.grownBy w2 v.ownBlock) : Blk w2 g 91 cs :=
 (hb.bel hB).grown hg fun e => own_blk_ne ho hb (by decide) e.symm
theorem mblock_any {d : Nat} (HE : STX d) (hd : d ≤ 9) {B mb at_ : Nat} {F : Nat → Prop} {S : List Int} {T : List NodeD} {w : World} (h : Mk B mb F S at_ T w) (hcap : T.length + (3 * sbound d + 1) ≤ 549755813888) (f l c : Bool) : Calls Tryd.prog 73 #[.pointer (some ⟨mb, 0, none⟩), .int .i64 ((d : Int) + 1), .agg #[.bool f, .bool l, .bool c]] w (StP B mb F S w T (3 * sbound d + 1)) := by
 unfold StP
 have H := qh h
 have HC := qh hcap
 have HE := qh HE
 clear h hcap
 go_enter Tryd.func73, Tryd.ntmps73
 go_wp2_with (go_at_call 46; go_must (refine (next_any (n := 3) (H.out.alloc _) (by decide) (by decide)).mono ?_); rintro e w2 ⟨rfl, hm, hk⟩; obtain ⟨q, hq, hq8⟩ := nat_of (nextV_ok S at_ (n := 3) (by decide)); rw [hq]; have hq2 : q ≤ 2 := (by omega); have HBX2 := qh (hk.blk (Blk.new w 91 #[.bool f, .bool l, .bool c]) (ne_mb H.out (Nat.le_refl _)) (by decide)); have HM2 := qh hm; have HK2 := qh ((Kp.alloc B mb w _).trans hk); clear hm hk hq hq8)
 go_loopw [7, 9] (fun v7 v9 wr => ∃ (i at4 : Nat) (X : List NodeD) (A1 : Option Addr) (c1 : Nat) (M : List Int), i ≤ q + 1 ∧ v9 = .int .i64 i ∧ v7 = .slice A1 M.length c1 ∧ Hid (M.length = i) ∧ Hid (OwnI wr (.slice A1 M.length c1) M) ∧ Hid (∀ b, (Value.slice A1 M.length c1).ownBlock = some b → w.heap.size ≤ b) ∧ Hid (Mk B mb (fun k => F k ∨ (Value.slice A1 M.length c1).ownBlock = some k) S at4 (T ++ X) wr) ∧ Hid (Kp B mb w wr) ∧ Hid (X.length ≤ i * sbound d) ∧ Hid (Blk wr w.heap.size 91 #[.bool f, .bool l, .bool c])) (fun _ v9 _ => q + 1 - (intOf v9).toNat)
 case atStart => exact ⟨0, _, [], none, 0, [], Nat.zero_le _, rfl, rfl, qh rfl, qh (OwnI.nil_ _), qh (fun b e => by cases e), qh (by rw [List.append_nil]; exact HM2.out.less fun k hk => hk.resolve_right (fun e => by cases e)), HK2, qh (by simp), HBX2⟩
 case round =>
  obtain ⟨i, at4, X, A1, c1, M, hi, rfl, rfl, HMl, HO4, HNw0, HM4, HK4, HX4, HBX4⟩ := hrel
  clear HM2 HK2 HBX2
  have hml : M.length ≤ 3 := by have := HMl.out; omega
  by_cases hlt : i < q + 1
  ·have hmul : i * sbound d ≤ 2 * sbound d := Nat.mul_le_mul_right _ (by omega)
   have HMU := qh hmul
   have b0 := HBX4.out.cell 0
   have b1 := HBX4.out.cell 1
   have b2 := HBX4.out.cell 2
   have blt := HBX4.out.lt
   simp only [GG] at b0 b1 b2
   clear hmul
   go_wp2_with (first
    | (go_at_call 47; go_must (refine (HE.out.run HM4.out (by have h0 := HC.out; have h4 := HX4.out; have h5 := HMU.out; rw [List.length_append]; omega) f l c).mono ?_); rintro e w5 ⟨r5, at5, X5, rfl, hm, hk, hx⟩; have HO5 := qh (HO4.out.kp HM4.out hk); have HM5 := qh hm.assoc; have HK5 := qh (HK4.out.trans hk); have HX5 := qh hx; have HBX5 := qh (hk.blk HBX4.out (ne_mb H.out (Nat.le_refl _)) (by decide)); clear hm hk hx)
    | (at_builtin; go_must (refine wpList_appendN _ rfl _ _ rfl (.slice A1 M.length c1) M rfl (OwnI.bel HO5.out (by exact bl1)) _ 1 1 [r5] rfl (Rd.intG rfl r5) rfl (by first | omega | (simp; done) | (simp; omega)) ?_); intro v8 w8 ho8 hg8 hn8; generalize hG : M ++ [r5] = G at ho8; have HGl8 : Hid (G.length = M.length + 1) := qh (by rw [← hG, List.length_append]; rfl); obtain ⟨A8, c8, e8, -, -⟩ := Own.rd ho8; subst e8; have HM8 := qh (HM5.out.grown (by exact bl1) HO5.out (fun b e => Nat.le_trans H.out.wB (HNw0.out b e)) hg8 hn8 (fun b e => Own.lt ho8 e)); have HK8 := qh ((HK5.out.trans (Kp.alloc B mb _ _)).grown hg8 HNw0.out); have HNw8 : Hid (∀ b, (Value.slice A8 G.length c8).ownBlock = some b → w.heap.size ≤ b) := qh (new_own HNw0.out hn8 (Nat.le_trans HK5.out.size (alloc_le _ _))); have HBX8 := qh (blk_grown91 HBX5.out HO5.out (by exact bl1) hg8); have HO8 := qh ho8; clear hG ho8 hg8 hn8))
   go_round
   case rel => exact ⟨i + 1, at5, X ++ X5, A8, c8, G, by omega, by go_num, rfl, qh (by rw [HGl8.out, HMl.out]), HO8, HNw8, HM8, HK8, qh (by have h4 := HX4.out; have h5 := HX5.out; rw [List.length_append, Nat.add_mul]; omega), HBX8⟩
   case measure => simp [intOf]; omega
  ·obtain rfl : i = q + 1 := by omega
   have hmul : (q + 1) * sbound d ≤ 3 * sbound d := Nat.mul_le_mul_right _ (by omega)
   have HMU := qh hmul
   clear hmul
   go_wp2_with (go_at_call 48; have hgood := HM4.out.good.o (op := 41) (n := 0) (s := ⟨#[]⟩) (kids := M) (.inr (by decide)); go_must (refine (madd_own HM4.out HO4.out rfl rfl (by omega) 41 0 ⟨#[]⟩ hgood (by have h0 := HC.out; have h4 := HX4.out; have h5 := HMU.out; rw [List.length_append]; omega)).mono ?_); rintro e w9 ⟨r9, rfl, hr9, hm, hk⟩; have HM9 := qh hm.assoc; have HK9 := qh (HK4.out.trans hk); clear hm hk hgood hr9)
   go_ret
   exact ⟨_, _, X ++ [⟨41, 0, ⟨#[]⟩, 0, M⟩], rfl, HM9.out.less fun k hk => .inl hk, HK9.out, (by have h4 := HX4.out; have h5 := HMU.out; simp only [LL]; omega)⟩
theorem mst_14free {k : Int} (hk : k = 14 ∨ k = 15 ∨ k = 16) {d : Nat} (hd : d ≤ 9) (HE : STX d) {B mb at_ : Nat} {F : Nat → Prop} {S : List Int} {T : List NodeD} {w : World} (h : Mk B mb F S at_ T w) (hcap : T.length + sbound (d + 1) ≤ 549755813888) (f l c : Bool) (hl : ¬ 160 - (T.length : Int) ≤ 0) (hr : nextV S at_ 40 = k) : Calls Tryd.prog 47 #[.pointer (some ⟨mb, 0, none⟩), .int .i64 ((d : Int) + 1), .agg #[.bool f, .bool l, .bool c]] w (StP B mb F S w T (sbound (d + 1))) := by
 unfold StP
 have H := qh h
 have HB1 := qh (sbound_pos d)
 have HC : Hid (T.length + (15 * sbound d + 240) ≤ 549755813888) := qh hcap
 have hd1 : decide ((d : Int) + 1 ≤ 0) = false := decide_eq_false (by omega)
 have hl1 : decide (160 - (T.length : Int) ≤ 0) = false := decide_eq_false hl
 have HR := qh hr
 have HE := qh HE
 clear h hcap hr hl
 rcases hk with rfl | rfl | rfl
 all_goals
  go_enter Tryd.func47, Tryd.ntmps47
  go_upto_region 4 with (go_at_call 46; go_must (refine (next_any (n := 40) (H.out.alloc _) (by decide) (by decide)).mono ?_); rintro e w2 ⟨rfl, hm, hk⟩; rw [HR.out]; obtain ⟨A0, sn, c0, v0, hb0, -⟩ := hm.m; have x3 := hb0.cell 3; have xlt := hb0.lt; simp only [GG] at x3; clear hb0; have HM2 := qh hm; have HK2 := qh ((Kp.alloc B mb w _).trans hk); have HBX2 := qh (hk.blk (Blk.new w 91 #[.bool f, .bool l, .bool c]) (ne_mb H.out (Nat.le_refl _)) (by decide)); have b0 := HBX2.out.cell 0; have b1 := HBX2.out.cell 1; have b2 := HBX2.out.cell 2; have blt := HBX2.out.lt; simp only [GG] at b0 b1 b2; clear hm hk)
  clear hl1 x3 hd1
  go_upto_region 42 with (first | (go_at_call 71; go_must (refine (mexpr2_any HM2.out (by have h0 := HC.out; have hb := HB1.out; (try simp only [LL]); omega)).mono ?_); rintro e w3 ⟨r3, at3, X3, rfl, hm, hk, hx, hp⟩; have HM3 := qh hm; have HK3 := qh (HK2.out.trans hk); have HX3 := qh hx; have HP3 := qh hp; have HBX3 := qh (hk.blk HBX2.out (ne_mb H.out (Nat.le_refl _)) (by decide)); have b0 := HBX3.out.cell 0; have b1 := HBX3.out.cell 1; have b2 := HBX3.out.cell 2; have blt := HBX3.out.lt; simp only [GG] at b0 b1 b2; clear hm hk hx hp))
  go_upto_region 43 with (first | (go_at_call 73; go_must (refine (mblock_any HE.out hd HM3.out (by have h0 := HC.out; have hb := HB1.out; have h3 := HX3.out; (try simp only [LL]); omega) f l c).mono ?_); rintro e w4 ⟨r4, at4, X4, rfl, hm, hk, hx⟩; have HM4 := qh hm.assoc; have HK4 := qh (HK3.out.trans hk); have HX4 := qh hx; have HBX4 := qh (hk.blk HBX3.out (ne_mb H.out (Nat.le_refl _)) (by decide)); have b0 := HBX4.out.cell 0; have b1 := HBX4.out.cell 1; have b2 := HBX4.out.cell 2; have blt := HBX4.out.lt; simp only [GG] at b0 b1 b2; clear hm hk hx))
  by_cases hz : nextV S at4 2 = 0
  ·have HZ := qh hz
   clear hz
   go_wp2_with (first | (go_at_call 48; have hgood := HM5.out.good.o (op := 45) (n := 0) (s := ⟨#[]⟩) (kids := [r3, r4]) (.inr (by decide)); go_must (refine (madd_lit HM5.out [r3, r4] rfl rfl rfl (by simp) 45 0 ⟨#[]⟩ hgood (by have h0 := HC.out; have hb := HB1.out; have h3 := HX3.out; have h4 := HX4.out; (try simp only [LL]); omega)).mono ?_); rintro e w6 ⟨r6, rfl, hr6, hm, hk⟩; have HM6 := qh hm.assoc; have HK6 := qh (HK5.out.trans hk); have HBX6 := qh (hk.blk HBX5.out (ne_mb H.out (Nat.le_refl _)) (by decide)); have b0 := HBX6.out.cell 0; have b1 := HBX6.out.cell 1; have b2 := HBX6.out.cell 2; have blt := HBX6.out.lt; simp only [GG] at b0 b1 b2; clear hm hk hgood hr6) | (go_at_call 46; go_must (refine (next_any (n := 2) HM4.out (by decide) (by decide)).mono ?_); rintro e w5 ⟨rfl, hm, hk⟩; rw [HZ.out]; have HM5 := qh hm; have HK5 := qh (HK4.out.trans hk); have HBX5 := qh (hk.blk HBX4.out (ne_mb H.out (Nat.le_refl _)) (by decide)); have b0 := HBX5.out.cell 0; have b1 := HBX5.out.cell 1; have b2 := HBX5.out.cell 2; have blt := HBX5.out.lt; simp only [GG] at b0 b1 b2; clear hm hk))
   go_ret
   exact ⟨_, _, ((X3 ++ X4) ++ [⟨45, 0, ⟨#[]⟩, 0, [r3, r4]⟩]), rfl, HM6.out, HK6.out, (by have hb := HB1.out; have h3 := HX3.out; have h4 := HX4.out;  (try simp only [sbound, LL]); (try simp only [sbound]); omega)⟩
  ·obtain ⟨z, hzz⟩ : ∃ z, nextV S at4 2 = z := ⟨_, rfl⟩
   rw [hzz] at hz
   have hz0 : (z == 0) = false := beq_eq_false_iff_ne.2 hz
   have HZ := qh hzz
   clear hz hzz
   go_upto_region 45 with (first | (go_at_call 46; go_must (refine (next_any (n := 2) HM4.out (by decide) (by decide)).mono ?_); rintro e w5 ⟨rfl, hm, hk⟩; rw [HZ.out]; have HM5 := qh hm; have HK5 := qh (HK4.out.trans hk); have HBX5 := qh (hk.blk HBX4.out (ne_mb H.out (Nat.le_refl _)) (by decide)); have b0 := HBX5.out.cell 0; have b1 := HBX5.out.cell 1; have b2 := HBX5.out.cell 2; have blt := HBX5.out.lt; simp only [GG] at b0 b1 b2; clear hm hk))
   go_wp2_with (first | (go_at_call 48; have hgood := HM6.out.good.o (op := 45) (n := 0) (s := ⟨#[]⟩) (kids := [r3, r4, r6]) (.inr (by decide)); go_must (refine (madd_lit HM6.out [r3, r4, r6] rfl rfl rfl (by simp) 45 0 ⟨#[]⟩ hgood (by have h0 := HC.out; have hb := HB1.out; have h3 := HX3.out; have h4 := HX4.out; have h6 := HX6.out; (try simp only [LL]); omega)).mono ?_); rintro e w7 ⟨r7, rfl, hr7, hm, hk⟩; have HM7 := qh hm.assoc; have HK7 := qh (HK6.out.trans hk); have HBX7 := qh (hk.blk HBX6.out (ne_mb H.out (Nat.le_refl _)) (by decide)); have b0 := HBX7.out.cell 0; have b1 := HBX7.out.cell 1; have b2 := HBX7.out.cell 2; have blt := HBX7.out.lt; simp only [GG] at b0 b1 b2; clear hm hk hgood hr7) | (go_at_call 73; go_must (refine (mblock_any HE.out hd HM5.out (by have h0 := HC.out; have hb := HB1.out; have h3 := HX3.out; have h4 := HX4.out; (try simp only [LL]); omega) f l c).mono ?_); rintro e w6 ⟨r6, at6, X6, rfl, hm, hk, hx⟩; have HM6 := qh hm.assoc; have HK6 := qh (HK5.out.trans hk); have HX6 := qh hx; have HBX6 := qh (hk.blk HBX5.out (ne_mb H.out (Nat.le_refl _)) (by decide)); have b0 := HBX6.out.cell 0; have b1 := HBX6.out.cell 1; have b2 := HBX6.out.cell 2; have blt := HBX6.out.lt; simp only [GG] at b0 b1 b2; clear hm hk hx))
   go_ret
   exact ⟨_, _, (((X3 ++ X4) ++ X6) ++ [⟨45, 0, ⟨#[]⟩, 0, [r3, r4, r6]⟩]), rfl, HM7.out, HK7.out, (by have hb := HB1.out; have h3 := HX3.out; have h4 := HX4.out; have h6 := HX6.out;  (try simp only [sbound, LL]); (try simp only [sbound]); omega)⟩
theorem mst_17free {k : Int} (hk : k = 17 ∨ k = 18) {d : Nat} (hd : d ≤ 9) (HE : STX d) {B mb at_ : Nat} {F : Nat → Prop} {S : List Int} {T : List NodeD} {w : World} (h : Mk B mb F S at_ T w) (hcap : T.length + sbound (d + 1) ≤ 549755813888) (f l c : Bool) (hl : ¬ 160 - (T.length : Int) ≤ 0) (hr : nextV S at_ 40 = k) : Calls Tryd.prog 47 #[.pointer (some ⟨mb, 0, none⟩), .int .i64 ((d : Int) + 1), .agg #[.bool f, .bool l, .bool c]] w (StP B mb F S w T (sbound (d + 1))) := by
 unfold StP
 have H := qh h
 have HB1 := qh (sbound_pos d)
 have HC : Hid (T.length + (15 * sbound d + 240) ≤ 549755813888) := qh hcap
 have hd1 : decide ((d : Int) + 1 ≤ 0) = false := decide_eq_false (by omega)
 have hl1 : decide (160 - (T.length : Int) ≤ 0) = false := decide_eq_false hl
 have HR := qh hr
 have HE := qh HE
 clear h hcap hr hl
 rcases hk with rfl | rfl
 all_goals
  go_enter Tryd.func47, Tryd.ntmps47
  go_upto_region 4 with (go_at_call 46; go_must (refine (next_any (n := 40) (H.out.alloc _) (by decide) (by decide)).mono ?_); rintro e w2 ⟨rfl, hm, hk⟩; rw [HR.out]; obtain ⟨A0, sn, c0, v0, hb0, -⟩ := hm.m; have x3 := hb0.cell 3; have xlt := hb0.lt; simp only [GG] at x3; clear hb0; have HM2 := qh hm; have HK2 := qh ((Kp.alloc B mb w _).trans hk); have HBX2 := qh (hk.blk (Blk.new w 91 #[.bool f, .bool l, .bool c]) (ne_mb H.out (Nat.le_refl _)) (by decide)); have b0 := HBX2.out.cell 0; have b1 := HBX2.out.cell 1; have b2 := HBX2.out.cell 2; have blt := HBX2.out.lt; simp only [GG] at b0 b1 b2; clear hm hk)
  clear hl1 x3 hd1
  go_upto_region 49 with (first | (go_at_call 71; go_must (refine (mexpr2_any HM2.out (by have h0 := HC.out; have hb := HB1.out; (try simp only [LL]); omega)).mono ?_); rintro e w3 ⟨r3, at3, X3, rfl, hm, hk, hx, hp⟩; have HM3 := qh hm; have HK3 := qh (HK2.out.trans hk); have HX3 := qh hx; have HP3 := qh hp; have HBX3 := qh (hk.blk HBX2.out (ne_mb H.out (Nat.le_refl _)) (by decide)); have b0 := HBX3.out.cell 0; have b1 := HBX3.out.cell 1; have b2 := HBX3.out.cell 2; have blt := HBX3.out.lt; simp only [GG] at b0 b1 b2; clear hm hk hx hp))
  go_wp2_with (first | (go_at_call 48; have hgood := HM4.out.good.o (op := 46) (n := 0) (s := ⟨#[]⟩) (kids := [r3, r4]) (.inr (by decide)); go_must (refine (madd_lit HM4.out [r3, r4] rfl rfl rfl (by simp) 46 0 ⟨#[]⟩ hgood (by have h0 := HC.out; have hb := HB1.out; have h3 := HX3.out; have h4 := HX4.out; (try simp only [LL]); omega)).mono ?_); rintro e w5 ⟨r5, rfl, hr5, hm, hk⟩; have HM5 := qh hm.assoc; have HK5 := qh (HK4.out.trans hk); have HBX5 := qh (hk.blk HBX4.out (ne_mb H.out (Nat.le_refl _)) (by decide)); have b0 := HBX5.out.cell 0; have b1 := HBX5.out.cell 1; have b2 := HBX5.out.cell 2; have blt := HBX5.out.lt; simp only [GG] at b0 b1 b2; clear hm hk hgood hr5) | (go_at_call 73; go_must (refine (mblock_any HE.out hd HM3.out (by have h0 := HC.out; have hb := HB1.out; have h3 := HX3.out; (try simp only [LL]); omega) f true c).mono ?_); rintro e w4 ⟨r4, at4, X4, rfl, hm, hk, hx⟩; have HM4 := qh hm.assoc; have HK4 := qh (HK3.out.trans hk); have HX4 := qh hx; have HBX4 := qh (hk.blk HBX3.out (ne_mb H.out (Nat.le_refl _)) (by decide)); have b0 := HBX4.out.cell 0; have b1 := HBX4.out.cell 1; have b2 := HBX4.out.cell 2; have blt := HBX4.out.lt; simp only [GG] at b0 b1 b2; clear hm hk hx))
  go_ret
  exact ⟨_, _, ((X3 ++ X4) ++ [⟨46, 0, ⟨#[]⟩, 0, [r3, r4]⟩]), rfl, HM5.out, HK5.out, (by have hb := HB1.out; have h3 := HX3.out; have h4 := HX4.out;  (try simp only [sbound, LL]); (try simp only [sbound]); omega)⟩
theorem mst_19free {k : Int} (hk : k = 19 ∨ k = 20 ∨ k = 21) {d : Nat} (hd : d ≤ 9) (HE : STX d) {B mb at_ : Nat} {F : Nat → Prop} {S : List Int} {T : List NodeD} {w : World} (h : Mk B mb F S at_ T w) (hcap : T.length + sbound (d + 1) ≤ 549755813888) (f l c : Bool) (hl : ¬ 160 - (T.length : Int) ≤ 0) (hr : nextV S at_ 40 = k) : Calls Tryd.prog 47 #[.pointer (some ⟨mb, 0, none⟩), .int .i64 ((d : Int) + 1), .agg #[.bool f, .bool l, .bool c]] w (StP B mb F S w T (sbound (d + 1))) := by
 unfold StP
 have H := qh h
 have HB1 := qh (sbound_pos d)
 have HC : Hid (T.length + (15 * sbound d + 240) ≤ 549755813888) := qh hcap
 have hd1 : decide ((d : Int) + 1 ≤ 0) = false := decide_eq_false (by omega)
 have hl1 : decide (160 - (T.length : Int) ≤ 0) = false := decide_eq_false hl
 have HR := qh hr
 have HE := qh HE
 clear h hcap hr hl
 rcases hk with rfl | rfl | rfl
 all_goals
  go_enter Tryd.func47, Tryd.ntmps47
  go_upto_region 4 with (go_at_call 46; go_must (refine (next_any (n := 40) (H.out.alloc _) (by decide) (by decide)).mono ?_); rintro e w2 ⟨rfl, hm, hk⟩; rw [HR.out]; obtain ⟨A0, sn, c0, v0, hb0, -⟩ := hm.m; have x3 := hb0.cell 3; have xlt := hb0.lt; simp only [GG] at x3; clear hb0; have HM2 := qh hm; have HK2 := qh ((Kp.alloc B mb w _).trans hk); have HBX2 := qh (hk.blk (Blk.new w 91 #[.bool f, .bool l, .bool c]) (ne_mb H.out (Nat.le_refl _)) (by decide)); have b0 := HBX2.out.cell 0; have b1 := HBX2.out.cell 1; have b2 := HBX2.out.cell 2; have blt := HBX2.out.lt; simp only [GG] at b0 b1 b2; clear hm hk)
  clear hl1 x3 hd1
  go_upto_region 54 with (first | (go_at_call 70; go_must (refine (mtargets_any HM2.out (by have h0 := HC.out; have hb := HB1.out; (try simp only [LL]); omega)).mono ?_); rintro e w3 ⟨r3, at3, X3, rfl, hm, hk, hx, hp⟩; have HM3 := qh hm; have HK3 := qh (HK2.out.trans hk); have HX3 := qh hx; have HP3 := qh hp; have HBX3 := qh (hk.blk HBX2.out (ne_mb H.out (Nat.le_refl _)) (by decide)); have b0 := HBX3.out.cell 0; have b1 := HBX3.out.cell 1; have b2 := HBX3.out.cell 2; have blt := HBX3.out.lt; simp only [GG] at b0 b1 b2; clear hm hk hx hp))
  go_upto_region 55 with (first | (go_at_call 71; go_must (refine (mexpr2_any HM3.out (by have h0 := HC.out; have hb := HB1.out; have h3 := HX3.out; (try simp only [LL]); omega)).mono ?_); rintro e w4 ⟨r4, at4, X4, rfl, hm, hk, hx, hp⟩; have HM4 := qh hm.assoc; have HK4 := qh (HK3.out.trans hk); have HX4 := qh hx; have HP4 := qh hp.assoc; have HBX4 := qh (hk.blk HBX3.out (ne_mb H.out (Nat.le_refl _)) (by decide)); have b0 := HBX4.out.cell 0; have b1 := HBX4.out.cell 1; have b2 := HBX4.out.cell 2; have blt := HBX4.out.lt; simp only [GG] at b0 b1 b2; clear hm hk hx hp))
  go_wp2_with (first | (go_at_call 48; have hgood := HM5.out.good.o (op := 47) (n := 0) (s := ⟨#[]⟩) (kids := [r3, r4, r5]) (.inr (by decide)); go_must (refine (madd_lit HM5.out [r3, r4, r5] rfl rfl rfl (by simp) 47 0 ⟨#[]⟩ hgood (by have h0 := HC.out; have hb := HB1.out; have h3 := HX3.out; have h4 := HX4.out; have h5 := HX5.out; (try simp only [LL]); omega)).mono ?_); rintro e w6 ⟨r6, rfl, hr6, hm, hk⟩; have HM6 := qh hm.assoc; have HK6 := qh (HK5.out.trans hk); have HBX6 := qh (hk.blk HBX5.out (ne_mb H.out (Nat.le_refl _)) (by decide)); have b0 := HBX6.out.cell 0; have b1 := HBX6.out.cell 1; have b2 := HBX6.out.cell 2; have blt := HBX6.out.lt; simp only [GG] at b0 b1 b2; clear hm hk hgood hr6) | (go_at_call 73; go_must (refine (mblock_any HE.out hd HM4.out (by have h0 := HC.out; have hb := HB1.out; have h3 := HX3.out; have h4 := HX4.out; (try simp only [LL]); omega) f true c).mono ?_); rintro e w5 ⟨r5, at5, X5, rfl, hm, hk, hx⟩; have HM5 := qh hm.assoc; have HK5 := qh (HK4.out.trans hk); have HX5 := qh hx; have HBX5 := qh (hk.blk HBX4.out (ne_mb H.out (Nat.le_refl _)) (by decide)); have b0 := HBX5.out.cell 0; have b1 := HBX5.out.cell 1; have b2 := HBX5.out.cell 2; have blt := HBX5.out.lt; simp only [GG] at b0 b1 b2; clear hm hk hx))
  go_ret
  exact ⟨_, _, (((X3 ++ X4) ++ X5) ++ [⟨47, 0, ⟨#[]⟩, 0, [r3, r4, r5]⟩]), rfl, HM6.out, HK6.out, (by have hb := HB1.out; have h3 := HX3.out; have h4 := HX4.out; have h5 := HX5.out;  (try simp only [sbound, LL]); (try simp only [sbound]); omega)⟩
theorem mst_33freeft {k : Int} (hk : k = 33 ∨ k = 34 ∨ k = 35) {d : Nat} (hd : d ≤ 9) {B mb at_ : Nat} {F : Nat → Prop} {S : List Int} {T : List NodeD} {w : World} (h : Mk B mb F S at_ T w) (hcap : T.length + sbound (d + 1) ≤ 549755813888) (l c : Bool) (hl : ¬ 160 - (T.length : Int) ≤ 0) (hr : nextV S at_ 40 = k) : Calls Tryd.prog 47 #[.pointer (some ⟨mb, 0, none⟩), .int .i64 ((d : Int) + 1), .agg #[.bool true, .bool l, .bool c]] w (StP B mb F S w T (sbound (d + 1))) := by
 unfold StP
 have H := qh h
 have HB1 := qh (sbound_pos d)
 have HC : Hid (T.length + (15 * sbound d + 240) ≤ 549755813888) := qh hcap
 have hd1 : decide ((d : Int) + 1 ≤ 0) = false := decide_eq_false (by omega)
 have hl1 : decide (160 - (T.length : Int) ≤ 0) = false := decide_eq_false hl
 have HR := qh hr
 clear h hcap hr hl
 rcases hk with rfl | rfl | rfl
 all_goals
  go_enter Tryd.func47, Tryd.ntmps47
  go_upto_region 4 with (go_at_call 46; go_must (refine (next_any (n := 40) (H.out.alloc _) (by decide) (by decide)).mono ?_); rintro e w2 ⟨rfl, hm, hk⟩; rw [HR.out]; obtain ⟨A0, sn, c0, v0, hb0, -⟩ := hm.m; have x3 := hb0.cell 3; have xlt := hb0.lt; simp only [GG] at x3; clear hb0; have HM2 := qh hm; have HK2 := qh ((Kp.alloc B mb w _).trans hk); have HBX2 := qh (hk.blk (Blk.new w 91 #[.bool true, .bool l, .bool c]) (ne_mb H.out (Nat.le_refl _)) (by decide)); have b0 := HBX2.out.cell 0; have b1 := HBX2.out.cell 1; have b2 := HBX2.out.cell 2; have blt := HBX2.out.lt; simp only [GG] at b0 b1 b2; clear hm hk)
  clear hl1 x3 hd1
  go_wp2_with (first | (go_at_call 48; have hgood := HM3.out.good.o (op := 62) (n := 0) (s := ⟨#[]⟩) (kids := [r3]) (.inr (by decide)); go_must (refine (madd_lit HM3.out [r3] rfl rfl rfl (by simp) 62 0 ⟨#[]⟩ hgood (by have h0 := HC.out; have hb := HB1.out; have h3 := HX3.out; (try simp only [LL]); omega)).mono ?_); rintro e w4 ⟨r4, rfl, hr4, hm, hk⟩; have HM4 := qh hm.assoc; have HK4 := qh (HK3.out.trans hk); have HBX4 := qh (hk.blk HBX3.out (ne_mb H.out (Nat.le_refl _)) (by decide)); have b0 := HBX4.out.cell 0; have b1 := HBX4.out.cell 1; have b2 := HBX4.out.cell 2; have blt := HBX4.out.lt; simp only [GG] at b0 b1 b2; clear hm hk hgood hr4) | (go_at_call 71; go_must (refine (mexpr2_any HM2.out (by have h0 := HC.out; have hb := HB1.out; (try simp only [LL]); omega)).mono ?_); rintro e w3 ⟨r3, at3, X3, rfl, hm, hk, hx, hp⟩; have HM3 := qh hm; have HK3 := qh (HK2.out.trans hk); have HX3 := qh hx; have HP3 := qh hp; have HBX3 := qh (hk.blk HBX2.out (ne_mb H.out (Nat.le_refl _)) (by decide)); have b0 := HBX3.out.cell 0; have b1 := HBX3.out.cell 1; have b2 := HBX3.out.cell 2; have blt := HBX3.out.lt; simp only [GG] at b0 b1 b2; clear hm hk hx hp))
  go_ret
  exact ⟨_, _, (X3 ++ [⟨62, 0, ⟨#[]⟩, 0, [r3]⟩]), rfl, HM4.out, HK4.out, (by have hb := HB1.out; have h3 := HX3.out;  (try simp only [sbound, LL]); (try simp only [sbound]); omega)⟩
theorem mst_36freeft {k : Int} (hk : k = 36) {d : Nat} (hd : d ≤ 9) {B mb at_ : Nat} {F : Nat → Prop} {S : List Int} {T : List NodeD} {w : World} (h : Mk B mb F S at_ T w) (hcap : T.length + sbound (d + 1) ≤ 549755813888) (l c : Bool) (hl : ¬ 160 - (T.length : Int) ≤ 0) (hr : nextV S at_ 40 = k) : Calls Tryd.prog 47 #[.pointer (some ⟨mb, 0, none⟩), .int .i64 ((d : Int) + 1), .agg #[.bool true, .bool l, .bool c]] w (StP B mb F S w T (sbound (d + 1))) := by
 unfold StP
 have H := qh h
 have HB1 := qh (sbound_pos d)
 have HC : Hid (T.length + (15 * sbound d + 240) ≤ 549755813888) := qh hcap
 have hd1 : decide ((d : Int) + 1 ≤ 0) = false := decide_eq_false (by omega)
 have hl1 : decide (160 - (T.length : Int) ≤ 0) = false := decide_eq_false hl
 have HR := qh hr
 clear h hcap hr hl
 subst hk
 go_enter Tryd.func47, Tryd.ntmps47
 go_upto_region 4 with (go_at_call 46; go_must (refine (next_any (n := 40) (H.out.alloc _) (by decide) (by decide)).mono ?_); rintro e w2 ⟨rfl, hm, hk⟩; rw [HR.out]; obtain ⟨A0, sn, c0, v0, hb0, -⟩ := hm.m; have x3 := hb0.cell 3; have xlt := hb0.lt; simp only [GG] at x3; clear hb0; have HM2 := qh hm; have HK2 := qh ((Kp.alloc B mb w _).trans hk); have HBX2 := qh (hk.blk (Blk.new w 91 #[.bool true, .bool l, .bool c]) (ne_mb H.out (Nat.le_refl _)) (by decide)); have b0 := HBX2.out.cell 0; have b1 := HBX2.out.cell 1; have b2 := HBX2.out.cell 2; have blt := HBX2.out.lt; simp only [GG] at b0 b1 b2; clear hm hk)
 clear hl1 x3 hd1
 go_wp2_with (first | (go_at_call 48; have hgood := HM2.out.good.o (op := 53) (n := 0) (s := ⟨#[]⟩) (kids := []) (.inr (by decide)); go_must (refine (madd_none HM2.out 53 0 ⟨#[]⟩ hgood (by have h0 := HC.out; have hb := HB1.out; (try simp only [LL]); omega)).mono ?_); rintro e w3 ⟨r3, rfl, hr3, hm, hk⟩; have HM3 := qh hm; have HK3 := qh (HK2.out.trans hk); have HBX3 := qh (hk.blk HBX2.out (ne_mb H.out (Nat.le_refl _)) (by decide)); have b0 := HBX3.out.cell 0; have b1 := HBX3.out.cell 1; have b2 := HBX3.out.cell 2; have blt := HBX3.out.lt; simp only [GG] at b0 b1 b2; clear hm hk hgood hr3))
 go_ret
 exact ⟨_, _, [⟨53, 0, ⟨#[]⟩, 0, []⟩], rfl, HM3.out, HK3.out, (by have hb := HB1.out;  (try simp only [sbound, LL]); (try simp only [sbound]); omega)⟩
theorem mst_33freeff {k : Int} (hk : k = 33 ∨ k = 34 ∨ k = 35 ∨ k = 36) {d : Nat} (hd : d ≤ 9) {B mb at_ : Nat} {F : Nat → Prop} {S : List Int} {T : List NodeD} {w : World} (h : Mk B mb F S at_ T w) (hcap : T.length + sbound (d + 1) ≤ 549755813888) (l c : Bool) (hl : ¬ 160 - (T.length : Int) ≤ 0) (hr : nextV S at_ 40 = k) : Calls Tryd.prog 47 #[.pointer (some ⟨mb, 0, none⟩), .int .i64 ((d : Int) + 1), .agg #[.bool false, .bool l, .bool c]] w (StP B mb F S w T (sbound (d + 1))) := by
 unfold StP
 have H := qh h
 have HB1 := qh (sbound_pos d)
 have HC : Hid (T.length + (15 * sbound d + 240) ≤ 549755813888) := qh hcap
 have hd1 : decide ((d : Int) + 1 ≤ 0) = false := decide_eq_false (by omega)
 have hl1 : decide (160 - (T.length : Int) ≤ 0) = false := decide_eq_false hl
 have HR := qh hr
 clear h hcap hr hl
 rcases hk with rfl | rfl | rfl | rfl
 all_goals
  go_enter Tryd.func47, Tryd.ntmps47
  go_upto_region 4 with (go_at_call 46; go_must (refine (next_any (n := 40) (H.out.alloc _) (by decide) (by decide)).mono ?_); rintro e w2 ⟨rfl, hm, hk⟩; rw [HR.out]; obtain ⟨A0, sn, c0, v0, hb0, -⟩ := hm.m; have x3 := hb0.cell 3; have xlt := hb0.lt; simp only [GG] at x3; clear hb0; have HM2 := qh hm; have HK2 := qh ((Kp.alloc B mb w _).trans hk); have HBX2 := qh (hk.blk (Blk.new w 91 #[.bool false, .bool l, .bool c]) (ne_mb H.out (Nat.le_refl _)) (by decide)); have b0 := HBX2.out.cell 0; have b1 := HBX2.out.cell 1; have b2 := HBX2.out.cell 2; have blt := HBX2.out.lt; simp only [GG] at b0 b1 b2; clear hm hk)
  clear hl1 x3 hd1
  go_wp2_with (first | (go_at_call 48; have hgood := HM3.out.good.o (op := 42) (n := 0) (s := ⟨#[]⟩) (kids := [r3]) (.inr (by decide)); go_must (refine (madd_lit HM3.out [r3] rfl rfl rfl (by simp) 42 0 ⟨#[]⟩ hgood (by have h0 := HC.out; have hb := HB1.out; have h3 := HX3.out; (try simp only [LL]); omega)).mono ?_); rintro e w4 ⟨r4, rfl, hr4, hm, hk⟩; have HM4 := qh hm.assoc; have HK4 := qh (HK3.out.trans hk); have HBX4 := qh (hk.blk HBX3.out (ne_mb H.out (Nat.le_refl _)) (by decide)); have b0 := HBX4.out.cell 0; have b1 := HBX4.out.cell 1; have b2 := HBX4.out.cell 2; have blt := HBX4.out.lt; simp only [GG] at b0 b1 b2; clear hm hk hgood hr4) | (go_at_call 71; go_must (refine (mexpr3_any HM2.out (by have h0 := HC.out; have hb := HB1.out; (try simp only [LL]); omega)).mono ?_); rintro e w3 ⟨r3, at3, X3, rfl, hm, hk, hx, hp⟩; have HM3 := qh hm; have HK3 := qh (HK2.out.trans hk); have HX3 := qh hx; have HP3 := qh hp; have HBX3 := qh (hk.blk HBX2.out (ne_mb H.out (Nat.le_refl _)) (by decide)); have b0 := HBX3.out.cell 0; have b1 := HBX3.out.cell 1; have b2 := HBX3.out.cell 2; have blt := HBX3.out.lt; simp only [GG] at b0 b1 b2; clear hm hk hx hp))
  go_ret
  exact ⟨_, _, (X3 ++ [⟨42, 0, ⟨#[]⟩, 0, [r3]⟩]), rfl, HM4.out, HK4.out, (by have hb := HB1.out; have h3 := HX3.out;  (try simp only [sbound, LL]); (try simp only [sbound]); omega)⟩
theorem mst_37free {k : Int} (hk : k = 37 ∨ k = 38 ∨ k = 39) {d : Nat} (hd : d ≤ 9) {B mb at_ : Nat} {F : Nat → Prop} {S : List Int} {T : List NodeD} {w : World} (h : Mk B mb F S at_ T w) (hcap : T.length + sbound (d + 1) ≤ 549755813888) (f l c : Bool) (hl : ¬ 160 - (T.length : Int) ≤ 0) (hr : nextV S at_ 40 = k) : Calls Tryd.prog 47 #[.pointer (some ⟨mb, 0, none⟩), .int .i64 ((d : Int) + 1), .agg #[.bool f, .bool l, .bool c]] w (StP B mb F S w T (sbound (d + 1))) := by
 unfold StP
 have H := qh h
 have HB1 := qh (sbound_pos d)
 have HC : Hid (T.length + (15 * sbound d + 240) ≤ 549755813888) := qh hcap
 have hd1 : decide ((d : Int) + 1 ≤ 0) = false := decide_eq_false (by omega)
 have hl1 : decide (160 - (T.length : Int) ≤ 0) = false := decide_eq_false hl
 have HR := qh hr
 clear h hcap hr hl
 rcases hk with rfl | rfl | rfl
 all_goals
  go_enter Tryd.func47, Tryd.ntmps47
  go_upto_region 4 with (go_at_call 46; go_must (refine (next_any (n := 40) (H.out.alloc _) (by decide) (by decide)).mono ?_); rintro e w2 ⟨rfl, hm, hk⟩; rw [HR.out]; obtain ⟨A0, sn, c0, v0, hb0, -⟩ := hm.m; have x3 := hb0.cell 3; have xlt := hb0.lt; simp only [GG] at x3; clear hb0; have HM2 := qh hm; have HK2 := qh ((Kp.alloc B mb w _).trans hk); clear hm hk)
  clear hl1 x3 hd1
  go_wp2_with (first | (go_at_call 48; have hgood := HM3.out.good.o (op := 42) (n := 0) (s := ⟨#[]⟩) (kids := [r3]) (.inr (by decide)); go_must (refine (madd_lit HM3.out [r3] rfl rfl rfl (by simp) 42 0 ⟨#[]⟩ hgood (by have h0 := HC.out; have hb := HB1.out; have h3 := HX3.out; (try simp only [LL]); omega)).mono ?_); rintro e w4 ⟨r4, rfl, hr4, hm, hk⟩; have HM4 := qh hm.assoc; have HK4 := qh (HK3.out.trans hk); clear hm hk hgood hr4) | (go_at_call 71; go_must (refine (mexpr3_any HM2.out (by have h0 := HC.out; have hb := HB1.out; (try simp only [LL]); omega)).mono ?_); rintro e w3 ⟨r3, at3, X3, rfl, hm, hk, hx, hp⟩; have HM3 := qh hm; have HK3 := qh (HK2.out.trans hk); have HX3 := qh hx; have HP3 := qh hp; clear hm hk hx hp))
  go_ret
  exact ⟨_, _, (X3 ++ [⟨42, 0, ⟨#[]⟩, 0, [r3]⟩]), rfl, HM4.out, HK4.out, (by have hb := HB1.out; have h3 := HX3.out;  (try simp only [sbound, LL]); (try simp only [sbound]); omega)⟩
end Go.Proofs.YtjdcicopjipmnaaDoor
