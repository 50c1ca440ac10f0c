/- The maker: statement at any depth. The maker: Made. Tokens: rows of tokens; sign, word, words, inside, rows. Tokens: an operator. -/
import Derived.Test.YtjdcicopjipmnaaDoorZai
import Derived.Test.YtjdcicopjipmnaaDoorZal
import Derived.Test.YtjdcicopjipmnaaDoorZat
import Derived.Test.YtjdcicopjipmnaaDoorZau
namespace Go.Proofs.YtjdcicopjipmnaaDoor
set_option maxRecDepth 100000
set_option maxHeartbeats 16000000
section
open Go.RowKit
set_option linter.unusedVariables false
set_option linter.unusedSimpArgs false
theorem mst_29free {k : Int} (hk : k = 29 ∨ k = 30 ∨ k = 31 ∨ k = 32) {d : Nat} (hd : d ≤ 9) (HE : STX d) {B mb at_ : Nat} {F : Nat → Prop} {S : List Int} {T : List NodeD} {w : World} (h : Mk B mb F S at_ T w) (hcap : T.length + sbound (d + 1) ≤ 549755813888) (f l c : Bool) (hl : ¬ 160 - (T.length : Int) ≤ 0) (hr : nextV S at_ 40 = k) : Calls Tryd.prog 47 #[.pointer (some ⟨mb, 0, none⟩), .int .i64 ((d : Int) + 1), .agg #[.bool f, .bool l, .bool c]] w (StP B mb F S w T (sbound (d + 1))) := by
 unfold StP
 have H := qh h
 have HB1 := qh (sbound_pos d)
 have HC : Hid (T.length + (15 * sbound d + 240) ≤ 549755813888) := qh hcap
 have hd1 : decide ((d : Int) + 1 ≤ 0) = false := decide_eq_false (by omega)
 have hl1 : decide (160 - (T.length : Int) ≤ 0) = false := decide_eq_false hl
 have HR := qh hr
 have HE := qh HE
 clear h hcap hr hl
 rcases hk with rfl | rfl | rfl | rfl
 all_goals
  go_enter Tryd.func47, Tryd.ntmps47
  go_upto_region 4 with (go_at_call 46; go_must (refine (next_any (n := 40) (H.out.alloc _) (by decide) (by decide)).mono ?_); rintro e w2 ⟨rfl, hm, hk⟩; rw [HR.out]; obtain ⟨A0, sn, c0, v0, hb0, -⟩ := hm.m; have x3 := hb0.cell 3; have xlt := hb0.lt; simp only [GG] at x3; clear hb0; have HM2 := qh hm; have HK2 := qh ((Kp.alloc B mb w _).trans hk); have HBX2 := qh (hk.blk (Blk.new w 91 #[.bool f, .bool l, .bool c]) (ne_mb H.out (Nat.le_refl _)) (by decide)); have b0 := HBX2.out.cell 0; have b1 := HBX2.out.cell 1; have b2 := HBX2.out.cell 2; have blt := HBX2.out.lt; simp only [GG] at b0 b1 b2; clear hm hk)
  clear hl1 x3 hd1
  go_wp2_with (first | (go_at_call 75; go_must (refine (mtry_any HE.out hd HM2.out (by have h0 := HC.out; have hb := HB1.out; (try simp only [LL]); omega) f l c).mono ?_); rintro e w3 ⟨r3, at3, X3, rfl, hm, hk, hx⟩; have HM3 := qh hm; have HK3 := qh (HK2.out.trans hk); have HX3 := qh hx; have HBX3 := qh (hk.blk HBX2.out (ne_mb H.out (Nat.le_refl _)) (by decide)); have b0 := HBX3.out.cell 0; have b1 := HBX3.out.cell 1; have b2 := HBX3.out.cell 2; have blt := HBX3.out.lt; simp only [GG] at b0 b1 b2; clear hm hk hx))
  go_ret
  exact ⟨_, _, X3, rfl, HM3.out, HK3.out, (by have hb := HB1.out; have h3 := HX3.out;  (try simp only [sbound, LL]); (try simp only [sbound]); omega)⟩
theorem stx_zero : STX 0 := ⟨fun {B mb at_ F S T w} h hc f l c => by
 have h1 := nextV_ok S at_ (n := 40) (by decide)
 have h3 : nextV S at_ 40 % 14 = 0 ∨ nextV S at_ 40 % 14 = 1 ∨ nextV S at_ 40 % 14 = 2 ∨ nextV S at_ 40 % 14 = 3 ∨ nextV S at_ 40 % 14 = 4 ∨ nextV S at_ 40 % 14 = 5 ∨ nextV S at_ 40 % 14 = 6 ∨ nextV S at_ 40 % 14 = 7 ∨ nextV S at_ 40 % 14 = 8 ∨ nextV S at_ 40 % 14 = 9 ∨ nextV S at_ 40 % 14 = 10 ∨ nextV S at_ 40 % 14 = 11 ∨ nextV S at_ 40 % 14 = 12 ∨ nextV S at_ 40 % 14 = 13 := by omega
 rcases h3 with h3 | h3 | h3 | h3 | h3 | h3 | h3 | h3 | h3 | h3 | h3 | h3 | h3 | h3
 ·exact mst_0all (k := 0) (by simp) h hc f l c (.inr (.inr ⟨by decide, h3⟩))
 ·exact mst_0all (k := 1) (by simp) h hc f l c (.inr (.inr ⟨by decide, h3⟩))
 ·exact mst_0all (k := 2) (by simp) h hc f l c (.inr (.inr ⟨by decide, h3⟩))
 ·exact mst_0all (k := 3) (by simp) h hc f l c (.inr (.inr ⟨by decide, h3⟩))
 ·exact mst_0all (k := 4) (by simp) h hc f l c (.inr (.inr ⟨by decide, h3⟩))
 ·exact mst_5all (k := 5) (by simp) h hc f l c (.inr (.inr ⟨by decide, h3⟩))
 ·exact mst_5all (k := 6) (by simp) h hc f l c (.inr (.inr ⟨by decide, h3⟩))
 ·exact mst_7all (k := 7) (by simp) h hc f l c (.inr (.inr ⟨by decide, h3⟩))
 ·exact mst_8all (k := 8) (by simp) h hc f l c (.inr (.inr ⟨by decide, h3⟩))
 ·exact mst_9all (k := 9) (by simp) h hc f l c (.inr (.inr ⟨by decide, h3⟩))
 ·exact mst_10all (k := 10) (by simp) h hc f l c (.inr (.inr ⟨by decide, h3⟩))
 ·exact mst_11all (k := 11) (by simp) h hc f l c (.inr (.inr ⟨by decide, h3⟩))
 ·exact mst_12all (k := 12) (by simp) h hc f l c (.inr (.inr ⟨by decide, h3⟩))
 ·cases l
  ·cases f
   ·exact mst_13allfflf (k := 13) (by simp) h hc c (.inr (.inr ⟨by decide, h3⟩))
   ·exact mst_13allftlf (k := 13) (by simp) h hc c (.inr (.inr ⟨by decide, h3⟩))
  ·exact mst_13alllt (k := 13) (by simp) h hc f c (.inr (.inr ⟨by decide, h3⟩))
⟩
theorem stx_succ {d : Nat} (hd : d ≤ 9) (HE : STX d) : STX (d + 1) := ⟨fun {B mb at_ F S T w} h hc f l c => by
 rw [show (((d + 1 : Nat)) : Int) = (d : Int) + 1 from by omega]
 have h1 := nextV_ok S at_ (n := 40) (by decide)
 have hd1 : decide ((d : Int) + 1 ≤ 0) = false := decide_eq_false (by omega)
 by_cases hl : 160 - (T.length : Int) ≤ 0
 ·have h3 : nextV S at_ 40 % 14 = 0 ∨ nextV S at_ 40 % 14 = 1 ∨ nextV S at_ 40 % 14 = 2 ∨ nextV S at_ 40 % 14 = 3 ∨ nextV S at_ 40 % 14 = 4 ∨ nextV S at_ 40 % 14 = 5 ∨ nextV S at_ 40 % 14 = 6 ∨ nextV S at_ 40 % 14 = 7 ∨ nextV S at_ 40 % 14 = 8 ∨ nextV S at_ 40 % 14 = 9 ∨ nextV S at_ 40 % 14 = 10 ∨ nextV S at_ 40 % 14 = 11 ∨ nextV S at_ 40 % 14 = 12 ∨ nextV S at_ 40 % 14 = 13 := by omega
  rcases h3 with h3 | h3 | h3 | h3 | h3 | h3 | h3 | h3 | h3 | h3 | h3 | h3 | h3 | h3
  ·exact mst_0all (k := 0) (by simp) h hc f l c (.inr (.inl ⟨hd1, decide_eq_true hl, h3⟩))
  ·exact mst_0all (k := 1) (by simp) h hc f l c (.inr (.inl ⟨hd1, decide_eq_true hl, h3⟩))
  ·exact mst_0all (k := 2) (by simp) h hc f l c (.inr (.inl ⟨hd1, decide_eq_true hl, h3⟩))
  ·exact mst_0all (k := 3) (by simp) h hc f l c (.inr (.inl ⟨hd1, decide_eq_true hl, h3⟩))
  ·exact mst_0all (k := 4) (by simp) h hc f l c (.inr (.inl ⟨hd1, decide_eq_true hl, h3⟩))
  ·exact mst_5all (k := 5) (by simp) h hc f l c (.inr (.inl ⟨hd1, decide_eq_true hl, h3⟩))
  ·exact mst_5all (k := 6) (by simp) h hc f l c (.inr (.inl ⟨hd1, decide_eq_true hl, h3⟩))
  ·exact mst_7all (k := 7) (by simp) h hc f l c (.inr (.inl ⟨hd1, decide_eq_true hl, h3⟩))
  ·exact mst_8all (k := 8) (by simp) h hc f l c (.inr (.inl ⟨hd1, decide_eq_true hl, h3⟩))
  ·exact mst_9all (k := 9) (by simp) h hc f l c (.inr (.inl ⟨hd1, decide_eq_true hl, h3⟩))
  ·exact mst_10all (k := 10) (by simp) h hc f l c (.inr (.inl ⟨hd1, decide_eq_true hl, h3⟩))
  ·exact mst_11all (k := 11) (by simp) h hc f l c (.inr (.inl ⟨hd1, decide_eq_true hl, h3⟩))
  ·exact mst_12all (k := 12) (by simp) h hc f l c (.inr (.inl ⟨hd1, decide_eq_true hl, h3⟩))
  ·cases l
   ·cases f
    ·exact mst_13allfflf (k := 13) (by simp) h hc c (.inr (.inl ⟨hd1, decide_eq_true hl, h3⟩))
    ·exact mst_13allftlf (k := 13) (by simp) h hc c (.inr (.inl ⟨hd1, decide_eq_true hl, h3⟩))
   ·exact mst_13alllt (k := 13) (by simp) h hc f c (.inr (.inl ⟨hd1, decide_eq_true hl, h3⟩))
 ·have h3 : nextV S at_ 40 < 20 ∨ 20 ≤ nextV S at_ 40 := by omega
  rcases h3 with h4 | h4
  ·have h3 : nextV S at_ 40 = 0 ∨ nextV S at_ 40 = 1 ∨ nextV S at_ 40 = 2 ∨ nextV S at_ 40 = 3 ∨ nextV S at_ 40 = 4 ∨ nextV S at_ 40 = 5 ∨ nextV S at_ 40 = 6 ∨ nextV S at_ 40 = 7 ∨ nextV S at_ 40 = 8 ∨ nextV S at_ 40 = 9 ∨ nextV S at_ 40 = 10 ∨ nextV S at_ 40 = 11 ∨ nextV S at_ 40 = 12 ∨ nextV S at_ 40 = 13 ∨ nextV S at_ 40 = 14 ∨ nextV S at_ 40 = 15 ∨ nextV S at_ 40 = 16 ∨ nextV S at_ 40 = 17 ∨ nextV S at_ 40 = 18 ∨ nextV S at_ 40 = 19 := by omega
   rcases h3 with h3 | h3 | h3 | h3 | h3 | h3 | h3 | h3 | h3 | h3 | h3 | h3 | h3 | h3 | h3 | h3 | h3 | h3 | h3 | h3
   ·exact mst_0all (k := 0) (by simp) h hc f l c (.inl ⟨hd1, decide_eq_false hl, h3⟩)
   ·exact mst_0all (k := 1) (by simp) h hc f l c (.inl ⟨hd1, decide_eq_false hl, h3⟩)
   ·exact mst_0all (k := 2) (by simp) h hc f l c (.inl ⟨hd1, decide_eq_false hl, h3⟩)
   ·exact mst_0all (k := 3) (by simp) h hc f l c (.inl ⟨hd1, decide_eq_false hl, h3⟩)
   ·exact mst_0all (k := 4) (by simp) h hc f l c (.inl ⟨hd1, decide_eq_false hl, h3⟩)
   ·exact mst_5all (k := 5) (by simp) h hc f l c (.inl ⟨hd1, decide_eq_false hl, h3⟩)
   ·exact mst_5all (k := 6) (by simp) h hc f l c (.inl ⟨hd1, decide_eq_false hl, h3⟩)
   ·exact mst_7all (k := 7) (by simp) h hc f l c (.inl ⟨hd1, decide_eq_false hl, h3⟩)
   ·exact mst_8all (k := 8) (by simp) h hc f l c (.inl ⟨hd1, decide_eq_false hl, h3⟩)
   ·exact mst_9all (k := 9) (by simp) h hc f l c (.inl ⟨hd1, decide_eq_false hl, h3⟩)
   ·exact mst_10all (k := 10) (by simp) h hc f l c (.inl ⟨hd1, decide_eq_false hl, h3⟩)
   ·exact mst_11all (k := 11) (by simp) h hc f l c (.inl ⟨hd1, decide_eq_false hl, h3⟩)
   ·exact mst_12all (k := 12) (by simp) h hc f l c (.inl ⟨hd1, decide_eq_false hl, h3⟩)
   ·cases l
    ·cases f
     ·exact mst_13allfflf (k := 13) (by simp) h hc c (.inl ⟨hd1, decide_eq_false hl, h3⟩)
     ·exact mst_13allftlf (k := 13) (by simp) h hc c (.inl ⟨hd1, decide_eq_false hl, h3⟩)
    ·exact mst_13alllt (k := 13) (by simp) h hc f c (.inl ⟨hd1, decide_eq_false hl, h3⟩)
   ·exact mst_14free (k := 14) (by simp) hd HE h hc f l c hl h3
   ·exact mst_14free (k := 15) (by simp) hd HE h hc f l c hl h3
   ·exact mst_14free (k := 16) (by simp) hd HE h hc f l c hl h3
   ·exact mst_17free (k := 17) (by simp) hd HE h hc f l c hl h3
   ·exact mst_17free (k := 18) (by simp) hd HE h hc f l c hl h3
   ·exact mst_19free (k := 19) (by simp) hd HE h hc f l c hl h3
  ·have h3 : nextV S at_ 40 = 20 ∨ nextV S at_ 40 = 21 ∨ nextV S at_ 40 = 22 ∨ nextV S at_ 40 = 23 ∨ nextV S at_ 40 = 24 ∨ nextV S at_ 40 = 25 ∨ nextV S at_ 40 = 26 ∨ nextV S at_ 40 = 27 ∨ nextV S at_ 40 = 28 ∨ nextV S at_ 40 = 29 ∨ nextV S at_ 40 = 30 ∨ nextV S at_ 40 = 31 ∨ nextV S at_ 40 = 32 ∨ nextV S at_ 40 = 33 ∨ nextV S at_ 40 = 34 ∨ nextV S at_ 40 = 35 ∨ nextV S at_ 40 = 36 ∨ nextV S at_ 40 = 37 ∨ nextV S at_ 40 = 38 ∨ nextV S at_ 40 = 39 := by omega
   rcases h3 with h3 | h3 | h3 | h3 | h3 | h3 | h3 | h3 | h3 | h3 | h3 | h3 | h3 | h3 | h3 | h3 | h3 | h3 | h3 | h3
   ·exact mst_19free (k := 20) (by simp) hd HE h hc f l c hl h3
   ·exact mst_19free (k := 21) (by simp) hd HE h hc f l c hl h3
   ·exact mst_22free (k := 22) (by simp) hd HE h hc f l c hl h3
   ·exact mst_22free (k := 23) (by simp) hd HE h hc f l c hl h3
   ·exact mst_22free (k := 24) (by simp) hd HE h hc f l c hl h3
   ·exact mst_22free (k := 25) (by simp) hd HE h hc f l c hl h3
   ·exact mst_22free (k := 26) (by simp) hd HE h hc f l c hl h3
   ·exact mst_27free (k := 27) (by simp) hd HE h hc f l c hl h3
   ·exact mst_27free (k := 28) (by simp) hd HE h hc f l c hl h3
   ·exact mst_29free (k := 29) (by simp) hd HE h hc f l c hl h3
   ·exact mst_29free (k := 30) (by simp) hd HE h hc f l c hl h3
   ·exact mst_29free (k := 31) (by simp) hd HE h hc f l c hl h3
   ·exact mst_29free (k := 32) (by simp) hd HE h hc f l c hl h3
   ·cases f
    ·exact mst_33freeff (k := 33) (by simp) hd h hc l c hl h3
    ·exact mst_33freeft (k := 33) (by simp) hd h hc l c hl h3
   ·cases f
    ·exact mst_33freeff (k := 34) (by simp) hd h hc l c hl h3
    ·exact mst_33freeft (k := 34) (by simp) hd h hc l c hl h3
   ·cases f
    ·exact mst_33freeff (k := 35) (by simp) hd h hc l c hl h3
    ·exact mst_33freeft (k := 35) (by simp) hd h hc l c hl h3
   ·cases f
    ·exact mst_33freeff (k := 36) (by simp) hd h hc l c hl h3
    ·exact mst_36freeft (k := 36) (by simp) hd h hc l c hl h3
   ·exact mst_37free (k := 37) (by simp) hd h hc f l c hl h3
   ·exact mst_37free (k := 38) (by simp) hd h hc f l c hl h3
   ·exact mst_37free (k := 39) (by simp) hd h hc f l c hl h3
⟩
theorem stx_four : STX 4 := stx_succ (by decide) (stx_succ (by decide) (stx_succ (by decide) (stx_succ (by decide) stx_zero)))
theorem mst4_any {B mb at_ : Nat} {F : Nat → Prop} {S : List Int} {T : List NodeD} {w : World} (h : Mk B mb F S at_ T w) (hc : T.length + 10992840 ≤ 549755813888) (f l c : Bool) : Calls Tryd.prog 47 #[.pointer (some ⟨mb, 0, none⟩), .int .i64 4, .agg #[.bool f, .bool l, .bool c]] w (StP B mb F S w T 10992840) := stx_four.run h hc f l c
end
section
open Go.RowKit
set_option linter.unusedVariables false
set_option linter.unusedSimpArgs false
theorem mk0 {S : List Int} {w : World} {A : Option Addr} {n c : Nat} (hrd : Rd w A n c 1 (ics S)) (hl : S.length = n) (hs : S.length ≤ 40) (hsr : ∀ x ∈ S, -9223372036854775808 ≤ x ∧ x ≤ 9223372036854775807) (hA : ∀ b o, A = some ⟨b, o, none⟩ → b < w.heap.size) :
  Mk w.heap.size w.heap.size (fun _ => False) S 0 [] (w.alloc (.cells #[.slice A n c, .int .i64 0, .slice none 0 0, .int .i64 160] 87)) :=
 ⟨Nat.le_refl _, alloc_le _ _, ⟨A, n, c, .slice none 0 0, Blk.new w 87 #[.slice A n c, .int .i64 0, .slice none 0 0, .int .i64 160], hrd.bel (Below.alloc (Below.refl _ _) (Nat.le_refl _) _), hl, hA, (fun g e => by cases e), RowN.nil_ _ _⟩, Nat.zero_le _, hs, hsr, GoodT.nil_, by decide, fun k hk => hk.elim⟩
def MadeP (w : World) (e : Ending) (w' : World) : Prop :=
 ∃ (v : Value) (T : List NodeD), e = .returned v ∧ RowN (fun _ => False) w' v T ∧ GoodT T ∧ T.length ≤ 549755813888 ∧ Below w.heap.size w w' ∧ ∀ g, v.ownBlock = some g → w.heap.size ≤ g
theorem made_any {S : List Int} {w : World} {A : Option Addr} {n c : Nat} (hrd : Rd w A n c 1 (ics S)) (hl : S.length = n) (hs : S.length ≤ 40) (hsr : ∀ x ∈ S, -9223372036854775808 ≤ x ∧ x ≤ 9223372036854775807) (hA : ∀ b o, A = some ⟨b, o, none⟩ → b < w.heap.size) : Calls Tryd.prog 30 #[.slice A n c] w (MadeP w) := by
 unfold MadeP
 have HM1 := qh (mk0 hrd hl hs hsr hA)
 have HK1 := qh (KeepE.of_below w.heap.size (fun k => k = w.heap.size) (Below.alloc (w := w) (Below.refl _ _) (Nat.le_refl _) (.cells #[.slice A n c, .int .i64 0, .slice none 0 0, .int .i64 160] 87)))
 clear hrd hl hs hsr hA
 go_enter Tryd.func30, Tryd.ntmps30
 go_wp2_with (go_at_call 46; go_must (refine (next_any (n := 7) HM1.out (by decide) (by decide)).mono ?_); rintro e w2 ⟨rfl, hm, hk⟩; obtain ⟨q, hq, hq8⟩ := nat_of (nextV_ok S 0 (n := 7) (by decide)); rw [hq]; have hq2 : q ≤ 6 := (by omega); have HM2 := qh hm; have HK2 := qh (HK1.out.trans hk); clear hm hk hq hq8)
 go_loopw [4, 6] (fun v4 v6 wr => ∃ (i at4 : Nat) (X : List NodeD) (A1 : Option Addr) (c1 : Nat) (M : List Int), i ≤ q + 2 ∧ v6 = .int .i64 i ∧ v4 = .slice A1 M.length c1 ∧ Hid (M.length = i) ∧ Hid (OwnI wr (.slice A1 M.length c1) M) ∧ Hid (∀ b, (Value.slice A1 M.length c1).ownBlock = some b → w.heap.size ≤ b) ∧ Hid (Mk w.heap.size w.heap.size (fun k => False ∨ (Value.slice A1 M.length c1).ownBlock = some k) S at4 X wr) ∧ Hid (Kp w.heap.size w.heap.size w wr) ∧ Hid (X.length ≤ i * 10992840)) (fun _ v6 _ => q + 2 - (intOf v6).toNat)
 case atStart => exact ⟨0, _, [], none, 0, [], Nat.zero_le _, rfl, rfl, qh rfl, qh (OwnI.nil_ _), qh (fun b e => by cases e), qh (HM2.out.less fun k hk => hk.resolve_right (fun e => by cases e)), HK2, qh (by simp)⟩
 case round =>
  obtain ⟨i, at4, X, A1, c1, M, hi, rfl, rfl, HMl, HO4, HNw0, HM4, HK4, HX4⟩ := hrel
  clear HM1 HK1 HM2 HK2
  have hml : M.length ≤ 8 := by have := HMl.out; omega
  by_cases hlt : i < q + 2
  ·have hmul : i * 10992840 ≤ 87942720 := by omega
   have HMU := qh hmul
   clear hmul
   go_wp2_with (first
    | (go_at_call 47; go_must (refine (mst4_any HM4.out (by have h4 := HX4.out; have h5 := HMU.out; omega) false false false).mono ?_); rintro e w5 ⟨r5, at5, X5, rfl, hm, hk, hx⟩; have HO5 := qh (HO4.out.kp HM4.out hk); have HM5 := qh hm; have HK5 := qh (HK4.out.trans hk); have HX5 := qh hx; clear hm hk hx)
    | (at_builtin; go_must (refine wpList_appendN _ rfl _ _ rfl (.slice A1 M.length c1) M rfl (OwnI.bel HO5.out (by exact bl1)) _ 1 1 [r5] rfl (Rd.intG rfl r5) rfl (by first | omega | (simp; done) | (simp; omega)) ?_); intro v8 w8 ho8 hg8 hn8; generalize hG : M ++ [r5] = G at ho8; have HGl8 : Hid (G.length = M.length + 1) := qh (by rw [← hG, List.length_append]; rfl); obtain ⟨A8, c8, e8, -, -⟩ := Own.rd ho8; subst e8; have HM8 := qh (HM5.out.grown (by exact bl1) HO5.out (fun b e => HNw0.out b e) hg8 hn8 (fun b e => Own.lt ho8 e)); have HK8 := qh ((HK5.out.trans (Kp.alloc w.heap.size w.heap.size _ _)).grown hg8 HNw0.out); have HNw8 : Hid (∀ b, (Value.slice A8 G.length c8).ownBlock = some b → w.heap.size ≤ b) := qh (new_own HNw0.out hn8 (Nat.le_trans HK5.out.size (alloc_le _ _))); have HO8 := qh ho8; clear hG ho8 hg8 hn8))
   go_round
   case rel => exact ⟨i + 1, at5, X ++ X5, A8, c8, G, by omega, by go_num, rfl, qh (by rw [HGl8.out, HMl.out]), HO8, HNw8, HM8, HK8, qh (by have h4 := HX4.out; have h5 := HX5.out; rw [List.length_append, Nat.add_mul]; omega)⟩
   case measure => simp [intOf]; omega
  ·obtain rfl : i = q + 2 := by omega
   have hmul : (q + 2) * 10992840 ≤ 87942720 := by omega
   have HMU := qh hmul
   clear hmul
   go_upto_region 9 with (go_at_call 48; have hgood := HM4.out.good.o (op := 40) (n := 0) (s := ⟨#[]⟩) (kids := M) (.inr (by decide)); go_must (refine (madd_own HM4.out HO4.out rfl rfl (by omega) 40 0 ⟨#[]⟩ hgood (by have h4 := HX4.out; have h5 := HMU.out; omega)).mono ?_); rintro e w9 ⟨r9, rfl, hr9, hm, hk⟩; have HM9 := qh hm; have HK9 := qh (HK4.out.trans hk); clear hm hk hgood hr9)
   obtain ⟨A9, n9, c9, v9, hb9, -, -, -, hv9, hrow⟩ := HM9.out.m
   have x2 := hb9.cell 2
   have xlt := hb9.lt
   simp only [GG] at x2
   clear hb9
   have HR9 := qh hrow
   have HV9 := qh hv9
   clear hrow hv9
   go_wp2_with fail
   go_ret
   exact ⟨v9, _, rfl, HR9.out.keep (fun b _ => rfl) (fun k cs hk hF _ => rfl) (fun k hk hF => hF.elim), HM9.out.good, HM9.out.cap, HK9.out.below (Nat.le_refl _) (fun k e => Nat.le_of_eq e.symm), HV9.out⟩
end
section
open Go.RowKit
set_option linter.unusedVariables false
set_option linter.unusedSimpArgs false
theorem bel_one (w : World) (o : Obj) : Below w.heap.size w (w.alloc o) := Below.alloc (Below.refl _ _) (Nat.le_refl _) _
theorem bel_al {w w' : World} {o : Obj} (h : Below (w.alloc o).heap.size (w.alloc o) w') : Below w.heap.size w w' := (bel_one w o).trans (h.mono (alloc_le _ _))
structure Tz (B : Nat) (w : World) (v : Value) (L : List TokD) : Prop where
 own : OwnT w v L
 new : ∀ b, v.ownBlock = some b → B ≤ b
section
variable {B : Nat} {w w' : World} {v v' : Value} {L M : List TokD}
theorem Tz.bel (h : Tz B w v L) (hb : Below w.heap.size w w') : Tz B w' v L := ⟨Own.new h.own hb, h.new⟩
theorem Tz.less {B' : Nat} (h : Tz B w v L) (hB : B' ≤ B) : Tz B' w v L := ⟨h.own, fun b e => Nat.le_trans hB (h.new b e)⟩
theorem Tz.app (h : Tz B w v L) (ho : OwnT w' v' (L ++ M)) (hg : w.grownBy w' v.ownBlock) (hn : v'.ownBlock = v.ownBlock ∨ v'.ownBlock = some w.heap.size) (hB : B ≤ w.heap.size) : Tz B w' v' (L ++ M) := ⟨ho, new_own h.new hn hB⟩
end
theorem Tz.made {B : Nat} (w : World) (t : TokD) (hB : B ≤ w.heap.size) : Tz B (w.alloc (.cells #[.int .i64 t.k, .int .i64 t.at_, .string t.s, .int .i64 t.n] 39)) (.slice (some ⟨w.heap.size, 0, none⟩) 1 1) [t] :=
 ⟨OwnT.made w [t] _ 1 rfl rfl (by omega), fun b e => by have e2 : w.heap.size = b := (by simpa [Value.ownBlock] using e); omega⟩
def TkP (L : List TokD) (w : World) (e : Ending) (w' : World) : Prop :=
 ∃ (A1 : Option Addr) (c1 r : Nat), e = .returned (.slice A1 r c1) ∧ L.length = r ∧ Tz w.heap.size w' (.slice A1 r c1) L ∧ Below w.heap.size w w'
theorem tk_fin {w w' : World} {L M : List TokD} {A : Option Addr} {r c : Nat} (hb : Below w.heap.size w w') (hz : Tz w.heap.size w' (.slice A r c) L) (hl : L.length = r) (he : L = M) : TkP M w (.returned (.slice A r c)) w' := ⟨A, c, r, rfl, by rw [← he]; exact hl, by rw [← he]; exact hz, hb⟩
theorem sign50_any (t : ByteArray) (w : World) : Calls Tryd.prog 50 #[.string t] w fun e w' => e = .returned (.agg #[.int .i64 4, .int .i64 0, .string t, .int .i64 0]) ∧ Below w.heap.size w w' := by
 go_enter Tryd.func50, Tryd.ntmps50
 go_wp2_with fail
 exact bodyPost_ret (v := .agg #[.int .i64 4, .int .i64 0, .string t, .int .i64 0]) (by first | (simp [results, Tryd.results50, go_sem]; done) | (simp [results, Tryd.results50, go_sem]; rfl)) rfl ⟨rfl, bl1⟩
theorem word49_any (t : ByteArray) (w : World) : Calls Tryd.prog 49 #[.string t] w fun e w' => e = .returned (.agg #[.int .i64 1, .int .i64 0, .string t, .int .i64 0]) ∧ Below w.heap.size w w' := by
 go_enter Tryd.func49, Tryd.ntmps49
 go_wp2_with fail
 exact bodyPost_ret (v := .agg #[.int .i64 1, .int .i64 0, .string t, .int .i64 0]) (by first | (simp [results, Tryd.results49, go_sem]; done) | (simp [results, Tryd.results49, go_sem]; rfl)) rfl ⟨rfl, bl1⟩
def TkAt (T : List NodeD) (A : Option Addr) (m c j : Nat) (k : Tr) : Prop := ∀ w, RowN (fun _ => False) w (.slice A m c) T → Calls Tryd.prog 33 #[.slice A m c, .int .i64 j] w (TkP (Tr.toks k) w)
theorem inside52 {T : List NodeD} {A : Option Addr} {m c j : Nat} {k : Tr} (h : TkAt T A m c j k) (hl : (Tr.toks k).length ≤ 549755813888) (w : World) (hT : RowN (fun _ => False) w (.slice A m c) T) : Calls Tryd.prog 52 #[.slice A m c, .int .i64 j] w (TkP (insideT (Tr.toks k)) w) := by
 unfold TkP
 have HT := qh hT
 have HK := qh h
 have HLk := qh hl
 have HB1 := qh (Below.refl w.heap.size w)
 clear hT h hl
 go_enter Tryd.func52, Tryd.ntmps52
 go_wp2_with (first | (have hmk := HB5.out; clear hmk; at_builtin; go_must (refine wpList_appendT _ rfl _ _ rfl (.slice A4 r4 c4) ([signT gLp] ++ (Tr.toks k)) rfl (HR5o.out.bel (bel_one _ _)).own _ 1 1 [signT gRp] rfl (Rd.toks _ [signT gRp] _ 1 rfl rfl (by omega)) rfl (by have := HLk.out; simp only [LL]; omega) ?_); intro v6 w6 ho hg hn; have hz6 := Tz.app (HR5o.out.bel (bel_one _ _)) ho hg hn (Nat.le_trans HB5.out.size (alloc_le _ _)); have HB6 := qh ((HB5.out.trans (below_low (bel_one _ _) HB5.out.size)).trans (grown_below hg (Nat.le_trans HB5.out.size (alloc_le _ _)) HR5o.out.new)); obtain ⟨r6, hr⟩ : ∃ r, (([signT gLp] ++ (Tr.toks k)) ++ [signT gRp]).length = r := ⟨_, rfl⟩; obtain ⟨A6, c6, e6, -, -⟩ := Own.rd ho; rw [hr] at e6; subst e6; have HL6 := qh hr; have HR6o := qh hz6; clear ho hg hn hz6 hr HB5) | (have hmk := HB4.out; clear hmk; go_at_call 50; go_must (refine (sign50_any gRp _).mono ?_); rintro e w5 ⟨rfl, hb⟩; have HB5 := qh (HB4.out.trans (below_low hb HB4.out.size)); have HR5o := qh (HR4o.out.bel hb); clear hb HB4) | (have hmk := HB3.out; clear hmk; at_builtin; go_must (refine wpList_appendT _ rfl _ _ rfl (.slice (some ⟨w2.heap.size, 0, none⟩) 1 1) [signT gLp] rfl HR3o.out.own A3 r3 c3 (Tr.toks k) rfl (HR3x.out.own.rdm HL3.out) HL3.out (by have := HLk.out; have := HL3.out; simp only [List.length_cons, List.length_nil]; omega) ?_); intro v4 w4 ho hg hn; have hz4 := Tz.app HR3o.out ho hg hn HB3.out.size; have HB4 := qh (HB3.out.trans (grown_below hg HB3.out.size HR3o.out.new)); obtain ⟨r4, hr⟩ : ∃ r, ([signT gLp] ++ (Tr.toks k)).length = r := ⟨_, rfl⟩; obtain ⟨A4, c4, e4, -, -⟩ := Own.rd ho; rw [hr] at e4; subst e4; have HL4 := qh hr; have HR4o := qh hz4; clear ho hg hn hz4 hr HB3) | (have hmk := HB2.out; clear hmk; go_at_call 33; go_must (refine (HK.out _ (HT.out.belw (HB2.out.trans (below_low (bel_one _ _) HB2.out.size)))).mono ?_); rintro e w3 ⟨A3, c3, r3, rfl, hl3, hz, hb⟩; have HB3 := qh (HB2.out.trans (below_low (bel_al hb) HB2.out.size)); have HR3o := qh ((qh (Tz.made w2 (signT gLp) HB2.out.size)).out.bel hb); have HR3x := qh (hz.less (Nat.le_trans HB2.out.size (alloc_le _ _))); have HL3 := qh hl3; clear hz hb HB2) | (have hmk := HB1.out; clear hmk; go_at_call 50; go_must (refine (sign50_any gLp _).mono ?_); rintro e w2 ⟨rfl, hb⟩; have HB2 := qh (HB1.out.trans (below_low hb HB1.out.size)); clear hb HB1))
 go_ret
 exact tk_fin HB6.out HR6o.out HL6.out (by simp [insideT])
theorem tokss_drop : ∀ {ks : List Tr} {i : Nat} {k : Tr}, ks[i]? = some k → (Tr.tokss ks).drop i = Tr.toks k :: (Tr.tokss ks).drop (i + 1)
 | [], i, k, h => by cases h
 | x :: ks, 0, k, h => by
  obtain rfl : x = k := by simpa using h
  rfl
 | x :: ks, i + 1, k, h => by
  show (Tr.toks x :: Tr.tokss ks).drop (i + 1) = _ :: (Tr.toks x :: Tr.tokss ks).drop (i + 1 + 1)
  rw [List.drop_succ_cons, List.drop_succ_cons]
  exact tokss_drop (by simpa using h)
theorem tokss_len : ∀ ks : List Tr, (Tr.tokss ks).length = ks.length
 | [] => rfl
 | k :: ks => by simp [Tr.tokss, tokss_len]
theorem rows51 {T : List NodeD} {A A4 : Option Addr} {m c K c4 : Nat} {ks : List Tr} {l : List Int} (hks : ks.length = K) (hK : K ≤ 1000) (all : Bool) (h : ∀ p, p < K → ∃ (j : Nat) (k : Tr), l[p]? = some (j : Int) ∧ ks[p]? = some k ∧ TkAt T A m c j k) (hl : (rowsT all (Tr.tokss ks)).length ≤ 549755813888)
  (w : World) (hT : RowN (fun _ => False) w (.slice A m c) T) (hr : Rd w A4 K c4 1 (ics l)) : Calls Tryd.prog 51 #[.slice A m c, .slice A4 K c4, .bool all] w (TkP (rowsT all (Tr.tokss ks)) w) := by
 unfold TkP
 have HT := qh hT
 have HK := qh h
 have HLk := qh hl
 have HRk := qh hr
 have HKs := qh hks
 clear hT h hl hr hks
 go_enter Tryd.func51, Tryd.ntmps51
 go_upto_region 3 with fail
 go_loopw [7, 8] (fun v7 v8 wr => ∃ (i : Nat) (A1 : Option Addr) (c1 rM : Nat) (M : List TokD), i ≤ K ∧ v8 = .int .i64 i ∧ v7 = .slice A1 rM c1 ∧ Hid (M.length = rM) ∧ Hid (M ++ rowsT all ((Tr.tokss ks).drop i) = rowsT all (Tr.tokss ks)) ∧ Hid (Tz w.heap.size wr (.slice A1 rM c1) M) ∧ Hid (Below w.heap.size w wr)) (fun _ v8 _ => K - (intOf v8).toNat)
 case atStart => exact ⟨0, _, _, 0, [], Nat.zero_le _, rfl, rfl, qh rfl, qh rfl, qh ⟨OwnT.made w [] _ 0 rfl rfl (by omega), fun b e => by have e2 : w.heap.size = b := (by simpa [Value.ownBlock] using e); omega⟩, qh (bel_one _ _)⟩
 case round =>
  obtain ⟨i, A1, c1, rM, M, hi, rfl, rfl, HLM, HI, HR4o, HB4⟩ := hrel
  by_cases hlt : i < K
  ·obtain ⟨j, k, hlj, hkk, hTk⟩ := HK.out i hlt
   obtain ⟨b4, o4, rfl, hb4, y4⟩ := (HRk.out.bel HB4.out).kid hlj (by omega)
   have HTk := qh hTk
   have hd := tokss_drop hkk
   have hbd : M.length + (Tr.toks k).length + 1 ≤ 549755813889 := by
    have h1 := congrArg List.length HI.out
    rw [hd] at h1
    simp only [rowsT, List.length_append] at h1
    have := HLk.out
    omega
   have HD := qh hd
   have HBd := qh hbd
   clear hlj hkk hTk hd hbd
   go_upto_region 6 with (first | (have hmk := HB5.out; clear hmk; at_builtin; go_must (refine wpList_appendT _ rfl _ _ rfl (.slice A1 rM c1) M rfl HR5o.out.own A5 r5 c5 (Tr.toks k) rfl (HR5x.out.own.rdm HL5.out) HL5.out (by have := HBd.out; have := HL5.out; omega) ?_); intro v6 w6 ho hg hn; have hz6 := Tz.app HR5o.out ho hg hn HB5.out.size; have HB6 := qh (HB5.out.trans (grown_below hg HB5.out.size HR5o.out.new)); obtain ⟨r6, hr⟩ : ∃ r, (M ++ (Tr.toks k)).length = r := ⟨_, rfl⟩; obtain ⟨A6, c6, e6, -, -⟩ := Own.rd ho; rw [hr] at e6; subst e6; have HL6 := qh hr; have HR6o := qh hz6; clear ho hg hn hz6 hr HB5) | (have hmk := HB4.out; clear hmk; go_at_call 33; go_must (refine (HTk.out _ (HT.out.belw HB4.out)).mono ?_); rintro e w5 ⟨A5, c5, r5, rfl, hl5, hz, hb⟩; have HB5 := qh (HB4.out.trans (below_low hb HB4.out.size)); have HR5o := qh (HR4o.out.bel hb); have HR5x := qh (hz.less HB4.out.size); have HL5 := qh hl5; clear hz hb HB4))
   cases all with
   | true =>
    go_wp2_with (first | (have hmk := HB7.out; clear hmk; at_builtin; go_must (refine wpList_appendT _ rfl _ _ rfl (.slice A6 r6 c6) (M ++ (Tr.toks k)) rfl (HR7o.out.bel (bel_one _ _)).own _ 1 1 [signT gComma] rfl (Rd.toks _ [signT gComma] _ 1 rfl rfl (by omega)) rfl (by have := HBd.out; simp only [LL]; omega) ?_); intro v8 w8 ho hg hn; have hz8 := Tz.app (HR7o.out.bel (bel_one _ _)) ho hg hn (Nat.le_trans HB7.out.size (alloc_le _ _)); have HB8 := qh ((HB7.out.trans (below_low (bel_one _ _) HB7.out.size)).trans (grown_below hg (Nat.le_trans HB7.out.size (alloc_le _ _)) HR7o.out.new)); obtain ⟨r8, hr⟩ : ∃ r, ((M ++ (Tr.toks k)) ++ [signT gComma]).length = r := ⟨_, rfl⟩; obtain ⟨A8, c8, e8, -, -⟩ := Own.rd ho; rw [hr] at e8; subst e8; have HL8 := qh hr; have HR8o := qh hz8; clear ho hg hn hz8 hr HB7) | (have hmk := HB6.out; clear hmk; go_at_call 50; go_must (refine (sign50_any gComma _).mono ?_); rintro e w7 ⟨rfl, hb⟩; have HB7 := qh (HB6.out.trans (below_low hb HB6.out.size)); have HR7o := qh (HR6o.out.bel hb); clear hb HB6))
    go_round
    case rel => exact ⟨i + 1, A8, c8, r8, ((M ++ (Tr.toks k)) ++ [signT gComma]), by omega, by go_num, rfl, HL8, qh (by rw [← HI.out, HD.out]; simp [rowsT]), HR8o, HB8⟩
    case measure => simp [intOf]; omega
   | false =>
    have hlen := tokss_len ks
    rw [HKs.out] at hlen
    have HLe := qh hlen
    clear hlen
    by_cases hlast : i + 1 < K
    ·have d1 : decide ((i : Int) < (K : Int) - 1) = true := decide_eq_true (by omega)
     go_wp2_with (first | (have hmk := HB7.out; clear hmk; at_builtin; go_must (refine wpList_appendT _ rfl _ _ rfl (.slice A6 r6 c6) (M ++ (Tr.toks k)) rfl (HR7o.out.bel (bel_one _ _)).own _ 1 1 [signT gComma] rfl (Rd.toks _ [signT gComma] _ 1 rfl rfl (by omega)) rfl (by have := HBd.out; simp only [LL]; omega) ?_); intro v8 w8 ho hg hn; have hz8 := Tz.app (HR7o.out.bel (bel_one _ _)) ho hg hn (Nat.le_trans HB7.out.size (alloc_le _ _)); have HB8 := qh ((HB7.out.trans (below_low (bel_one _ _) HB7.out.size)).trans (grown_below hg (Nat.le_trans HB7.out.size (alloc_le _ _)) HR7o.out.new)); obtain ⟨r8, hr⟩ : ∃ r, ((M ++ (Tr.toks k)) ++ [signT gComma]).length = r := ⟨_, rfl⟩; obtain ⟨A8, c8, e8, -, -⟩ := Own.rd ho; rw [hr] at e8; subst e8; have HL8 := qh hr; have HR8o := qh hz8; clear ho hg hn hz8 hr HB7) | (have hmk := HB6.out; clear hmk; go_at_call 50; go_must (refine (sign50_any gComma _).mono ?_); rintro e w7 ⟨rfl, hb⟩; have HB7 := qh (HB6.out.trans (below_low hb HB6.out.size)); have HR7o := qh (HR6o.out.bel hb); clear hb HB6))
     go_round
     case rel => exact ⟨i + 1, A8, c8, r8, ((M ++ (Tr.toks k)) ++ [signT gComma]), by omega, by go_num, rfl, HL8, qh (by rw [← HI.out, HD.out]; have hne : ((Tr.tokss ks).drop (i + 1)).isEmpty = false := (by rw [List.isEmpty_eq_false_iff_exists_mem]; have h2 : i + 1 < (Tr.tokss ks).length := (by rw [HLe.out]; exact hlast); exact ⟨(Tr.tokss ks)[i + 1], List.mem_drop_iff_getElem.2 ⟨0, by omega, by simp⟩⟩); simp [rowsT, hne]), HR8o, HB8⟩
     case measure => simp [intOf]; omega
    ·have d1 : decide ((i : Int) < (K : Int) - 1) = false := decide_eq_false (by omega)
     go_wp2_with fail
     go_round
     case rel => exact ⟨i + 1, A6, c6, r6, (M ++ (Tr.toks k)), by omega, by go_num, rfl, HL6, qh (by rw [← HI.out, HD.out]; have he : (Tr.tokss ks).drop (i + 1) = [] := List.drop_of_length_le (by rw [HLe.out]; omega); simp [rowsT, he]), HR6o, HB6⟩
     case measure => simp [intOf]; omega
  ·obtain rfl : i = K := by omega
   go_wp2_with fail
   go_ret
   exact tk_fin HB4.out HR4o.out HLM.out (by have h1 := HI.out; rw [List.drop_of_length_le (by rw [tokss_len, HKs.out]; exact Nat.le_refl _)] at h1; simpa [rowsT] using h1)
end
section
open Go.RowKit
set_option linter.unusedVariables false
set_option linter.unusedSimpArgs false
theorem Tz.made2 {B : Nat} (w : World) (t u : TokD) (hB : B ≤ w.heap.size) : Tz B (w.alloc (.cells #[.int .i64 t.k, .int .i64 t.at_, .string t.s, .int .i64 t.n, .int .i64 u.k, .int .i64 u.at_, .string u.s, .int .i64 u.n] 39)) (.slice (some ⟨w.heap.size, 0, none⟩) 2 2) [t, u] :=
 ⟨OwnT.made w [t, u] _ 2 rfl rfl (by omega), fun b e => by have e2 : w.heap.size = b := (by simpa [Value.ownBlock] using e); omega⟩
theorem words53_any (s : ByteArray) (w : World) : Calls Tryd.prog 53 #[.string s] w (TkP (opWords s) w) := by
 unfold TkP
 have HB1 := qh (Below.refl w.heap.size w)
 by_cases htNotIn : s = tNotIn
 ·subst htNotIn
  go_enter Tryd.func53, Tryd.ntmps53
  go_wp2_with (first | (have hmk := HB2.out; clear hmk; go_at_call 49; go_must (refine (word49_any _ _).mono ?_); rintro e w3 ⟨rfl, hb⟩; have HB3 := qh (HB2.out.trans (below_low hb HB2.out.size)); clear hb HB2) | (go_at_call 49; go_must (refine (word49_any _ _).mono ?_); rintro e w2 ⟨rfl, hb⟩; have HB2 := qh (HB1.out.trans (below_low hb HB1.out.size)); clear hb HB1))
  go_ret
  exact tk_fin (HB3.out.trans (below_low (bel_one _ _) HB3.out.size)) (Tz.made2 w3 (wordT kNot) (wordT kIn) HB3.out.size) rfl (by simp [opWords])
 by_cases htIsNot : s = tIsNot
 ·subst htIsNot
  go_enter Tryd.func53, Tryd.ntmps53
  go_wp2_with (first | (have hmk := HB2.out; clear hmk; go_at_call 49; go_must (refine (word49_any _ _).mono ?_); rintro e w3 ⟨rfl, hb⟩; have HB3 := qh (HB2.out.trans (below_low hb HB2.out.size)); clear hb HB2) | (go_at_call 49; go_must (refine (word49_any _ _).mono ?_); rintro e w2 ⟨rfl, hb⟩; have HB2 := qh (HB1.out.trans (below_low hb HB1.out.size)); clear hb HB1))
  go_ret
  exact tk_fin (HB3.out.trans (below_low (bel_one _ _) HB3.out.size)) (Tz.made2 w3 (wordT kIs) (wordT kNot) HB3.out.size) rfl (by simp [opWords, show (tIsNot = tNotIn) = False from by decide])
 by_cases hkIn : s = kIn
 ·subst hkIn
  go_enter Tryd.func53, Tryd.ntmps53
  go_wp2_with (go_at_call 49; go_must (refine (word49_any _ _).mono ?_); rintro e w2 ⟨rfl, hb⟩; have HB2 := qh (HB1.out.trans (below_low hb HB1.out.size)); clear hb HB1)
  go_ret
  exact tk_fin (HB2.out.trans (below_low (bel_one _ _) HB2.out.size)) (Tz.made w2 (wordT kIn) HB2.out.size) rfl (by simp [opWords, show (kIn = tNotIn) = False from by decide, show (kIn = tIsNot) = False from by decide])
 by_cases hkIs : s = kIs
 ·subst hkIs
  go_enter Tryd.func53, Tryd.ntmps53
  go_wp2_with (go_at_call 49; go_must (refine (word49_any _ _).mono ?_); rintro e w2 ⟨rfl, hb⟩; have HB2 := qh (HB1.out.trans (below_low hb HB1.out.size)); clear hb HB1)
  go_ret
  exact tk_fin (HB2.out.trans (below_low (bel_one _ _) HB2.out.size)) (Tz.made w2 (wordT kIs) HB2.out.size) rfl (by simp [opWords, show (kIs = tNotIn) = False from by decide, show (kIs = tIsNot) = False from by decide])
 have etNotIn : (s.toList == [110, 111, 116, 32, 105, 110]) = false := lit_no htNotIn _ (by rw [ByteArray.toList_eq])
 have dtNotIn : decide (s = tNotIn) = false := decide_eq_false htNotIn
 have etIsNot : (s.toList == [105, 115, 32, 110, 111, 116]) = false := lit_no htIsNot _ (by rw [ByteArray.toList_eq])
 have dtIsNot : decide (s = tIsNot) = false := decide_eq_false htIsNot
 have ekIn : (s.toList == [105, 110]) = false := lit_no hkIn _ (by rw [ByteArray.toList_eq])
 have dkIn : decide (s = kIn) = false := decide_eq_false hkIn
 have ekIs : (s.toList == [105, 115]) = false := lit_no hkIs _ (by rw [ByteArray.toList_eq])
 have dkIs : decide (s = kIs) = false := decide_eq_false hkIs
 go_enter Tryd.func53, Tryd.ntmps53
 go_wp2_with (go_at_call 50; go_must (refine (sign50_any _ _).mono ?_); rintro e w2 ⟨rfl, hb⟩; have HB2 := qh (HB1.out.trans (below_low hb HB1.out.size)); clear hb HB1)
 go_ret
 exact tk_fin (HB2.out.trans (below_low (bel_one _ _) HB2.out.size)) (Tz.made w2 (signT s) HB2.out.size) rfl (by simp [opWords, htNotIn, htIsNot, hkIn, hkIs])
end
end Go.Proofs.YtjdcicopjipmnaaDoor
