/- ExpressCuts: the walk. -/
import Derived.Test.YtjdcicopjipmnaaDoorZba
namespace Go.Proofs.YtjdcicopjipmnaaDoor
set_option maxRecDepth 100000
set_option maxHeartbeats 40000000
open Go.RowKit
set_option linter.unusedVariables false
set_option linter.unusedSimpArgs false
theorem toks_drop : ∀ (L : List TokD) (k : Nat), (L.flatMap tcs).take (k * 4) = (L.take k).flatMap tcs
 | [], k => by simp
 | t :: L, 0 => by simp
 | t :: L, k + 1 => by
  have h4 : (tcs t).length = 4 := rfl
  rw [List.flatMap_cons, List.take_succ_cons, List.take_append, h4, List.take_of_length_le (by omega), show (k + 1) * 4 - 4 = k * 4 from by omega, toks_drop L k, List.flatMap_cons]
theorem toks_len : ∀ (L : List TokD), (L.flatMap tcs).length = L.length * 4
 | [] => rfl
 | t :: L => by
  have h4 : (tcs t).length = 4 := rfl
  rw [List.flatMap_cons, List.length_append, toks_len L, List.length_cons, h4]
  omega
theorem Rd.firstT {w : World} {A : Option Addr} {n c m : Nat} {L : List TokD} (h : Rd w A n c 4 (L.flatMap tcs)) (hn : L.length = n) (hm : m ≤ n) : Rd w A m c 4 ((L.take m).flatMap tcs) := by
 obtain ⟨h1, h2, h3, h4⟩ := h
 refine ⟨by omega, by omega, by rw [toks_len, List.length_take, hn, Nat.min_eq_left hm], fun hm0 => ?_⟩
 obtain ⟨b, o, e, hb, hc⟩ := h4 (by omega)
 refine ⟨b, o, e, hb, fun j u hj => hc j u ?_⟩
 rw [← toks_drop, List.getElem?_take] at hj
 split at hj
 ·exact hj
 ·cases hj
theorem cuts_walk {w : World} {A : Option Addr} {n c b : Nat} {S : List Int} (hrd : Rd w A n c 1 (ics S)) (hl : S.length = n) (hsr : ∀ x ∈ S, -9223372036854775808 ≤ x ∧ x ≤ 9223372036854775807) (hA : ∀ b o, A = some ⟨b, o, none⟩ → b < w.heap.size) {a : Nat} (hb : b < 256) (ha : a < 65536) (htab : Asp w) : Calls Tryd.prog 5 #[.slice A n c, .int .u8 b, .int .u16 a] w fun e w' => e = .returned (.bool true) ∧ Below w.heap.size w w' := by
 have HT := qh htab
 have HRD := qh hrd
 have HSL := qh hl
 have HSR := qh hsr
 have HA := qh hA
 clear htab hrd hl hsr hA
 go_enter Tryd.func5, Tryd.ntmps5
 go_upto_region 2 with (go_at_call 14; go_must (refine (shown_any _ HT.out).mono ?_); rintro e w1 ⟨rfl, hb⟩; have HB : Hid (Below w.heap.size w w1) := qh hb; clear hb)
 go_upto_region 3 with (go_at_call 15; go_must (refine (one_any (HRD.out.bel HB.out) HSL.out HSR.out (fun b o e => Nat.lt_of_lt_of_le (HA.out b o e) HB.out.size) hb).mono ?_); rintro e w2 ⟨A1, A2, c1, c2, r1, r2, rfl, hb2, hone⟩; have HO := qh hone; have HB2 := qh (HB.out.trans (below_low hb2 HB.out.size)); have HS1 := qh HB.out.size; clear hb2 hone)
 by_cases h0 : r1 = 0
 ·subst h0
  go_wp2_with fail
  go_ret
  exact ⟨rfl, HB2.out⟩
 have h0b : ((r1 : Int) == 0) = false := by simp; omega
 obtain ⟨t, hg, hd, hs, hl2, hrow, htz⟩ := HO.out h0
 have hlim := good_lim hg hd
 have hfl : (Tr.flat 0 t).length = r1 := by rw [flat_len]; exact hs
 have HG := qh hg
 have HD := qh hd
 have HS := qh hs
 have HL2 := qh hl2
 have HFL := qh hfl
 have HRW := qh hrow
 have HZ := qh (htz.less HS1.out)
 have hr1 : 0 < r1 ∧ r1 ≤ 2176782336 := by omega
 have hr2 : r2 ≤ 17414258688 := by omega
 have hws : IntKind.i64.wrap ((r1 : Int) - 1) = (r1 : Int) - 1 := IntWalk.i64_in _ (by omega)
 clear hg hd hs hl2 hrow htz hlim hfl HO HB HRD HSL HSR HA
 obtain ⟨r, hp, hN, hU, hE, hTt⟩ := good_inside HG.out HD.out
 have hil := insideT_len (Tr.toks t)
 rw [HL2.out] at hil
 have HIL := qh hil
 have HP := qh hp
 have HN : Hid (nodeOf r = (r1 : Int) - 1) := qh (by rw [hN, HS.out])
 have HU : Hid (usedOf r = ((r2 + 2 : Nat) : Int)) := qh (by rw [hU, hil])
 have HE := qh hE
 have HTt := qh hTt
 clear hp hN hU hE hTt hil
 go_upto_region 5 with fail
 have HBa := HB2
 have HB2 := qh (Below.refl w2.heap.size w2)
 go_upto_region 6 with (first | (have hmk := HB5.out; clear hmk; at_builtin; go_must (refine wpList_appendT _ rfl _ _ rfl (.slice A4 r4 c4) ([signT gLp] ++ (Tr.toks t)) rfl (HR5o.out.bel (bel_one _ _)).own _ 1 1 [signT gRp] rfl (Rd.toks _ [signT gRp] _ 1 rfl rfl (by omega)) rfl (by have := HL2.out; (try simp only [LL]); omega) ?_); intro v6 w6 ho hg hn; have hz6 := Tz.app (HR5o.out.bel (bel_one _ _)) ho hg hn (Nat.le_trans HB5.out.size (alloc_le _ _)); have HB6 := qh ((HB5.out.trans (below_low (bel_one _ _) HB5.out.size)).trans (grown_below hg (Nat.le_trans HB5.out.size (alloc_le _ _)) HR5o.out.new)); obtain ⟨r6, hr⟩ : ∃ r, (([signT gLp] ++ (Tr.toks t)) ++ [signT gRp]).length = r := ⟨_, rfl⟩; obtain ⟨A6, c6, e6, -, -⟩ := Own.rd ho; rw [hr] at e6; subst e6; have HL6 := qh hr; have HR6o := qh hz6; clear ho hg hn hz6 hr HB5) | (have hmk := HB4.out; clear hmk; go_at_call 21; go_must (refine (sign_any gRp _).mono ?_); rintro e w5 ⟨rfl, hb⟩; have HB5 := qh (HB4.out.trans (below_low hb HB4.out.size)); have HR5o := qh (HR4o.out.bel hb); clear hb HB4) | (have hmk := HB3.out; clear hmk; at_builtin; go_must (refine wpList_appendT _ rfl _ _ rfl (.slice (some ⟨w3.heap.size, 0, none⟩) 1 1) [signT gLp] rfl (qh (Tz.made w3 (signT gLp) HB3.out.size)).out.own A2 r2 c2 (Tr.toks t) rfl ((HR3x.out.bel (bel_one _ _)).own.rdm HL2.out) HL2.out (by simp only [List.length_cons, List.length_nil]; omega) ?_); intro v4 w4 ho hg hn; have hz4 := Tz.app (qh (Tz.made w3 (signT gLp) HB3.out.size)).out ho hg hn (Nat.le_trans HB3.out.size (alloc_le _ _)); have HB4 := qh ((HB3.out.trans (below_low (bel_one _ _) HB3.out.size)).trans (grown_below hg (Nat.le_trans HB3.out.size (alloc_le _ _)) (qh (Tz.made w3 (signT gLp) HB3.out.size)).out.new)); obtain ⟨r4, hr⟩ : ∃ r, ([signT gLp] ++ (Tr.toks t)).length = r := ⟨_, rfl⟩; obtain ⟨A4, c4, e4, -, -⟩ := Own.rd ho; rw [hr] at e4; subst e4; have HL4 := qh hr; have HR4o := qh hz4; clear ho hg hn hz4 hr HB3) | (have hmk := HB2.out; clear hmk; go_at_call 21; go_must (refine (sign_any gLp _).mono ?_); rintro e w3 ⟨rfl, hb⟩; have HB3 := qh (HB2.out.trans (below_low hb HB2.out.size)); have HR3x := qh (HZ.out.bel hb); clear hb HB2))
 have hI : (([signT gLp] ++ (Tr.toks t)) ++ [signT gRp]) = insideT (Tr.toks t) := by simp [insideT]
 have HI : Hid (Tz w2.heap.size w6 (.slice A6 r6 c6) (insideT (Tr.toks t))) := qh (by rw [← hI]; exact HR6o.out)
 have HLI : Hid ((insideT (Tr.toks t)).length = r6) := qh (by rw [← hI]; exact HL6.out)
 have hr6 : r6 = r2 + 2 := by rw [← HLI.out]; exact HIL.out
 have HRW6 := qh (HRW.out.belw HB6.out)
 have HBw := qh (HBa.out.trans (below_low HB6.out HBa.out.size))
 have HU6 : Hid (usedOf r = (r6 : Int)) := qh (by rw [HU.out, hr6])
 have hc6 : r6 ≤ c6 := (OwnT.rdm HI.out.own HLI.out).1
 have hr6b : 0 < r6 ∧ r6 ≤ 17414258690 := by omega
 clear hI HR6o HL6 HRW HB6 HBa HIL HU HZ HL2 hr6
 have h6b : ((r6 : Int) == 0) = false := by simp; omega
 obtain ⟨k, hk, hkt⟩ : ∃ k : Nat, k < r6 ∧ Int.tmod (a : Int) (r6 : Int) = (k : Int) := ⟨a % r6, Nat.mod_lt _ (by omega), by rw [Int.tmod_eq_emod_of_nonneg (by omega)]; omega⟩
 obtain ⟨fu, q, hq, hqn, hqe, hqu⟩ := good_cut HG.out HD.out (n := k) (by rw [HLI.out]; exact hk)
 obtain ⟨T2, hT2⟩ : ∃ T2, treeOf q.1.ns = T2 := ⟨_, rfl⟩
 obtain ⟨t2, ht2⟩ : ∃ t2, T2.length = t2 := ⟨_, rfl⟩
 obtain ⟨U, hU⟩ : ∃ U, usedOf q = U := ⟨_, rfl⟩
 rw [hU] at hqu
 have HQ := qh hq
 have HQN := qh hqn
 have HQE := qh hqe
 have HQU := qh hqu
 have HT2 := qh hT2
 have HT2L := qh ht2
 have HUU := qh hU
 clear hq hqn hqe hqu hT2 ht2 hU
 go_upto_region 7 with fail
 have hkc : k ≤ c6 := by omega
 go_upto_region 8 with (go_at_call 16; go_must (refine (told_isF (m := t2) HT2L.out HQ.out HQN.out HUU.out HQE.out HT2.out (Rd.firstT (OwnT.rdm HI.out.own HLI.out) HLI.out (Nat.le_of_lt hk)) (OwnT.old HI.out.own) (show ((insideT (Tr.toks t)).take k).length = k by rw [List.length_take, HLI.out]; omega) (by omega) (short_ok fun x hx => inside_all (P := Short) (show ByteArray.size _ ≤ 64 by decide) (show ByteArray.size _ ≤ 64 by decide) (good_short HG.out) x (List.mem_of_mem_take hx)) (HT.out.below HBw.out)).mono ?_); rintro e w7 ⟨A7, c7, rfl, hrn, hbn⟩; have HI7 := qh (HI.out.bel hbn); have HRW7 := qh (HRW6.out.belw hbn); have HB7 := qh (HBw.out.trans (below_low hbn HBw.out.size)); clear hrn hbn)
 have hk8 := Blk.new w7 31 #[.int .i64 (-1), .int .i64 U, .int .i64 30, .slice A7 t2 c7]
 have hbw8 := bel_one w7 (.cells #[.int .i64 (-1), .int .i64 U, .int .i64 30, .slice A7 t2 c7] 31)
 have HK8 := qh hk8
 have HI8 := qh (HI7.out.bel hbw8)
 have HRW8 := qh (HRW7.out.belw hbw8)
 have HB8 := qh (HB7.out.trans (below_low hbw8 HB7.out.size))
 clear hk8 hbw8
 generalize w7.alloc (.cells #[.int .i64 (-1), .int .i64 U, .int .i64 30, .slice A7 t2 c7] 31) = W8 at HK8 HI8 HRW8 HB8 ⊢
 generalize w7.heap.size = g8 at HK8 ⊢
 clear HI HI7 HRW6 HRW7 HBw HB7 HQ HQN HQE HT2 HT2L HUU
 go_upto_region 9 with (go_at_call 16; go_must (refine (told_is (m := r1) HFL.out HP.out HN.out HU6.out HE.out HTt.out (OwnT.rdm HI8.out.own HLI.out) (OwnT.old HI8.out.own) HLI.out (by omega) (short_ok (inside_all (P := Short) (show ByteArray.size _ ≤ 64 by decide) (show ByteArray.size _ ≤ 64 by decide) (good_short HG.out))) (HT.out.below HB8.out)).mono ?_); rintro e w9 ⟨A9, c9, rfl, hrn, hbn⟩; have HRN := qh hrn; have HI9 := qh (HI8.out.bel hbn); have HRW9 := qh (HRW8.out.belw hbn); have HK9 := qh (HK8.out.bel hbn); have HB9 := qh (HB8.out.trans (below_low hbn HB8.out.size)); clear hrn hbn)
 have hk5 := Blk.new w9 31 #[.int .i64 ((r1 : Int) - 1), .int .i64 (r6 : Int), .int .i64 0, .slice A9 r1 c9]
 have hbw5 := bel_one w9 (.cells #[.int .i64 ((r1 : Int) - 1), .int .i64 (r6 : Int), .int .i64 0, .slice A9 r1 c9] 31)
 have HK5 := qh hk5
 have HRN5 := qh (HRN.out.belw hbw5)
 have HI5 := qh (HI9.out.bel hbw5)
 have HRW5 := qh (HRW9.out.belw hbw5)
 have HKa := qh (HK9.out.bel hbw5)
 have HB5 := qh (HB9.out.trans (below_low hbw5 HB9.out.size))
 clear hk5 hbw5
 generalize w9.alloc (.cells #[.int .i64 ((r1 : Int) - 1), .int .i64 (r6 : Int), .int .i64 0, .slice A9 r1 c9] 31) = W5 at HK5 HRN5 HI5 HRW5 HKa HB5 ⊢
 generalize w9.heap.size = g5 at HK5 ⊢
 clear HI8 HI9 HRW8 HRW9 HB8 HB9 HP HN HU6 HE HTt HK8 HK9 HRN
 have y50 := HK5.out.cell 0
 have y51 := HK5.out.cell 1
 have y52 := HK5.out.cell 2
 have y53 := HK5.out.cell 3
 have l5 := HK5.out.lt
 simp only [GG] at y50 y51 y52 y53
 have y80 := HKa.out.cell 0
 have y81 := HKa.out.cell 1
 have y82 := HKa.out.cell 2
 have l8 := HKa.out.lt
 simp only [GG] at y80 y81 y82
 rcases HQU.out with hU | ⟨hU, hk0, tk, htk, htk1⟩
 ·subst hU
  have hwk : wrap64 ((k : Int) - 1) = (k : Int) - 1 := by unfold wrap64; omega
  have hne : ((k : Int) == (k : Int) - 1) = false := by simp; omega
  clear HQU
  go_wp2_with (first | (have hmk := HB9.out; clear hmk; go_at_call 17; go_must (refine (equal_same HQ9.out HW9.out.rdm HW9.out.kl).mono ?_); rintro e w10 ⟨rfl, hb⟩; have HB10 := qh (HB9.out.trans (below_low hb HB9.out.size)); clear hb) | (go_at_call 18; go_must (refine (bare_any HRN5.out (by omega) (tflat_at 0 t)).mono ?_); rintro e w9 ⟨A9b, c9b, rfl, hq, hb⟩; have HQ9 := qh hq; have HW9 := qh (HRW5.out.belw hb); have HB9 := qh (HB5.out.trans (below_low hb HB5.out.size)); clear hq hb))
  go_ret
  exact ⟨rfl, HB10.out⟩
 ·subst hU
  obtain ⟨j, hj⟩ : ∃ j, k = j + 1 := ⟨k - 1, by omega⟩
  rw [show k - 1 = j from by omega] at htk
  have hkj : (k : Int) - 1 = (j : Int) := by omega
  have hwk : wrap64 ((k : Int) - 1) = (j : Int) := by unfold wrap64; omega
  rw [hkj] at y81
  obtain ⟨bi, oi, rfl, hbi, p0, -, -, -⟩ := (OwnT.rdm HI5.out.own HLI.out).tok htk (by omega)
  rw [htk1] at p0
  have hjr : j < r6 := by omega
  have hd1 : decide ((0 : Int) < (k : Int)) = true := decide_eq_true (by omega)
  have hne : ((j : Int) == (k : Int)) = false := by simp; omega
  clear HQU htk
  go_wp2_with (first | (have hmk := HB9.out; clear hmk; go_at_call 17; go_must (refine (equal_same HQ9.out HW9.out.rdm HW9.out.kl).mono ?_); rintro e w10 ⟨rfl, hb⟩; have HB10 := qh (HB9.out.trans (below_low hb HB9.out.size)); clear hb) | (go_at_call 18; go_must (refine (bare_any HRN5.out (by omega) (tflat_at 0 t)).mono ?_); rintro e w9 ⟨A9b, c9b, rfl, hq, hb⟩; have HQ9 := qh hq; have HW9 := qh (HRW5.out.belw hb); have HB9 := qh (HB5.out.trans (below_low hb HB5.out.size)); clear hq hb))
  go_ret
  exact ⟨rfl, HB10.out⟩
theorem cuts_int {w : World} {A : Option Addr} {n c : Nat} {S : List Int} (b a : Int) (hb : (Lit.int .u8 b).wf = true) (ha : (Lit.int .u16 a).wf = true) (hrd : Rd w A n c 1 (ics S)) (hl : S.length = n) (hsr : ∀ x ∈ S, -9223372036854775808 ≤ x ∧ x ≤ 9223372036854775807) (hA : ∀ b o, A = some ⟨b, o, none⟩ → b < w.heap.size) (htab : Asp w) : Calls Tryd.prog 5 #[.slice A n c, .int .u8 b, .int .u16 a] w fun e w' => e = .returned (.bool true) ∧ Below w.heap.size w w' := by
 obtain ⟨k, rfl, hk⟩ := byte_of hb
 have h2 : (decide (0 ≤ a) && decide (a ≤ 65535)) = true := ha
 simp only [Bool.and_eq_true, decide_eq_true_eq] at h2
 obtain ⟨j, rfl⟩ : ∃ j : Nat, a = (j : Int) := ⟨a.toNat, by omega⟩
 exact cuts_walk hrd hl hsr hA hk (by omega) htab
end Go.Proofs.YtjdcicopjipmnaaDoor
