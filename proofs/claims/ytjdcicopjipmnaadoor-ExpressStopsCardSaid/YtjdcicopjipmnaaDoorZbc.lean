/- ExpressStops: the walk. -/
import Derived.Test.YtjdcicopjipmnaaDoorZaz
import Derived.Test.YtjdcicopjipmnaaDoorZba
import Derived.Test.YtjdcicopjipmnaaDoorZbb
namespace Go.Proofs.YtjdcicopjipmnaaDoor
set_option maxRecDepth 100000
set_option maxHeartbeats 40000000
open Go.RowKit
set_option linter.unusedVariables false
set_option linter.unusedSimpArgs false
theorem stops_walk {w : World} {A : Option Addr} {n c b : Nat} {S : List Int} (hrd : Rd w A n c 1 (ics S)) (hl : S.length = n) (hsr : ∀ x ∈ S, -9223372036854775808 ≤ x ∧ x ≤ 9223372036854775807) (hA : ∀ b o, A = some ⟨b, o, none⟩ → b < w.heap.size) {a nb cb : Nat} {AB : Option Addr} {LB : List TokD} (hb : b < 256) (ha : a < 256) (hlb : Rd w AB nb cb 4 (LB.flatMap tcs)) (hnb : LB.length = nb) (htab : Asp w) : Calls Tryd.prog 4 #[.slice A n c, .agg #[.int .u8 b, .int .u8 a], .slice AB nb cb] w fun e w' => e = .returned (.bool true) ∧ Below w.heap.size w w' := by
 have HT := qh htab
 have HRD := qh hrd
 have HSL := qh hl
 have HSR := qh hsr
 have HA := qh hA
 clear htab hrd hl hsr hA
 have HLB := qh hlb
 have HNB := qh hnb
 have HBX := qh (Blk.new w 36 #[.int .u8 b, .int .u8 a])
 have hbx := bel_one w (.cells #[.int .u8 b, .int .u8 a] 36)
 have HBX0 := qh hbx
 clear hlb hnb
 go_enter Tryd.func4, Tryd.ntmps4
 go_upto_region 2 with (go_at_call 14; go_must (refine (shown_any _ (HT.out.below hbx)).mono ?_); rintro e w1 ⟨rfl, hb2⟩; have HB : Hid (Below w.heap.size w w1) := qh (hbx.trans (below_low hb2 hbx.size)); have HX1 := qh (HBX.out.bel hb2); clear hb2)
 have x0 := HX1.out.cell 0
 have xlt := HX1.out.lt
 simp only [GG] at x0
 go_upto_region 3 with (go_at_call 15; go_must (refine (one_any (HRD.out.bel HB.out) HSL.out HSR.out (fun b o e => Nat.lt_of_lt_of_le (HA.out b o e) HB.out.size) hb).mono ?_); rintro e w2 ⟨A1, A2, c1, c2, r1, r2, rfl, hbo, hone⟩; have HO := qh hone; have HB2 := qh (HB.out.trans (below_low hbo HB.out.size)); have HS1 := qh HB.out.size; clear hone; have HX2 := qh (HX1.out.bel hbo))
 clear x0 xlt
 by_cases h0 : r1 = 0
 ·subst h0
  go_wp2_with fail
  go_ret
  exact ⟨rfl, HB2.out⟩
 have h0b : ((r1 : Int) == 0) = false := by simp; omega
 obtain ⟨t, hg, hd, hs, hl2, hrow, htz⟩ := HO.out h0
 have hlim := good_lim hg hd
 have hfl : (Tr.flat 0 t).length = r1 := by rw [flat_len]; exact hs
 have HG := qh hg
 have HD := qh hd
 have HS := qh hs
 have HL2 := qh hl2
 have HFL := qh hfl
 have HRW := qh hrow
 have HZ := qh (htz.less HS1.out)
 have hr1 : 0 < r1 ∧ r1 ≤ 2176782336 := by omega
 have hr2 : r2 ≤ 17414258688 := by omega
 have hws : IntKind.i64.wrap ((r1 : Int) - 1) = (r1 : Int) - 1 := IntWalk.i64_in _ (by omega)
 have HLB2 := qh (HLB.out.bel HB2.out)
 clear hg hd hs hl2 hrow htz hlim hfl HO HB HX1 HBX HBX0 HLB HRD HSL HSR HA
 go_upto_region 6 with (go_at_call 19; go_must (refine (ends_any _).mono ?_); rintro e w3 ⟨AE, rfl, hre, hbn⟩; have HRE := qh hre; have HX3 := qh (HX2.out.bel hbn); have HRW3 := qh (HRW.out.belw hbn); have HZ3 := qh (HZ.out.bel hbn); have HLB3 := qh (HLB2.out.bel hbn); have HB3 := qh (HB2.out.trans (below_low hbn HB2.out.size)); clear hre hbn)
 obtain ⟨q, hq, hqt⟩ : ∃ q : Nat, q < 20 ∧ Int.tmod (a : Int) 20 = (q : Int) := ⟨a % 20, Nat.mod_lt _ (by omega), by rw [Int.tmod_eq_emod_of_nonneg (by omega)]; omega⟩
 obtain ⟨te, hte⟩ : ∃ te, endsL[q]? = some te := ⟨_, List.getElem?_eq_getElem (show q < endsL.length from hq)⟩
 obtain ⟨be, oe, rfl, hbe, -⟩ := HRE.out.tok hte (by decide)
 have HTE := qh hte
 have HQT := qh hqt
 have HZR := qh (OwnT.rdm HZ3.out.own HL2.out)
 have hwa : IntKind.i64.wrap (a : Int) = (a : Int) := IntWalk.i64_in _ (by omega)
 have hq20 : ¬ ((20 : Int) ≤ (q : Int)) := by omega
 have htl : (Tr.toks t).length ≤ 17414258688 := by rw [HL2.out]; exact hr2
 have hfw := few_len LB
 clear HRW HZ HX2 HLB2 HB2 hte hqt hbe
 refine wp_items kr [⟨26, some 2, .row []⟩, ⟨27, none, .val (.slice A2 r2 c2)⟩, ⟨28, some 13, .row ([] ++ (Tr.toks t))⟩, ⟨29, none, .val (.slice (some ⟨be, oe, none⟩) 20 20)⟩, ⟨30, none, .val (.pointer (some ⟨w.heap.size, 1, none⟩))⟩, ⟨31, none, .val (.int .u8 (a : Int))⟩, ⟨32, none, .val (.int .i64 (a : Int))⟩, ⟨33, none, .val (.slice (some ⟨be, oe, none⟩) 20 20)⟩, ⟨34, none, .val (.int .i64 20)⟩, ⟨35, none, .val (.int .i64 (q : Int))⟩, ⟨36, none, .val (.pointer (some ⟨be, oe + q * 4, none⟩))⟩, ⟨37, none, .val (tokV te)⟩, ⟨38, none, .row [te]⟩, ⟨39, some 16, .row (([] ++ (Tr.toks t)) ++ [te])⟩, ⟨40, none, .val (.slice AB nb cb)⟩, ⟨41, none, .row (fewL LB)⟩, ⟨42, some 17, .row ((([] ++ (Tr.toks t)) ++ [te]) ++ (fewL LB))⟩, ⟨11, none, .row ((([] ++ (Tr.toks t)) ++ [te]) ++ (fewL LB))⟩] [26, 27, 28, 29, 30, 31, 32, 33, 34, 35, 36, 37, 38, 39, 40, 41, 42, 11] [some 2, none, some 13, none, none, none, none, none, none, none, none, none, none, some 16, none, none, some 17, none] rfl rfl 65 w3.heap.size (Nat.le_refl _) rfl kr [17] (by decide) (by decide) (Hold.nil w3.heap.size w3) ?_ [some 26, some 27, some 28, some 29, some 30, some 31, some 32, some 33, some 34, some 35, some 36, some 37, some 38, some 39, some 40, some 41, some 42, some 11] rfl [(11, .row ((([] ++ (Tr.toks t)) ++ [te]) ++ (fewL LB)))] rfl rfl ?_
 ·exact ⟨step_made0 rfl rfl (by simp), step_move rfl (Ev.base kr rfl) rfl (by simp), step_app 0 rfl kr rfl rfl rfl (EvRow.old (Ev.item 1 kr kr rfl rfl) HL2.out (fun w hb => HZR.out.bel hb)) (by (try simp only [LL]); have := HL2.out; omega) rfl (by simp), step_move rfl (Ev.base kr rfl) rfl (by simp), step_addr rfl (Ev.base kr rfl) (Ev.const _) (fun w => by go_simp) rfl (by simp), step_load rfl (Ev.item 4 kr kr rfl rfl) (fun a w S hA => by have hb := HX3.out.bel hA.bel; have c0 := hb.cell 1; have xlt := hb.lt; simp only [GG] at c0; go_simp) rfl (by simp), step_conv rfl (Ev.item 5 kr kr rfl rfl) (fun w => by go_simp) rfl (by simp), step_move rfl (Ev.base kr rfl) rfl (by simp), step_lenT rfl (Ev.item 7 kr kr rfl rfl) rfl rfl (by simp), step_rem rfl (Ev.item 6 kr kr rfl rfl) (Ev.item 8 kr kr rfl rfl) (by decide) HQT.out rfl (by simp), step_addr rfl (Ev.item 3 kr kr rfl rfl) (Ev.item 9 kr kr rfl rfl) (fun w => by go_simp) rfl (by simp), step_load rfl (Ev.item 10 kr kr rfl rfl) (fun a w S hA => run_tokAt (HRE.out.bel hA.bel) HTE.out (by decide) rfl) rfl (by simp), step_made1 rfl (Ev.item 11 kr kr rfl rfl) rfl (by simp), step_app 2 rfl kr rfl rfl rfl (EvRow.item 12 kr kr rfl rfl) (by (try simp only [LL]); omega) rfl (by simp), step_move rfl (Ev.base kr rfl) rfl (by simp), step_few rfl (Ev.item 14 kr kr rfl rfl) (fun w hb => HLB3.out.bel hb) HNB.out rfl (by simp), step_app 13 rfl kr rfl rfl rfl (EvRow.item 15 kr kr rfl rfl) (by (try simp only [LL]); omega) rfl (by simp), step_pass 16 (.inr rfl) kr rfl rfl rfl (by simp), True.intro⟩
 intro xs w9 hxs hbel hgr hh
 replace hxs : xs.length = 18 := hxs
 obtain ⟨x0, ys0, rfl, hx0⟩ := len_succ hxs
 obtain ⟨x1, ys1, rfl, hx1⟩ := len_succ hx0
 obtain ⟨x2, ys2, rfl, hx2⟩ := len_succ hx1
 obtain ⟨x3, ys3, rfl, hx3⟩ := len_succ hx2
 obtain ⟨x4, ys4, rfl, hx4⟩ := len_succ hx3
 obtain ⟨x5, ys5, rfl, hx5⟩ := len_succ hx4
 obtain ⟨x6, ys6, rfl, hx6⟩ := len_succ hx5
 obtain ⟨x7, ys7, rfl, hx7⟩ := len_succ hx6
 obtain ⟨x8, ys8, rfl, hx8⟩ := len_succ hx7
 obtain ⟨x9, ys9, rfl, hx9⟩ := len_succ hx8
 obtain ⟨x10, ys10, rfl, hx10⟩ := len_succ hx9
 obtain ⟨x11, ys11, rfl, hx11⟩ := len_succ hx10
 obtain ⟨x12, ys12, rfl, hx12⟩ := len_succ hx11
 obtain ⟨x13, ys13, rfl, hx13⟩ := len_succ hx12
 obtain ⟨x14, ys14, rfl, hx14⟩ := len_succ hx13
 obtain ⟨x15, ys15, rfl, hx15⟩ := len_succ hx14
 obtain ⟨x16, ys16, rfl, hx16⟩ := len_succ hx15
 obtain ⟨x17, ys17, rfl, hx17⟩ := len_succ hx16
 obtain rfl := len_zero hx17
 clear hxs hx0 hx1 hx2 hx3 hx4 hx5 hx6 hx7 hx8 hx9 hx10 hx11 hx12 hx13 hx14 hx15 hx16 hx17
 replace hh : Hold w3.heap.size w9 [(x17, .row ((([] ++ (Tr.toks t)) ++ [te]) ++ (fewL LB)))] := hh
 obtain ⟨A9, c9, e9, -, -⟩ := Own.rd hh.own
 have hI : ((([] ++ (Tr.toks t)) ++ [te]) ++ (fewL LB)) = Tr.toks t ++ (te :: fewL LB) := by simp
 have hown := hh.own
 rw [hI] at hown e9
 obtain ⟨r9, hr9⟩ : ∃ r, (Tr.toks t ++ (te :: fewL LB)).length = r := ⟨_, rfl⟩
 rw [hr9] at e9
 subst e9
 have hr9b : r9 ≤ 17414258800 := by
  rw [← hr9, List.length_append, List.length_cons, HL2.out]
  have := few_len LB
  omega
 have HL9 := qh hr9
 have HO9 := qh hown
 have HB9 := qh (HB3.out.trans (below_low hbel HB3.out.size))
 have HRW9 := qh (HRW3.out.belw hbel)
 clear hh hI hown hbel hgr hr9 hq hwa hq20 htl hfw
 simp only [List.zip_cons_cons, List.zip_nil_left, List.zip_nil_right, putAll]
 simp only [Act.put, PQ]
 obtain ⟨r, hp, hN, hU, hE, hTt⟩ := good_parse (rest := te :: fewL LB) HG.out HD.out (ends_no te (List.mem_of_getElem? HTE.out))
 have HP := qh hp
 have HN : Hid (nodeOf r = (r1 : Int) - 1) := qh (by rw [hN, HS.out])
 have HU : Hid (usedOf r = (r2 : Int)) := qh (by rw [hU, HL2.out])
 have HE := qh hE
 have HTt := qh hTt
 clear hp hN hU hE hTt
 go_upto_region 8 with (go_at_call 16; go_must (refine (told_is (m := r1) HFL.out HP.out HN.out HU.out HE.out HTt.out (OwnT.rdm HO9.out HL9.out) (OwnT.old HO9.out) HL9.out (by omega) (smallA (short_ok (good_short HG.out)) (fun x hx => (List.mem_cons.1 hx).elim (fun e => by rw [e]; exact Nat.le_trans (ends_short te (List.mem_of_getElem? HTE.out)) (by decide)) (few_small LB x))) (HT.out.below HB9.out)).mono ?_); rintro e w10 ⟨A3, c3, rfl, hrn, hbn⟩; have HRN := qh hrn; have HR3 := qh (HRW9.out.belw hbn); have HB10 := qh (HB9.out.trans (below_low hbn HB9.out.size)); clear hrn hbn)
 have hk4 := Blk.new w10 31 #[.int .i64 ((r1 : Int) - 1), .int .i64 (r2 : Int), .int .i64 0, .slice A3 r1 c3]
 have hbw4 := bel_one w10 (.cells #[.int .i64 ((r1 : Int) - 1), .int .i64 (r2 : Int), .int .i64 0, .slice A3 r1 c3] 31)
 have HK4 := qh hk4
 have HRN4 := qh (HRN.out.belw hbw4)
 have HR4 := qh (HR3.out.belw hbw4)
 have HB4 := qh (HB10.out.trans (below_low hbw4 HB10.out.size))
 clear hk4 hbw4
 generalize w10.alloc (.cells #[.int .i64 ((r1 : Int) - 1), .int .i64 (r2 : Int), .int .i64 0, .slice A3 r1 c3] 31) = W4 at HK4 HRN4 HR4 HB4 ⊢
 generalize w10.heap.size = g4 at HK4 ⊢
 have y40 := HK4.out.cell 0
 have y41 := HK4.out.cell 1
 have y42 := HK4.out.cell 2
 have y43 := HK4.out.cell 3
 have l4 := HK4.out.lt
 simp only [GG] at y40 y41 y42 y43
 go_wp2_with (first | (have hmk := HB9x.out; clear hmk; go_at_call 17; go_must (refine (equal_same HQ9.out HW9.out.rdm HW9.out.kl).mono ?_); rintro e w10 ⟨rfl, hb⟩; have HB10x := qh (HB9x.out.trans (below_low hb HB9x.out.size)); clear hb) | (go_at_call 18; go_must (refine (bare_any HRN4.out (by omega) (tflat_at 0 t)).mono ?_); rintro e w9 ⟨A9b, c9b, rfl, hq, hb⟩; have HQ9 := qh hq; have HW9 := qh (HR4.out.belw hb); have HB9x := qh (HB4.out.trans (below_low hb HB4.out.size)); clear hq hb))
 go_ret
 exact ⟨rfl, HB10x.out⟩
theorem stops_int {w : World} {A : Option Addr} {n c nb cb : Nat} {AB : Option Addr} {S : List Int} {LB : List TokD} (b a : Int) (hb : (Lit.int .u8 b).wf = true) (ha : (Lit.int .u8 a).wf = true) (hrd : Rd w A n c 1 (ics S)) (hl : S.length = n) (hsr : ∀ x ∈ S, -9223372036854775808 ≤ x ∧ x ≤ 9223372036854775807) (hA : ∀ b o, A = some ⟨b, o, none⟩ → b < w.heap.size) (hlb : Rd w AB nb cb 4 (LB.flatMap tcs)) (hnb : LB.length = nb) (htab : Asp w) : Calls Tryd.prog 4 #[.slice A n c, .agg #[.int .u8 b, .int .u8 a], .slice AB nb cb] w fun e w' => e = .returned (.bool true) ∧ Below w.heap.size w w' := by
 obtain ⟨k, rfl, hk⟩ := byte_of hb
 obtain ⟨j, rfl, hj⟩ := byte_of ha
 exact stops_walk hrd hl hsr hA hk hj hlb hnb htab
end Go.Proofs.YtjdcicopjipmnaaDoor
