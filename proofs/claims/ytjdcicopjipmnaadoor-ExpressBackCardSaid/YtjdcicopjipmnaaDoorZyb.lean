/- ExpressBack: the walk. -/
import Derived.Test.YtjdcicopjipmnaaDoorZaj
import Derived.Test.YtjdcicopjipmnaaDoorZay
namespace Go.Proofs.YtjdcicopjipmnaaDoor
set_option maxRecDepth 100000
set_option maxHeartbeats 40000000
section
open Go.RowKit
set_option linter.unusedVariables false
set_option linter.unusedSimpArgs false
theorem back_walk {w : World} {A : Option Addr} {n c b : Nat} {S : List Int} (hrd : Rd w A n c 1 (ics S)) (hl : S.length = n) (hsr : ∀ x ∈ S, -9223372036854775808 ≤ x ∧ x ≤ 9223372036854775807) (hA : ∀ b o, A = some ⟨b, o, none⟩ → b < w.heap.size) (hb : b < 256) (htab : Asp w) : Calls Tryd.prog 3 #[.slice A n c, .int .u8 b] w fun e w' => e = .returned (.bool true) ∧ Below w.heap.size w w' := by
 have HT := qh htab
 have HRD := qh hrd
 have HSL := qh hl
 have HSR := qh hsr
 have HA := qh hA
 clear htab hrd hl hsr hA
 go_enter Tryd.func3, Tryd.ntmps3
 go_upto_region 2 with (go_at_call 14; go_must (refine (shown_any _ HT.out).mono ?_); rintro e w1 ⟨rfl, hb⟩; have HB : Hid (Below w.heap.size w w1) := qh hb; clear hb)
 go_upto_region 3 with (go_at_call 15; go_must (refine (one_any (HRD.out.bel HB.out) HSL.out HSR.out (fun b o e => Nat.lt_of_lt_of_le (HA.out b o e) HB.out.size) hb).mono ?_); rintro e w2 ⟨A1, A2, c1, c2, r1, r2, rfl, hb2, hone⟩; have HO := qh hone; have HB2 := qh (HB.out.trans (below_low hb2 HB.out.size)); have HS1 := qh HB.out.size; clear hb2 hone)
 by_cases h0 : r1 = 0
 ·subst h0
  go_wp2_with fail
  go_ret
  exact ⟨rfl, HB2.out⟩
 have h0b : ((r1 : Int) == 0) = false := by simp; omega
 obtain ⟨t, hg, hd, hs, hl2, hrow, htz⟩ := HO.out h0
 have hlim := good_lim hg hd
 have hfl : (Tr.flat 0 t).length = r1 := by rw [flat_len]; exact hs
 have HG := qh hg
 have HD := qh hd
 have HS := qh hs
 have HL2 := qh hl2
 have HFL := qh hfl
 have HRW := qh hrow
 have HZ := qh (htz.less HS1.out)
 have hr1 : 0 < r1 ∧ r1 ≤ 2176782336 := by omega
 have hr2 : r2 ≤ 17414258688 := by omega
 have hws : IntKind.i64.wrap ((r1 : Int) - 1) = (r1 : Int) - 1 := IntWalk.i64_in _ (by omega)
 clear hg hd hs hl2 hrow htz hlim hfl HO HB HRD HSL HSR HA
 obtain ⟨r, hp, hN, hU, hE, hTt⟩ := good_parse (rest := []) HG.out HD.out (by decide)
 rw [List.append_nil] at hp
 have HP := qh hp
 have HN : Hid (nodeOf r = (r1 : Int) - 1) := qh (by rw [hN, HS.out])
 have HU : Hid (usedOf r = (r2 : Int)) := qh (by rw [hU, HL2.out])
 have HE := qh hE
 have HTt := qh hTt
 clear hp hN hU hE hTt
 go_upto_region 6 with (go_at_call 16; go_must (refine (told_is (m := r1) HFL.out HP.out HN.out HU.out HE.out HTt.out (OwnT.rdm HZ.out.own HL2.out) (OwnT.old HZ.out.own) HL2.out (by omega) (short_ok (good_short HG.out)) (HT.out.below HB2.out)).mono ?_); rintro e w3 ⟨A3, c3, rfl, hrn, hbn⟩; have HRN := qh hrn; have HR3 := qh (HRW.out.belw hbn); have HB3 := qh (HB2.out.trans (below_low hbn HB2.out.size)); clear hrn hbn)
 have hk4 := Blk.new w3 31 #[.int .i64 ((r1 : Int) - 1), .int .i64 (r2 : Int), .int .i64 0, .slice A3 r1 c3]
 have hbw4 := bel_one w3 (.cells #[.int .i64 ((r1 : Int) - 1), .int .i64 (r2 : Int), .int .i64 0, .slice A3 r1 c3] 31)
 have HK4 := qh hk4
 have HRN4 := qh (HRN.out.belw hbw4)
 have HR4 := qh (HR3.out.belw hbw4)
 have HB4 := qh (HB3.out.trans (below_low hbw4 HB3.out.size))
 clear hk4 hbw4
 generalize w3.alloc (.cells #[.int .i64 ((r1 : Int) - 1), .int .i64 (r2 : Int), .int .i64 0, .slice A3 r1 c3] 31) = W4 at HK4 HRN4 HR4 HB4 ⊢
 generalize w3.heap.size = g4 at HK4 ⊢
 have y40 := HK4.out.cell 0
 have y41 := HK4.out.cell 1
 have y42 := HK4.out.cell 2
 have y43 := HK4.out.cell 3
 have l4 := HK4.out.lt
 simp only [GG] at y40 y41 y42 y43
 go_wp2_with (first | (have hmk := HB9.out; clear hmk; go_at_call 17; go_must (refine (equal_same HQ9.out HW9.out.rdm HW9.out.kl).mono ?_); rintro e w10 ⟨rfl, hb⟩; have HB10 := qh (HB9.out.trans (below_low hb HB9.out.size)); clear hb) | (go_at_call 18; go_must (refine (bare_any HRN4.out (by omega) (tflat_at 0 t)).mono ?_); rintro e w9 ⟨A9b, c9b, rfl, hq, hb⟩; have HQ9 := qh hq; have HW9 := qh (HR4.out.belw hb); have HB9 := qh (HB4.out.trans (below_low hb HB4.out.size)); clear hq hb))
 go_ret
 exact ⟨rfl, HB10.out⟩
theorem back_int {w : World} {A : Option Addr} {n c : Nat} {S : List Int} (b : Int) (hb : (Lit.int .u8 b).wf = true) (hrd : Rd w A n c 1 (ics S)) (hl : S.length = n) (hsr : ∀ x ∈ S, -9223372036854775808 ≤ x ∧ x ≤ 9223372036854775807) (hA : ∀ b o, A = some ⟨b, o, none⟩ → b < w.heap.size) (htab : Asp w) : Calls Tryd.prog 3 #[.slice A n c, .int .u8 b] w fun e w' => e = .returned (.bool true) ∧ Below w.heap.size w w' := by
 obtain ⟨k, rfl, hk⟩ := byte_of hb
 exact back_walk hrd hl hsr hA hk htab
end
end Go.Proofs.YtjdcicopjipmnaaDoor
