/- FrameNew: the walk. -/
import Derived.Test.YthdkloojhenlkaaFit
import Derived.Deep.LoopGhost
import Derived.Deep.CutBlock
namespace Go.Proofs.Ythdkloojhenlkaa
open Go.RowKit
attribute [local go_sem high] guardV eqV neqV
attribute [local go_sem] V.v

set_option maxRecDepth 100000 in
set_option maxHeartbeats 8000000 in
theorem new_walk (Ap : Option Addr) (n c : Nat) (ps : List CodeV) (code : Int) (A0 A1 : Option Addr) (n0 n1 c0 c1 : Nat) (l0 l1 : List V) (w : World)
    (hP : RdP w Ap n c ps) (hok : ∀ p ∈ ps, p.Ok w) (h0 : RdV w A0 n0 c0 l0) (h1 : RdV w A1 n1 c1 l1) :
    Calls Try.prog 3 #[.slice Ap n c, .int .i64 code, .agg #[.slice A0 n0 c0, .slice A1 n1 c1]] w fun e w' => e = .returned (.bool true) ∧ Below w.heap.size w w' := by
  have hn := hP.2.le
  have hn0 := h0.le
  have hbx : Below w.heap.size w (w.alloc (.cells #[.slice A0 n0 c0, .slice A1 n1 c1] 25)) := (by repeat (first | exact Below.refl _ _ | assumption | refine Below.setCell ?_ (by first | (simp; done) | (simp; omega) | omega) _ | refine below_drewN ?_ _ | refine Below.drew ?_ | refine Below.alloc ?_ (by first | (simp; done) | (simp; omega) | omega) _))
  have h0 := h0.new hbx
  have h1 := h1.new hbx
  have hP := hP.new hbx
  have hok : ∀ p ∈ ps, p.Ok (w.alloc (.cells #[.slice A0 n0 c0, .slice A1 n1 c1] 25)) := fun p hp => (hok p hp).new hbx
  have bx := Blk.new w 25 #[.slice A0 n0 c0, .slice A1 n1 c1]
  have hlx := bx.lt
  have x0 : (w.alloc (.cells #[.slice A0 n0 c0, .slice A1 n1 c1] 25)).cell? ⟨w.heap.size, 0, none⟩ = some (.slice A0 n0 c0) := bx.cell 0
  have x1 : (w.alloc (.cells #[.slice A0 n0 c0, .slice A1 n1 c1] 25)).cell? ⟨w.heap.size, 1, none⟩ = some (.slice A1 n1 c1) := bx.cell 1
  have X0 := Lib.hid x0
  have X1 := Lib.hid x1
  clear x0 x1 bx
  go_enter Try.func3, Try.ntmps3
  go_wp2_with fail
  generalize hW0 : w.alloc (.cells #[.slice A0 n0 c0, .slice A1 n1 c1] 25) = W0 at *
  have HW0 : Below w.heap.size w W0 := hbx
  clear hW0 hbx
  refine (shown_any _).mono ?_
  rintro e w1 ⟨rfl, hb1⟩
  have HB1 := Lib.hid hb1
  have h0 := h0.new hb1
  have h1 := h1.new hb1
  have hP := hP.new hb1
  have hok : ∀ p ∈ ps, p.Ok w1 := fun p hp => (hok p hp).new hb1
  have X0 : Hid (w1.cell? ⟨w.heap.size, 0, none⟩ = some (.slice A0 n0 c0)) := Lib.hid ((hb1.cell (p := ⟨w.heap.size, 0, none⟩) hlx).trans X0.out)
  have X1 : Hid (w1.cell? ⟨w.heap.size, 1, none⟩ = some (.slice A1 n1 c1)) := Lib.hid ((hb1.cell (p := ⟨w.heap.size, 1, none⟩) hlx).trans X1.out)
  have hlx1 : w.heap.size < w1.heap.size := Nat.lt_of_lt_of_le hlx hb1.size
  clear hb1 hlx
  go_wp2_with fail
  refine (fit_any Ap n c ps w1 hP hok).mono ?_
  rintro e w2 ⟨v, qs, rfl, hv, hs, hq1, hq4, hvn, hb2⟩
  obtain ⟨Av, N, cv, rfl, hrv, _⟩ := OwnP.rd hv
  have hN : qs.length = N := hrv.1
  have hN4 : N ≤ 4 := by omega
  have st : ∃ rs : List CodeV, rs.length = N ∧ OwnP w2 (.slice Av N cv) rs ∧ (∀ q ∈ rs, CodeV.Small w1 q) ∧ Below w1.heap.size w1 w2 := ⟨qs, hN, hv, hs, hb2⟩
  have HVN := Lib.hid hvn
  clear hv hs hb2 hvn hN hrv hq1 hq4
  go_upto_block 0 with fail
  go_cut [9] (fun _ wx => ∃ rs : List CodeV, rs.length = N ∧ OwnP wx (.slice Av N cv) rs ∧ (∀ q ∈ rs, CodeV.Small w1 q) ∧ Below w1.heap.size w1 wx)
  case first =>
   go_wp2_with fail
   go_loopg [9] N (fun g_ s9 wr => ∃ (j : Nat), j ≤ N ∧ g_ = N - j ∧ s9 = .int .i64 j ∧ ∃ rs : List CodeV, rs.length = N ∧ OwnP wr (.slice Av N cv) rs ∧ (∀ q ∈ rs, CodeV.Small w1 q) ∧ Below w1.heap.size w1 wr)
   case atStart => exact ⟨0, Nat.zero_le _, rfl, rfl, st⟩
   case round =>
    clear st
    obtain ⟨j, hj, rfl, rfl, rs, hl, hv, hs, hb⟩ := hrel
    by_cases hlt : j < N ∧ j < n
    · obtain ⟨hlt, hjn⟩ := hlt
      have HL := Lib.hid hl
      have HS := Lib.hid hs
      have HV := Lib.hid hv
      have HB := Lib.hid hb
      have hjr : j < rs.length := by omega
      have hjp : j < ps.length := by rw [hP.1]; exact hjn
      obtain ⟨bv, rfl, hbv, y0, f0, hset⟩ := hv.par (List.getElem?_eq_getElem hjr) (ps[j].par)
      obtain ⟨bp, op, rfl, hbp, _, _, p2, _⟩ := (hP.new hb).at_ hjn (List.getElem?_eq_getElem hjp)
      generalize ps[j].par = pj at *
      have hwv : w1.heap.size ≤ bv := HVN.out bv rfl
      have HST := Lib.hid hset
      have i0 : (0 : Int) ≤ (j : Int) := by omega
      clear hl hs hv hb hset
      by_cases hodd : j % 2 = 1
      · have hd : (((j : Int) % 2) == 1) = true := by simp; omega
        go_wp2
        go_roundg (N - (j + 1))
        case measure => omega
        case rel =>
          refine ⟨j + 1, by omega, rfl, by go_num, _, by simp [HL.out], HST.out, fun q hq => ?_, HB.out.setCell (p := ⟨bv, j * 11 + 2, none⟩) hwv _⟩
          rcases List.mem_or_eq_of_mem_set hq with hq | rfl
          · exact HS.out q hq
          · have := HS.out rs[j] (List.getElem_mem hjr)
            exact ⟨⟨this.ok.l, this.ok.c, this.ok.f⟩, this.l, this.c, this.f⟩
      · have hd : (((j : Int) % 2) == 1) = false := by simp; omega
        go_wp2
        go_roundg (N - (j + 1))
        case measure => omega
        case rel => exact ⟨j + 1, by omega, rfl, by go_num, rs, HL.out, HV.out, HS.out, HB.out⟩
    · have HS := Lib.hid hs
      have HL := Lib.hid hl
      have HV := Lib.hid hv
      have HB := Lib.hid hb
      clear hl hs hv hb
      by_cases hjN : j < N
      all_goals
        first
          | have hjn2 : ¬ j < n := by omega
          | skip
        go_wp2
        go_meet
        exact ⟨rs, HL.out, HV.out, HS.out, HB.out⟩
  case rest =>
    obtain ⟨rs, hl, hv, hs, hb⟩ := hcut
    have HS := Lib.hid hs
    have HB := Lib.hid hb
    have hR : RdP wc Av N cv rs := by obtain ⟨_, _, _, e, hr, _⟩ := OwnP.rd hv; cases e; exact hr
    have HR := Lib.hid hR
    obtain ⟨wo, rfl⟩ : ∃ wo : World, wo = wc := ⟨_, rfl⟩
    clear hl hs hv hb hR HVN st
    have hbo : Below wo.heap.size wo wo := Below.refl _ _
    go_upto_block 2 with fail
    go_cut [10] (fun _ wx => Below wo.heap.size wo wx)
    case first =>
        go_wp2_with fail
        go_loopg [10] (N + 2) (fun g_ s10 wr => ∃ C : Int, -1 ≤ C ∧ C ≤ N + 1 ∧ g_ = ((N : Int) + 1 - C).toNat ∧ s10 = .int .i64 C ∧ Below wo.heap.size wo wr)
        case atStart => exact ⟨-1, by omega, by omega, by omega, rfl, hbo⟩
        case round =>
          clear hbo
          obtain ⟨C, hC1, hC2, rfl, rfl, hbr⟩ := hrel
          have hB1r : Below w1.heap.size w1 wr := HB.out.trans (hbr.mono HB.out.size)
          by_cases hle : C ≤ (N : Int)
          · have y0 : wr.cell? ⟨w.heap.size, 0, none⟩ = some (.slice A0 n0 c0) := (hB1r.cell (p := ⟨w.heap.size, 0, none⟩) hlx1).trans X0.out
            go_wp2_with fail
            refine (row_any A0 n0 c0 l0 _ (h0.new hB1r)).mono ?_
            rintro e w3 ⟨v3, rfl, hv3, _, hb3⟩
            obtain ⟨A3, n3, c3, rfl, hr3, _⟩ := OwnV.rd hv3
            have hB13 := hB1r.trans (hb3.mono hB1r.size)
            have y1 : w3.cell? ⟨w.heap.size, 1, none⟩ = some (.slice A1 n1 c1) := (hB13.cell (p := ⟨w.heap.size, 1, none⟩) hlx1).trans X1.out
            clear y0 hv3
            go_wp2_with fail
            refine (row_any A1 n1 c1 l1 _ (h1.new hB13)).mono ?_
            rintro e w4 ⟨v4, rfl, hv4, _, hb4⟩
            obtain ⟨A4, n4, c4, rfl, hr4, _⟩ := OwnV.rd hv4
            have hr3 := hr3.new hb4
            have hB14 := hB13.trans (hb4.mono hB13.size)
            have hbo4 := hbr.trans ((hb3.trans (hb4.mono hb3.size)).mono hbr.size)
            have y0 : w4.cell? ⟨w.heap.size, 0, none⟩ = some (.slice A0 n0 c0) := (hB14.cell (p := ⟨w.heap.size, 0, none⟩) hlx1).trans X0.out
            clear y1 hv4 hb3 hb4 hB13 hB1r hbr
            by_cases hin : 0 ≤ C ∧ C < (N : Int)
            · obtain ⟨hin1, hin2⟩ := hin
              obtain ⟨jc, rfl⟩ := Int.eq_ofNat_of_zero_le hin1
              have hjc : jc < N := by omega
              have hd1 : decide (0 ≤ (jc : Int)) = true := by simp
              by_cases hev : n0 % 2 = 0
              · have hd3 : (((n0 : Int) % 2) == 0) = true := by simp; omega
                have hjr : jc < rs.length := by rw [HR.out.1]; exact hjc
                obtain ⟨bv, ov, rfl, hbv, _, _, q2, _, _, _, q6, q7, _⟩ := (HR.out.new hbo4).at_ hjc (List.getElem?_eq_getElem hjr)
                have hfm : 0 ≤ (rs[jc].nC : Int) := by omega
                have hsm := HS.out rs[jc] (List.getElem_mem hjr)
                have hnC : rs[jc].nC ≤ 6 := by have := hsm.ok.c.1; have := hsm.c; omega
                have hnF := hsm.f
                generalize rs[jc] = q at *
                obtain ⟨s0, k1, par, k3, b4, AL, nL, cL, LL, AC, nC, cC, CC, AF, nF, cF, A8, n8, c8, A9, n9, c9, A10, n10, c10⟩ := q
                simp only at q2 q6 q7 hnC hnF
                clear hsm hfm
                go_wp2_with fail
                refine (fill_any A3 n3 c3 _ par w4 hr3).mono ?_
                rintro e w5 ⟨v5, ys, rfl, hv5, hy5⟩
                have q6' : w5.cell? ⟨bv, ov + jc * 11 + 6, none⟩ = some (.slice AC nC cC) := (hv5.bel.cell (p := ⟨bv, ov + jc * 11 + 6, none⟩) hbv).trans q6
                have q7' : w5.cell? ⟨bv, ov + jc * 11 + 7, none⟩ = some (.slice AF nF cF) := (hv5.bel.cell (p := ⟨bv, ov + jc * 11 + 7, none⟩) hbv).trans q7
                have hr4' := hr4.new hv5.bel
                have hbo5 := hbo4.trans (hv5.bel.mono hbo4.size)
                have hB15 := hB14.trans (hv5.bel.mono hB14.size)
                obtain ⟨A5, n5, c5, rfl, hr5, _⟩ := OwnV.rd hv5.own
                have hsum : (nC : Int) + (nF : Int) ≤ 12 := by omega
                clear q2 q6 q7 y0 hv5 hr3 hr4 hbo4 hB14
                go_wp2_with fail
                go_cut [12] (fun s12 wx => ∃ A6 n6 c6 zs, s12 = .slice A6 n6 c6 ∧ RdV wx A6 n6 c6 zs ∧ Below w5.heap.size w5 wx)
                case first =>
                  go_region_with (go_at_call 15; refine (fill_any A4 n4 c4 _ _ _ (by exact hr4'.new (by repeat (first | exact Below.refl _ _ | assumption | refine Below.setCell ?_ (by first | (simp; done) | (simp; omega) | omega) _ | refine below_drewN ?_ _ | refine Below.drew ?_ | refine Below.alloc ?_ (by first | (simp; done) | (simp; omega) | omega) _)))).mono ?_; rintro e w6 ⟨v6, zs, rfl, hv6, hz6⟩; obtain ⟨A6, n6, c6, rfl, hr6, _⟩ := OwnV.rd hv6.own; have HB6 := Lib.hid hv6.bel; clear hv6)
                  all_goals
                    go_wp2_with fail
                    go_meet
                    exact ⟨A6, n6, c6, zs, rfl, hr6, Below.trans (by exact (by repeat (first | exact Below.refl _ _ | assumption | refine Below.setCell ?_ (by first | (simp; done) | (simp; omega) | omega) _ | refine below_drewN ?_ _ | refine Below.drew ?_ | refine Below.alloc ?_ (by first | (simp; done) | (simp; omega) | omega) _))) HB6.out⟩
                case rest =>
                  obtain ⟨A6, n6, c6, zs, rfl, hr6, hb6⟩ := hcut
                  have hr5 := hr5.new hb6
                  have hbo6 := hbo5.trans (hb6.mono hbo5.size)
                  clear q6' q7' hr4' hb6
                  by_cases hyes : NewOk rs (jc : Int) n5 n6
                  · obtain ⟨F, hf, hr⟩ := newf_yes ys zs (HR.out.new hbo6) HS.out (HB.out.trans (hbo6.mono HB.out.size)) hyes
                    have HF := Lib.hid hf
                    have HRN := Lib.hid hr
                    clear hf hr hyes
                    go_wp2_with fail
                    refine (HF.out _ _ _ _ _ (Below.refl _ _) hr5 hr6).mono ?_
                    rintro e w7 ⟨g, rfl, hF, hb7⟩
                    have h7x := hr5.new hb7
                    have h7y := hr6.new hb7
                    clear hr5 hr6
                    go_wp2_with fail
                    refine (HRN.out w7 _ _ _ _ hb7 h7x h7y).mono ?_
                    rintro e w8 ⟨y, rfl, hY, hb8⟩
                    have hF8 := hF.new hb8
                    have hb9 := hbo6.trans ((hb7.trans (hb8.mono hb7.size)).mono hbo6.size)
                    clear hF h7x h7y hb7 hb8
                    go_wp2_with fail
                    refine (alike_any g y F _ _ w8 hF8 hY).mono ?_
                    rintro e w9 ⟨rfl, q, rfl⟩
                    have HB9 := Lib.hid (below_drewN hb9 q)
                    clear hF8 hY hb9 hbo6
                    go_wp2
                    go_roundg ((N : Int) + 1 - ((jc : Int) + 1)).toNat
                    case measure => omega
                    case rel => exact ⟨(jc : Int) + 1, by omega, by omega, rfl, rfl, HB9.out⟩
                  · have hr := newf_no (HR.out.new hbo6) HS.out (HB.out.trans (hbo6.mono HB.out.size)) hyes
                    have HRN := Lib.hid hr
                    clear hr hyes
                    go_wp2_with fail
                    refine (HRN.out _ _ _ _ _ (Below.refl _ _)).1.mono ?_
                    rintro e w7 ⟨rfl, hb7⟩
                    go_wp2_with fail
                    refine (HRN.out w7 _ _ _ _ hb7).2.mono ?_
                    rintro e w8 ⟨rfl, hb8⟩
                    have HB9 := Lib.hid (hbo6.trans ((hb7.trans (hb8.mono hb7.size)).mono hbo6.size))
                    clear hb7 hb8 hbo6
                    go_wp2
                    go_roundg ((N : Int) + 1 - ((jc : Int) + 1)).toNat
                    case measure => omega
                    case rel => exact ⟨(jc : Int) + 1, by omega, by omega, rfl, rfl, HB9.out⟩
              · have hd3 : (((n0 : Int) % 2) == 0) = false := by simp; omega
                by_cases hyes : NewOk rs (jc : Int) n3 n4
                · obtain ⟨F, hf, hr⟩ := newf_yes (cutRow l0) (cutRow l1) (HR.out.new hbo4) HS.out (HB.out.trans (hbo4.mono HB.out.size)) hyes
                  have HF := Lib.hid hf
                  have HRN := Lib.hid hr
                  clear hf hr hyes
                  go_wp2_with fail
                  refine (HF.out _ _ _ _ _ (Below.refl _ _) hr3 hr4).mono ?_
                  rintro e w7 ⟨g, rfl, hF, hb7⟩
                  have h7x := hr3.new hb7
                  have h7y := hr4.new hb7
                  clear hr3 hr4
                  go_wp2_with fail
                  refine (HRN.out w7 _ _ _ _ hb7 h7x h7y).mono ?_
                  rintro e w8 ⟨y, rfl, hY, hb8⟩
                  have hF8 := hF.new hb8
                  have hb9 := hbo4.trans ((hb7.trans (hb8.mono hb7.size)).mono hbo4.size)
                  clear hF h7x h7y hb7 hb8
                  go_wp2_with fail
                  refine (alike_any g y F _ _ w8 hF8 hY).mono ?_
                  rintro e w9 ⟨rfl, q, rfl⟩
                  have HB9 := Lib.hid (below_drewN hb9 q)
                  clear hF8 hY hb9 hbo4
                  go_wp2
                  go_roundg ((N : Int) + 1 - ((jc : Int) + 1)).toNat
                  case measure => omega
                  case rel => exact ⟨(jc : Int) + 1, by omega, by omega, rfl, rfl, HB9.out⟩
                · have hr := newf_no (HR.out.new hbo4) HS.out (HB.out.trans (hbo4.mono HB.out.size)) hyes
                  have HRN := Lib.hid hr
                  clear hr hyes
                  go_wp2_with fail
                  refine (HRN.out _ _ _ _ _ (Below.refl _ _)).1.mono ?_
                  rintro e w7 ⟨rfl, hb7⟩
                  go_wp2_with fail
                  refine (HRN.out w7 _ _ _ _ hb7).2.mono ?_
                  rintro e w8 ⟨rfl, hb8⟩
                  have HB9 := Lib.hid (hbo4.trans ((hb7.trans (hb8.mono hb7.size)).mono hbo4.size))
                  clear hb7 hb8 hbo4
                  go_wp2
                  go_roundg ((N : Int) + 1 - ((jc : Int) + 1)).toNat
                  case measure => omega
                  case rel => exact ⟨(jc : Int) + 1, by omega, by omega, rfl, rfl, HB9.out⟩
            · by_cases hc0 : 0 ≤ C
              · have hd1 : decide (0 ≤ C) = true := by simpa using hc0
                have hc1 : ¬ C < (N : Int) := by omega
                by_cases hyes : NewOk rs C n3 n4
                · obtain ⟨F, hf, hr⟩ := newf_yes (cutRow l0) (cutRow l1) (HR.out.new hbo4) HS.out (HB.out.trans (hbo4.mono HB.out.size)) hyes
                  have HF := Lib.hid hf
                  have HRN := Lib.hid hr
                  clear hf hr hyes
                  go_wp2_with fail
                  refine (HF.out _ _ _ _ _ (Below.refl _ _) hr3 hr4).mono ?_
                  rintro e w7 ⟨g, rfl, hF, hb7⟩
                  have h7x := hr3.new hb7
                  have h7y := hr4.new hb7
                  clear hr3 hr4
                  go_wp2_with fail
                  refine (HRN.out w7 _ _ _ _ hb7 h7x h7y).mono ?_
                  rintro e w8 ⟨y, rfl, hY, hb8⟩
                  have hF8 := hF.new hb8
                  have hb9 := hbo4.trans ((hb7.trans (hb8.mono hb7.size)).mono hbo4.size)
                  clear hF h7x h7y hb7 hb8
                  go_wp2_with fail
                  refine (alike_any g y F _ _ w8 hF8 hY).mono ?_
                  rintro e w9 ⟨rfl, q, rfl⟩
                  have HB9 := Lib.hid (below_drewN hb9 q)
                  clear hF8 hY hb9 hbo4
                  go_wp2
                  go_roundg ((N : Int) + 1 - (C + 1)).toNat
                  case measure => omega
                  case rel => exact ⟨C + 1, by omega, by omega, rfl, rfl, HB9.out⟩
                · have hr := newf_no (HR.out.new hbo4) HS.out (HB.out.trans (hbo4.mono HB.out.size)) hyes
                  have HRN := Lib.hid hr
                  clear hr hyes
                  go_wp2_with fail
                  refine (HRN.out _ _ _ _ _ (Below.refl _ _)).1.mono ?_
                  rintro e w7 ⟨rfl, hb7⟩
                  go_wp2_with fail
                  refine (HRN.out w7 _ _ _ _ hb7).2.mono ?_
                  rintro e w8 ⟨rfl, hb8⟩
                  have HB9 := Lib.hid (hbo4.trans ((hb7.trans (hb8.mono hb7.size)).mono hbo4.size))
                  clear hb7 hb8 hbo4
                  go_wp2
                  go_roundg ((N : Int) + 1 - (C + 1)).toNat
                  case measure => omega
                  case rel => exact ⟨C + 1, by omega, by omega, rfl, rfl, HB9.out⟩
              · have hd1 : decide (0 ≤ C) = false := by simpa using hc0
                by_cases hyes : NewOk rs C n3 n4
                · obtain ⟨F, hf, hr⟩ := newf_yes (cutRow l0) (cutRow l1) (HR.out.new hbo4) HS.out (HB.out.trans (hbo4.mono HB.out.size)) hyes
                  have HF := Lib.hid hf
                  have HRN := Lib.hid hr
                  clear hf hr hyes
                  go_wp2_with fail
                  refine (HF.out _ _ _ _ _ (Below.refl _ _) hr3 hr4).mono ?_
                  rintro e w7 ⟨g, rfl, hF, hb7⟩
                  have h7x := hr3.new hb7
                  have h7y := hr4.new hb7
                  clear hr3 hr4
                  go_wp2_with fail
                  refine (HRN.out w7 _ _ _ _ hb7 h7x h7y).mono ?_
                  rintro e w8 ⟨y, rfl, hY, hb8⟩
                  have hF8 := hF.new hb8
                  have hb9 := hbo4.trans ((hb7.trans (hb8.mono hb7.size)).mono hbo4.size)
                  clear hF h7x h7y hb7 hb8
                  go_wp2_with fail
                  refine (alike_any g y F _ _ w8 hF8 hY).mono ?_
                  rintro e w9 ⟨rfl, q, rfl⟩
                  have HB9 := Lib.hid (below_drewN hb9 q)
                  clear hF8 hY hb9 hbo4
                  go_wp2
                  go_roundg ((N : Int) + 1 - (C + 1)).toNat
                  case measure => omega
                  case rel => exact ⟨C + 1, by omega, by omega, rfl, rfl, HB9.out⟩
                · have hr := newf_no (HR.out.new hbo4) HS.out (HB.out.trans (hbo4.mono HB.out.size)) hyes
                  have HRN := Lib.hid hr
                  clear hr hyes
                  go_wp2_with fail
                  refine (HRN.out _ _ _ _ _ (Below.refl _ _)).1.mono ?_
                  rintro e w7 ⟨rfl, hb7⟩
                  go_wp2_with fail
                  refine (HRN.out w7 _ _ _ _ hb7).2.mono ?_
                  rintro e w8 ⟨rfl, hb8⟩
                  have HB9 := Lib.hid (hbo4.trans ((hb7.trans (hb8.mono hb7.size)).mono hbo4.size))
                  clear hb7 hb8 hbo4
                  go_wp2
                  go_roundg ((N : Int) + 1 - (C + 1)).toNat
                  case measure => omega
                  case rel => exact ⟨C + 1, by omega, by omega, rfl, rfl, HB9.out⟩
          · clear hB1r
            have HBR := Lib.hid hbr
            clear hbr
            go_wp2
            go_meet
            exact HBR.out
    case rest =>
            have hbr := hcut
            have hB1r : Below w1.heap.size w1 wc := HB.out.trans (hbr.mono HB.out.size)
            obtain ⟨wr, rfl⟩ : ∃ wr : World, wr = wc := ⟨_, rfl⟩
            clear hbo
            have hr0 := h0.new hB1r
            have hr1 := h1.new hB1r
            have y0 : wr.cell? ⟨w.heap.size, 0, none⟩ = some (.slice A0 n0 c0) := (hB1r.cell (p := ⟨w.heap.size, 0, none⟩) hlx1).trans X0.out
            have y1 : wr.cell? ⟨w.heap.size, 1, none⟩ = some (.slice A1 n1 c1) := (hB1r.cell (p := ⟨w.heap.size, 1, none⟩) hlx1).trans X1.out
            have hlr : w.heap.size < wr.heap.size := Nat.lt_of_lt_of_le hlx1 hB1r.size
            have hRr := HR.out.new hbr
            have hcl0 : (cutRow l0).length ≤ 12 := cutRow_length l0
            by_cases hyes : NewOk rs code (cutRow l0).length (cutRow l1).length
            · obtain ⟨F, hf, hr⟩ := newf_yes (cutRow l0) (cutRow l1) hRr HS.out hB1r hyes
              have HNF := Lib.hid hf
              have HNR := Lib.hid hr
              clear hf hr hyes hRr
              have hbz : Below wr.heap.size wr wr := Below.refl _ _
              go_wp2_with fail
              have HALL := Lib.hid (fun w' (hb : Below wr.heap.size wr w') => (⟨(hb.cell (p := ⟨w.heap.size, 0, none⟩) hlr).trans y0, (hb.cell (p := ⟨w.heap.size, 1, none⟩) hlr).trans y1⟩ : (fun w' => w'.cell? ⟨w.heap.size, 0, none⟩ = some (.slice A0 n0 c0) ∧ w'.cell? ⟨w.heap.size, 1, none⟩ = some (.slice A1 n1 c1)) w'))
              have HB0 := Lib.hid (show Below wr.heap.size wr wr.drew from (Below.refl _ _).drew)
              have SD := HALL.out _ HB0.out
              go_cut [17, 18] (fun a b wx => ∃ g, a = .pointer (some ⟨g, 0, none⟩) ∧ b = .bool true ∧ Below wr.heap.size wr wx)
              case first =>
                go_region_held3 (fun w' => w'.cell? ⟨w.heap.size, 0, none⟩ = some (.slice A0 n0 c0) ∧ w'.cell? ⟨w.heap.size, 1, none⟩ = some (.slice A1 n1 c1)) (first | exact SN | exact SB | exact SA | exact SC | exact SD | exact ⟨y0, y1⟩ | go_keep)
                  (first
                  | (go_at_call 14; (with_reducible refine (row_any A1 n1 c1 l1 _ (by exact hr1.new BA)).mono ?_); rintro e wb ⟨vb, rfl, hvb, _, hbb⟩; obtain ⟨A4, c4, rfl, RYF'⟩ := RowB.of_own (S := fun _ => False) (S' := fun _ => False) hvb (fun _ _ => ⟨id, id⟩); have RYF := RYF'.rd; clear RYF' hvb; have RXF := RX.new hbb; have BB := BA.trans (hbb.mono BA.size); have SB := HALL.out _ BB; clear hbb)
                  | (go_at_call 14; (with_reducible refine (row_any A0 n0 c0 l0 _ (by exact hr0.new BC)).mono ?_); rintro e wb ⟨vb, rfl, hvb, _, hbb⟩; obtain ⟨A3, c3, rfl, RXF'⟩ := RowB.of_own (S := fun _ => False) (S' := fun _ => False) hvb (fun _ _ => ⟨id, id⟩); have RXF := RXF'.rd; clear RXF' hvb; have RYF := RY.new hbb; have BB := BC.trans (hbb.mono BC.size); have SB := HALL.out _ BB; clear hbb)
                  | (go_at_call 14; (with_reducible refine (row_any A0 n0 c0 l0 _ (by exact hr0.new HB0.out)).mono ?_); rintro e wa ⟨va, rfl, hva, _, hba⟩; obtain ⟨A3, c3, rfl, RX'⟩ := RowB.of_own (S := fun _ => False) (S' := fun _ => False) hva (fun _ _ => ⟨id, id⟩); have RX := RX'.rd; clear RX' hva; have BA := HB0.out.trans (hba.mono HB0.out.size); have SA := HALL.out _ BA; clear hba)
                  | (go_at_call 14; (with_reducible refine (row_any A1 n1 c1 l1 _ (by exact hr1.new HB0.out)).mono ?_); rintro e wa ⟨va, rfl, hva, _, hba⟩; obtain ⟨A4, c4, rfl, RY'⟩ := RowB.of_own (S := fun _ => False) (S' := fun _ => False) hva (fun _ _ => ⟨id, id⟩); have RY := RY'.rd; clear RY' hva; have BC := HB0.out.trans (hba.mono HB0.out.size); have SC := HALL.out _ BC; clear hba)
                  | (go_at_call 16; (with_reducible refine (HNF.out _ _ _ _ _ ?b1 ?b2 ?b3).mono ?_); (case b1 => exact hbz.trans (BB.mono hbz.size)); (case b2 => exact RXF); (case b3 => exact RYF); rintro e wn ⟨gn, rfl, _, hbn⟩; have BN := Lib.hid (BB.trans (hbn.mono BB.size)); have SN := HALL.out _ BN.out; clear hbn))
                all_goals
                  go_wp2_with fail
                  go_meet
                  exact ⟨gn, rfl, rfl, BN.out⟩
              case rest =>
                obtain ⟨g16, rfl, rfl, hbc16⟩ := hcut
                clear HALL HB0 SD
                have hr0 := hr0.new hbc16
                have hr1 := hr1.new hbc16
                have y0 : wc.cell? ⟨w.heap.size, 0, none⟩ = some (.slice A0 n0 c0) := (hbc16.cell (p := ⟨w.heap.size, 0, none⟩) hlr).trans y0
                have y1 : wc.cell? ⟨w.heap.size, 1, none⟩ = some (.slice A1 n1 c1) := (hbc16.cell (p := ⟨w.heap.size, 1, none⟩) hlr).trans y1
                have hlr : w.heap.size < wc.heap.size := Nat.lt_of_lt_of_le hlr hbc16.size
                obtain ⟨wd, rfl⟩ : ∃ wd : World, wd = wc := ⟨_, rfl⟩
                go_wp2_with fail
                have HALL := Lib.hid (fun w' (hb : Below wd.heap.size wd w') => (⟨(hb.cell (p := ⟨w.heap.size, 0, none⟩) hlr).trans y0, (hb.cell (p := ⟨w.heap.size, 1, none⟩) hlr).trans y1⟩ : (fun w' => w'.cell? ⟨w.heap.size, 0, none⟩ = some (.slice A0 n0 c0) ∧ w'.cell? ⟨w.heap.size, 1, none⟩ = some (.slice A1 n1 c1)) w'))
                have HB0 := Lib.hid (show Below wd.heap.size wd wd.drew from (Below.refl _ _).drew)
                have SD := HALL.out _ HB0.out
                go_cut [19, 20] (fun a b wx => ∃ g, a = .pointer (some ⟨g, 0, none⟩) ∧ b = .bool true ∧ Below wd.heap.size wd wx)
                case first =>
                  go_region_held3 (fun w' => w'.cell? ⟨w.heap.size, 0, none⟩ = some (.slice A0 n0 c0) ∧ w'.cell? ⟨w.heap.size, 1, none⟩ = some (.slice A1 n1 c1)) (first | exact SN | exact SB | exact SA | exact SC | exact SD | exact ⟨y0, y1⟩ | go_keep)
                    (first
                    | (go_at_call 14; (with_reducible refine (row_any A1 n1 c1 l1 _ (by exact hr1.new BA)).mono ?_); rintro e wb ⟨vb, rfl, hvb, _, hbb⟩; obtain ⟨A4, c4, rfl, RYF'⟩ := RowB.of_own (S := fun _ => False) (S' := fun _ => False) hvb (fun _ _ => ⟨id, id⟩); have RYF := RYF'.rd; clear RYF' hvb; have RXF := RX.new hbb; have BB := BA.trans (hbb.mono BA.size); have SB := HALL.out _ BB; clear hbb)
                    | (go_at_call 14; (with_reducible refine (row_any A0 n0 c0 l0 _ (by exact hr0.new BC)).mono ?_); rintro e wb ⟨vb, rfl, hvb, _, hbb⟩; obtain ⟨A3, c3, rfl, RXF'⟩ := RowB.of_own (S := fun _ => False) (S' := fun _ => False) hvb (fun _ _ => ⟨id, id⟩); have RXF := RXF'.rd; clear RXF' hvb; have RYF := RY.new hbb; have BB := BC.trans (hbb.mono BC.size); have SB := HALL.out _ BB; clear hbb)
                    | (go_at_call 14; (with_reducible refine (row_any A0 n0 c0 l0 _ (by exact hr0.new HB0.out)).mono ?_); rintro e wa ⟨va, rfl, hva, _, hba⟩; obtain ⟨A3, c3, rfl, RX'⟩ := RowB.of_own (S := fun _ => False) (S' := fun _ => False) hva (fun _ _ => ⟨id, id⟩); have RX := RX'.rd; clear RX' hva; have BA := HB0.out.trans (hba.mono HB0.out.size); have SA := HALL.out _ BA; clear hba)
                    | (go_at_call 14; (with_reducible refine (row_any A1 n1 c1 l1 _ (by exact hr1.new HB0.out)).mono ?_); rintro e wa ⟨va, rfl, hva, _, hba⟩; obtain ⟨A4, c4, rfl, RY'⟩ := RowB.of_own (S := fun _ => False) (S' := fun _ => False) hva (fun _ _ => ⟨id, id⟩); have RY := RY'.rd; clear RY' hva; have BC := HB0.out.trans (hba.mono HB0.out.size); have SC := HALL.out _ BC; clear hba)
                    | (go_at_call 17; (with_reducible refine (HNR.out _ _ _ _ _ ?b1 ?b2 ?b3).mono ?_); (case b1 => exact hbc16.trans (BB.mono hbc16.size)); (case b2 => exact RXF); (case b3 => exact RYF); rintro e wn ⟨gn, rfl, _, hbn⟩; have BN := Lib.hid (BB.trans (hbn.mono BB.size)); have SN := HALL.out _ BN.out; clear hbn))
                  all_goals
                    go_wp2_with fail
                    go_meet
                    exact ⟨gn, rfl, rfl, BN.out⟩
                case rest =>
                  obtain ⟨g17, rfl, rfl, hbc17⟩ := hcut
                  clear HALL HB0 SD
                  have HEND := Lib.hid (HW0.trans ((HB1.out.trans ((hB1r.trans ((hbc16.trans (hbc17.mono hbc16.size)).mono hB1r.size)).mono HB1.out.size)).mono HW0.size))
                  clear hbc16 hbc17 hB1r hbr
                  go_wp2
                  go_ret
                  exact ⟨rfl, HEND.out⟩
            · have hr := newf_no hRr HS.out hB1r hyes
              have HNF := Lib.hid (fun w1 A A' c c' hb => (hr w1 A A' c c' hb).1)
              have HNR := Lib.hid (fun w1 A A' c c' hb => (hr w1 A A' c c' hb).2)
              clear hr hyes hRr
              have hbz : Below wr.heap.size wr wr := Below.refl _ _
              go_wp2_with fail
              have HALL := Lib.hid (fun w' (hb : Below wr.heap.size wr w') => (⟨(hb.cell (p := ⟨w.heap.size, 0, none⟩) hlr).trans y0, (hb.cell (p := ⟨w.heap.size, 1, none⟩) hlr).trans y1⟩ : (fun w' => w'.cell? ⟨w.heap.size, 0, none⟩ = some (.slice A0 n0 c0) ∧ w'.cell? ⟨w.heap.size, 1, none⟩ = some (.slice A1 n1 c1)) w'))
              have HB0 := Lib.hid (show Below wr.heap.size wr wr.drew from (Below.refl _ _).drew)
              have SD := HALL.out _ HB0.out
              go_cut [17, 18] (fun a b wx => a = .pointer none ∧ b = .bool false ∧ Below wr.heap.size wr wx)
              case first =>
                go_region_held3 (fun w' => w'.cell? ⟨w.heap.size, 0, none⟩ = some (.slice A0 n0 c0) ∧ w'.cell? ⟨w.heap.size, 1, none⟩ = some (.slice A1 n1 c1)) (first | exact SN | exact SB | exact SA | exact SC | exact SD | exact ⟨y0, y1⟩ | go_keep)
                  (first
                  | (go_at_call 14; (with_reducible refine (row_any A1 n1 c1 l1 _ (by exact hr1.new BA)).mono ?_); rintro e wb ⟨vb, rfl, hvb, _, hbb⟩; obtain ⟨A4, c4, rfl, RYF'⟩ := RowB.of_own (S := fun _ => False) (S' := fun _ => False) hvb (fun _ _ => ⟨id, id⟩); have RYF := RYF'.rd; clear RYF' hvb; have RXF := RX.new hbb; have BB := BA.trans (hbb.mono BA.size); have SB := HALL.out _ BB; clear hbb)
                  | (go_at_call 14; (with_reducible refine (row_any A0 n0 c0 l0 _ (by exact hr0.new BC)).mono ?_); rintro e wb ⟨vb, rfl, hvb, _, hbb⟩; obtain ⟨A3, c3, rfl, RXF'⟩ := RowB.of_own (S := fun _ => False) (S' := fun _ => False) hvb (fun _ _ => ⟨id, id⟩); have RXF := RXF'.rd; clear RXF' hvb; have RYF := RY.new hbb; have BB := BC.trans (hbb.mono BC.size); have SB := HALL.out _ BB; clear hbb)
                  | (go_at_call 14; (with_reducible refine (row_any A0 n0 c0 l0 _ (by exact hr0.new HB0.out)).mono ?_); rintro e wa ⟨va, rfl, hva, _, hba⟩; obtain ⟨A3, c3, rfl, RX'⟩ := RowB.of_own (S := fun _ => False) (S' := fun _ => False) hva (fun _ _ => ⟨id, id⟩); have RX := RX'.rd; clear RX' hva; have BA := HB0.out.trans (hba.mono HB0.out.size); have SA := HALL.out _ BA; clear hba)
                  | (go_at_call 14; (with_reducible refine (row_any A1 n1 c1 l1 _ (by exact hr1.new HB0.out)).mono ?_); rintro e wa ⟨va, rfl, hva, _, hba⟩; obtain ⟨A4, c4, rfl, RY'⟩ := RowB.of_own (S := fun _ => False) (S' := fun _ => False) hva (fun _ _ => ⟨id, id⟩); have RY := RY'.rd; clear RY' hva; have BC := HB0.out.trans (hba.mono HB0.out.size); have SC := HALL.out _ BC; clear hba)
                  | (go_at_call 16; (with_reducible refine (HNF.out _ _ _ _ _ ?b1).mono ?_); (case b1 => exact hbz.trans (BB.mono hbz.size)); rintro e wn ⟨rfl, hbn⟩; have BN := Lib.hid (BB.trans (hbn.mono BB.size)); have SN := HALL.out _ BN.out; clear hbn))
                all_goals
                  go_wp2_with fail
                  go_meet
                  exact ⟨rfl, rfl, BN.out⟩
              case rest =>
                obtain ⟨rfl, rfl, hbc16⟩ := hcut
                clear HALL HB0 SD
                have hr0 := hr0.new hbc16
                have hr1 := hr1.new hbc16
                have y0 : wc.cell? ⟨w.heap.size, 0, none⟩ = some (.slice A0 n0 c0) := (hbc16.cell (p := ⟨w.heap.size, 0, none⟩) hlr).trans y0
                have y1 : wc.cell? ⟨w.heap.size, 1, none⟩ = some (.slice A1 n1 c1) := (hbc16.cell (p := ⟨w.heap.size, 1, none⟩) hlr).trans y1
                have hlr : w.heap.size < wc.heap.size := Nat.lt_of_lt_of_le hlr hbc16.size
                obtain ⟨wd, rfl⟩ : ∃ wd : World, wd = wc := ⟨_, rfl⟩
                go_wp2_with fail
                have HALL := Lib.hid (fun w' (hb : Below wd.heap.size wd w') => (⟨(hb.cell (p := ⟨w.heap.size, 0, none⟩) hlr).trans y0, (hb.cell (p := ⟨w.heap.size, 1, none⟩) hlr).trans y1⟩ : (fun w' => w'.cell? ⟨w.heap.size, 0, none⟩ = some (.slice A0 n0 c0) ∧ w'.cell? ⟨w.heap.size, 1, none⟩ = some (.slice A1 n1 c1)) w'))
                have HB0 := Lib.hid (show Below wd.heap.size wd wd.drew from (Below.refl _ _).drew)
                have SD := HALL.out _ HB0.out
                go_cut [19, 20] (fun a b wx => a = .pointer none ∧ b = .bool false ∧ Below wd.heap.size wd wx)
                case first =>
                  go_region_held3 (fun w' => w'.cell? ⟨w.heap.size, 0, none⟩ = some (.slice A0 n0 c0) ∧ w'.cell? ⟨w.heap.size, 1, none⟩ = some (.slice A1 n1 c1)) (first | exact SN | exact SB | exact SA | exact SC | exact SD | exact ⟨y0, y1⟩ | go_keep)
                    (first
                    | (go_at_call 14; (with_reducible refine (row_any A1 n1 c1 l1 _ (by exact hr1.new BA)).mono ?_); rintro e wb ⟨vb, rfl, hvb, _, hbb⟩; obtain ⟨A4, c4, rfl, RYF'⟩ := RowB.of_own (S := fun _ => False) (S' := fun _ => False) hvb (fun _ _ => ⟨id, id⟩); have RYF := RYF'.rd; clear RYF' hvb; have RXF := RX.new hbb; have BB := BA.trans (hbb.mono BA.size); have SB := HALL.out _ BB; clear hbb)
                    | (go_at_call 14; (with_reducible refine (row_any A0 n0 c0 l0 _ (by exact hr0.new BC)).mono ?_); rintro e wb ⟨vb, rfl, hvb, _, hbb⟩; obtain ⟨A3, c3, rfl, RXF'⟩ := RowB.of_own (S := fun _ => False) (S' := fun _ => False) hvb (fun _ _ => ⟨id, id⟩); have RXF := RXF'.rd; clear RXF' hvb; have RYF := RY.new hbb; have BB := BC.trans (hbb.mono BC.size); have SB := HALL.out _ BB; clear hbb)
                    | (go_at_call 14; (with_reducible refine (row_any A0 n0 c0 l0 _ (by exact hr0.new HB0.out)).mono ?_); rintro e wa ⟨va, rfl, hva, _, hba⟩; obtain ⟨A3, c3, rfl, RX'⟩ := RowB.of_own (S := fun _ => False) (S' := fun _ => False) hva (fun _ _ => ⟨id, id⟩); have RX := RX'.rd; clear RX' hva; have BA := HB0.out.trans (hba.mono HB0.out.size); have SA := HALL.out _ BA; clear hba)
                    | (go_at_call 14; (with_reducible refine (row_any A1 n1 c1 l1 _ (by exact hr1.new HB0.out)).mono ?_); rintro e wa ⟨va, rfl, hva, _, hba⟩; obtain ⟨A4, c4, rfl, RY'⟩ := RowB.of_own (S := fun _ => False) (S' := fun _ => False) hva (fun _ _ => ⟨id, id⟩); have RY := RY'.rd; clear RY' hva; have BC := HB0.out.trans (hba.mono HB0.out.size); have SC := HALL.out _ BC; clear hba)
                    | (go_at_call 17; (with_reducible refine (HNR.out _ _ _ _ _ ?b1).mono ?_); (case b1 => exact hbc16.trans (BB.mono hbc16.size)); rintro e wn ⟨rfl, hbn⟩; have BN := Lib.hid (BB.trans (hbn.mono BB.size)); have SN := HALL.out _ BN.out; clear hbn))
                  all_goals
                    go_wp2_with fail
                    go_meet
                    exact ⟨rfl, rfl, BN.out⟩
                case rest =>
                  obtain ⟨rfl, rfl, hbc17⟩ := hcut
                  clear HALL HB0 SD
                  have HEND := Lib.hid (HW0.trans ((HB1.out.trans ((hB1r.trans ((hbc16.trans (hbc17.mono hbc16.size)).mono hB1r.size)).mono HB1.out.size)).mono HW0.size))
                  clear hbc16 hbc17 hB1r hbr
                  go_wp2
                  go_ret
                  exact ⟨rfl, HEND.out⟩
end Go.Proofs.Ythdkloojhenlkaa
