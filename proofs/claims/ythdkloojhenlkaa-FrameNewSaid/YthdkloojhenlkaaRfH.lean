/- The reference's Held. -/
import Derived.Test.YthdkloojhenlkaaRfF
namespace Go.Proofs.Ythdkloojhenlkaa
open Go.RowKit
attribute [local go_sem high] guardV eqV neqV
attribute [local go_sem] V.v

set_option maxRecDepth 100000 in
set_option maxHeartbeats 1000000 in
theorem rheld_any (g : Nat) (F : Fr) (S : Nat → Prop) (w : World) (hF : IsFr 82 86 w S g F) (hlen : F.locals.length + F.cells.length + F.values.length ≤ 1000000) :
    Calls Try.prog 35 #[.pointer (some ⟨g, 0, none⟩)] w fun e w' => ∃ v, e = .returned v ∧ NewRow w w' v F.held := by
  have Hb := Lib.hid (fun (i : Int) w' (hb : Below w.heap.size w w') => there_any g F S i w' (hF.new hb))
  obtain ⟨L, B, C, X, K, h, hS, hSl⟩ := hF
  have c2 : w.cell? ⟨g, 2, none⟩ = some L := h.blk.cell 2
  have c3 : w.cell? ⟨g, 3, none⟩ = some B := h.blk.cell 3
  have hltg := h.blk.lt
  obtain ⟨A, n, c, rfl, hr, hA⟩ := h.l.rd
  obtain ⟨A2, n2, c2', rfl, hr2, hA2⟩ := h.b.rd
  obtain ⟨Ac, nc, cc, rfl, hrc, hAc⟩ := h.c.rd
  obtain ⟨Ax, nx, cx, rfl, hrx, hAx⟩ := h.x.rd
  have hn := hr.le
  have hblk := h.blk
  have HH := Lib.hid h
  have hl1 := hr.1
  have hl2 := hrc.1
  have hl3 := hrx.1
  have hlen' : n + nc + nx ≤ 1000000 := by omega
  clear hS hSl hA hA2 hAc hAx h hl1 hl2 hl3 hlen
  go_enter Try.func35, Try.ntmps35
  go_wp2
  go_loopw [3, 4] (fun v i wr => ∃ k : Nat, k ≤ n ∧ i = .int .i64 k ∧ NewRow w wr v (F.boundTo k)) (fun _ i _ => n - (intOf i).toNat)
  case atStart => exact ⟨0, Nat.zero_le _, rfl, newrowR w⟩
  case round =>
    obtain ⟨k, hk, rfl, hv⟩ := hrel
    have e2 : wr.cell? ⟨g, 2, none⟩ = some (.slice A n c) := (hv.bel.cell (p := ⟨g, 2, none⟩) hltg).trans c2
    have e3 : wr.cell? ⟨g, 3, none⟩ = some (.slice A2 n2 c2') := (hv.bel.cell (p := ⟨g, 3, none⟩) hltg).trans c3
    by_cases hlt : k < n
    · obtain ⟨b, o, rfl, hb, z0, z1, z2⟩ := (hr.new hv.bel).at_ hlt
      have hstep := boundTo_succ F k (by rw [hr.1]; exact hlt)
      have hbl := boundTo_le F k
      generalize F.boundTo k = l at *
      generalize F.locals[k]'(by rw [hr.1]; exact hlt) = x at *
      cases hh : F.has (k : Int)
      · have hbb : F.isBound (k : Int) = false := by simp [Fr.isBound, hh]
        rw [hbb] at hstep
        have HST := Lib.hid hstep
        have HV := Lib.hid hv
        have Hh := Lib.hid hh
        clear hstep hbb hh
        go_wp2_with (go_at_call 52; refine (Hb.out k _ (by exact hv.bel)).mono ?_; rintro e w1 ⟨rfl, hw⟩; obtain rfl := hw.symm; rw [Hh.out])
        clear hv
        go_roundw
        case rel => exact ⟨k + 1, by omega, by go_num, by rw [HST.out]; simpa using HV.out⟩
        case measure => simp [intOf]; omega
      · have hh' := hh
        simp only [Fr.has, decide_eq_true_eq] at hh'
        have hj2 : k < n2 := by rw [← hr2.1]; omega
        obtain ⟨b2, o2, rfl, hbb2, hcb⟩ := (show RdB wr A2 n2 c2' F.bound from ⟨hr2.1, hr2.2.new hv.bel⟩).at_ hj2
        have eb : F.isBound (k : Int) = F.bound[k]'(by rw [hr2.1]; exact hj2) := by
          simp only [Fr.isBound, hh, Bool.true_and, Int.toNat_natCast]
          rw [List.getD_eq_getElem?_getD, List.getElem?_eq_getElem]
          rfl
        rw [← eb] at hcb
        have Hh := Lib.hid hh
        clear hh hh' eb
        cases hbb : F.isBound (k : Int)
        · rw [hbb] at hcb hstep
          have HST := Lib.hid hstep
          have HV := Lib.hid hv
          clear hstep hbb
          go_wp2_with (go_at_call 52; refine (Hb.out k _ (by exact hv.bel)).mono ?_; rintro e w1 ⟨rfl, hw⟩; obtain rfl := hw.symm; rw [Hh.out])
          clear hv
          go_roundw
          case rel => exact ⟨k + 1, by omega, by go_num, by rw [HST.out]; simpa using HV.out⟩
          case measure => simp [intOf]; omega
        · rw [hbb] at hcb hstep
          have HST := Lib.hid hstep
          have hv2 := hv.below (w' := wr.alloc (.cells #[.int .i64 x.k, .int .i64 x.n, .string x.s] 44)) (by repeat (first | exact Below.refl _ _ | assumption | refine Below.setCell ?_ (by first | (simp; done) | (simp; omega) | omega) _ | refine below_drewN ?_ _ | refine Below.drew ?_ | refine Below.alloc ?_ (by first | (simp; done) | (simp; omega) | omega) _))
          have h1 := one_rdV wr x
          clear hstep hbb
          go_wp2_with (first | (go_at_call 52; refine (Hb.out k _ (by exact hv.bel)).mono ?_; rintro e w1 ⟨rfl, hw⟩; obtain rfl := hw.symm; rw [Hh.out]) | (at_builtin; refine wpList_appendV _ rfl _ _ rfl u3 l rfl hv2.own _ 1 1 [x] rfl h1 (by omega) ?_; intro v1 w1 hv1 hg1 ha1; have HV1 := Lib.hid hv1; have HG1 := Lib.hid hg1; have HA1 := Lib.hid ha1; clear hv1 hg1 ha1))
          go_roundw
          case rel => exact ⟨k + 1, by omega, by go_num, by rw [HST.out]; simpa using hv2.app HV1.out HG1.out HA1.out⟩
          case measure => simp [intOf]; omega
    · have hkn : k = n := by omega
      have hkl := boundTo_le F k
      have hbn : F.boundTo F.locals.length = F.boundTo k := by rw [hkn, hr.1]
      have HBN := Lib.hid hbn
      clear hbn hkn
      generalize F.boundTo k = l at *
      obtain ⟨Au, nu, cu, rfl, _⟩ := hv.own.rd
      have hcl : F.cells.length ≤ nc := Nat.le_of_eq hrc.1
      have hvl : F.values.length ≤ nx := Nat.le_of_eq hrx.1
      have hrcW := hrc.new hv.bel
      have hrxW := hrx.new hv.bel
      have hblkW := hblk.below hv.bel hltg
      have HV := Lib.hid hv
      have hblk0 := hblk
      have hrx0 := hrx
      clear hv c2 c3 e3 hrc hrx hblk hr hr2
      go_upto_region 8 with fail
      go_cut [3] (fun s3 wx => NewRow w wx s3 (l ++ F.cells ++ [F.space, F.keep]))
      case first =>
        have hgw : g < wr.heap.size := Nat.lt_of_lt_of_le hltg HV.out.bel.size
        have hgne : (Value.slice Au nu cu).ownBlock ≠ some g := fun e => by have := HV.out.new g e; omega
        go_region_held3 (fun w' => w'.cell? ⟨g, 4, none⟩ = some (.slice Ac nc cc) ∧ w'.cell? ⟨g, 5, none⟩ = some (.int .i64 F.space.k) ∧ w'.cell? ⟨g, 6, none⟩ = some (.int .i64 F.space.n) ∧ w'.cell? ⟨g, 7, none⟩ = some (.string F.space.s) ∧
          w'.cell? ⟨g, 11, none⟩ = some (.int .i64 F.keep.k) ∧ w'.cell? ⟨g, 12, none⟩ = some (.int .i64 F.keep.n) ∧ w'.cell? ⟨g, 13, none⟩ = some (.string F.keep.s))
          (first | exact cells7 hblkW | exact cells7 (hblkW.alloc _) | exact cells7 HG1 | exact cells7 (HG1.alloc _) | exact cells7 HG2)
          (first
            | (refine step_appendV _ rfl (.tmp 37) (.tmp 41) rfl (.slice Au nu cu) l rfl (by exact Own.new HV.out.own (by repeat (first | exact Below.refl _ _ | assumption | refine Below.setCell ?_ (by first | (simp; done) | (simp; omega) | omega) _ | refine below_drewN ?_ _ | refine Below.drew ?_ | refine Below.alloc ?_ (by first | (simp; done) | (simp; omega) | omega) _))) Ac nc cc F.cells rfl (by exact hrcW.new (by repeat (first | exact Below.refl _ _ | assumption | refine Below.setCell ?_ (by first | (simp; done) | (simp; omega) | omega) _ | refine below_drewN ?_ _ | refine Below.drew ?_ | refine Below.alloc ?_ (by first | (simp; done) | (simp; omega) | omega) _))) (by omega) ?_; intro v1 w1 hv1 hg1 ha1; obtain ⟨A1, n1, c1, rfl, _⟩ := OwnV.rd hv1; have HG1 : Blk w1 g 82 (F.row (.slice A n c) (.slice A2 n2 c2') (.slice Ac nc cc) (.slice Ax nx cx) K) := (by first | exact Blk.grown (w := wr.drew) hblkW hg1 (Ne.symm hgne) | exact Blk.grown (Blk.alloc (w := wr.drew) hblkW _) hg1 (Ne.symm hgne)); have HNE1 : (Value.slice A1 n1 c1).ownBlock ≠ some g := (by rcases ha1 with e | e <;> rw [e] <;> first | exact hgne | (intro e'; simp at e'; omega)); have HV1 := Lib.hid hv1; have HGG1 := Lib.hid hg1; have HA1 := Lib.hid ha1; clear hv1 hg1 ha1)
            | (refine step_appendV _ rfl (.tmp 42) (.tmp 51) rfl (.slice A1 n1 c1) (l ++ F.cells) rfl (by exact Own.new HV1.out (by repeat (first | exact Below.refl _ _ | assumption | refine Below.setCell ?_ (by first | (simp; done) | (simp; omega) | omega) _ | refine below_drewN ?_ _ | refine Below.drew ?_ | refine Below.alloc ?_ (by first | (simp; done) | (simp; omega) | omega) _))) _ 2 2 [F.space, F.keep] rfl (by first | exact two_rdV w1 F.space F.keep | exact RdV.grown (two_rdV wr.drew F.space F.keep) HGG1.out (fun b o e e' => by have h3 := Own.lt HV.out.own e'; injection e with e; injection e with e; have e : wr.heap.size = b := e; omega)) (by rw [List.length_append]; omega) ?_; intro v2 w2 hv2 hg2 ha2; have HG2 : Blk w2 g 82 (F.row (.slice A n c) (.slice A2 n2 c2') (.slice Ac nc cc) (.slice Ax nx cx) K) := (by first | exact Blk.grown HG1 hg2 (Ne.symm HNE1) | exact Blk.grown (HG1.alloc _) hg2 (Ne.symm HNE1)); have HV2 := Lib.hid hv2; have HGG2 := Lib.hid hg2; have HA2 := Lib.hid ha2; clear hv2 hg2 ha2))
        all_goals
          go_wp2_with fail
          go_meet
          first
            | exact ((NewRow.app (NewRow.below (w' := wr.drew) HV.out (by repeat (first | exact Below.refl _ _ | assumption | refine Below.setCell ?_ (by first | (simp; done) | (simp; omega) | omega) _ | refine below_drewN ?_ _ | refine Below.drew ?_ | refine Below.alloc ?_ (by first | (simp; done) | (simp; omega) | omega) _))) HV1.out HGG1.out HA1.out).below (by repeat (first | exact Below.refl _ _ | assumption | refine Below.setCell ?_ (by first | (simp; done) | (simp; omega) | omega) _ | refine below_drewN ?_ _ | refine Below.drew ?_ | refine Below.alloc ?_ (by first | (simp; done) | (simp; omega) | omega) _))).app HV2.out HGG2.out HA2.out
            | exact (NewRow.app (NewRow.below HV.out (by exact (by repeat (first | exact Below.refl _ _ | assumption | refine Below.setCell ?_ (by first | (simp; done) | (simp; omega) | omega) _ | refine below_drewN ?_ _ | refine Below.drew ?_ | refine Below.alloc ?_ (by first | (simp; done) | (simp; omega) | omega) _)))) HV1.out HGG1.out HA1.out).app HV2.out HGG2.out HA2.out
      case rest =>
        have hv := hcut
        obtain ⟨Au2, nu2, cu2, rfl, _⟩ := hv.own.rd
        have c8 : wc.cell? ⟨g, 8, none⟩ = some (.slice Ax nx cx) := (hblk0.below hv.bel hltg).cell 8
        have hrxc := hrx0.new hv.bel
        clear HV hblkW hrcW hrxW
        go_wp2_with (at_builtin; refine wpList_appendV _ rfl _ _ rfl (.slice Au2 nu2 cu2) (l ++ F.cells ++ [F.space, F.keep]) rfl hv.own Ax nx cx F.values rfl hrxc (by simp; omega) ?_; intro v3 w3 hv3 hg3 ha3; have HV3 := Lib.hid hv3; have HG3 := Lib.hid hg3; have HA3 := Lib.hid ha3; clear hv3 hg3 ha3)
        go_ret
        refine ⟨v3, rfl, ?_⟩
        have := hv.app HV3.out HG3.out HA3.out
        unfold Fr.held
        rw [HBN.out]
        exact this
end Go.Proofs.Ythdkloojhenlkaa
