/- Held. -/
import Derived.Test.YthdkloojhenlkaaEnv
import Derived.Deep.RegionHeld3
import Derived.Deep.DeepCutAuto
namespace Go.Proofs.Ythdkloojhenlkaa
open Go.RowKit
attribute [local go_sem high] guardV eqV neqV
attribute [local go_sem] V.v

/-- the locals that are bound, of the first k -/
def Fr.boundTo (F : Fr) (k : Nat) : List V := ((F.locals.take k).zip (List.range k)).filterMap fun p => if F.isBound (p.2 : Int) then some p.1 else none
def Fr.held (F : Fr) : List V := F.boundTo F.locals.length ++ F.cells ++ [F.space, F.keep] ++ F.values
theorem boundTo_succ (F : Fr) (k : Nat) (h : k < F.locals.length) : F.boundTo (k + 1) = F.boundTo k ++ (if F.isBound (k : Int) then [F.locals[k]] else []) := by
  unfold Fr.boundTo
  rw [List.take_succ_eq_append_getElem h, List.range_succ, List.zip_append (by simp; omega), List.filterMap_append]
  congr 1
  simp
  split <;> simp_all
theorem boundTo_le (F : Fr) (k : Nat) : (F.boundTo k).length ≤ k := by
  unfold Fr.boundTo
  refine Nat.le_trans (List.length_filterMap_le _ _) ?_
  simp
  omega
theorem cells7 {w : World} {g : Nat} {T : TypeId} {F : Fr} {L B C X K : Value} (h : Blk w g T (F.row L B C X K)) :
    w.cell? ⟨g, 4, none⟩ = some C ∧ w.cell? ⟨g, 5, none⟩ = some (.int .i64 F.space.k) ∧ w.cell? ⟨g, 6, none⟩ = some (.int .i64 F.space.n) ∧ w.cell? ⟨g, 7, none⟩ = some (.string F.space.s) ∧
      w.cell? ⟨g, 11, none⟩ = some (.int .i64 F.keep.k) ∧ w.cell? ⟨g, 12, none⟩ = some (.int .i64 F.keep.n) ∧ w.cell? ⟨g, 13, none⟩ = some (.string F.keep.s) :=
  ⟨h.cell 4, h.cell 5, h.cell 6, h.cell 7, h.cell 11, h.cell 12, h.cell 13⟩
theorem RdV.grown {w w' : World} {A : Option Addr} {n c : Nat} {xs : List V} {row : Option Nat} (h : RdV w A n c xs) (hg : w.grownBy w' row) (hr : ∀ b o, A = some ⟨b, o, none⟩ → row ≠ some b) : RdV w' A n c xs :=
  ⟨h.1, h.2.keep hg.size fun b o e hb => hg.block b hb (fun e' => hr b o e e'.symm)⟩
/-- a row that was made behind w -/
structure NewRow (w : World) (wr : World) (v : Value) (xs : List V) : Prop where
  own : OwnV wr v xs
  new : ∀ b, v.ownBlock = some b → w.heap.size ≤ b
  bel : Below w.heap.size w wr
theorem NewRow.below {w wr w' : World} {v : Value} {xs : List V} (h : NewRow w wr v xs) (hb : Below wr.heap.size wr w') : NewRow w w' v xs := ⟨Own.new h.own hb, h.new, h.bel.trans (hb.mono h.bel.size)⟩
theorem NewRow.app {w wr w' : World} {v v' : Value} {xs ys : List V} (h : NewRow w wr v xs) (ho : OwnV w' v' ys) (hg : wr.grownBy w' v.ownBlock) (ha : v'.ownBlock = v.ownBlock ∨ v'.ownBlock = some wr.heap.size) : NewRow w w' v' ys := by
  refine ⟨ho, fun b e => ?_, h.bel.grown hg h.bel.size h.new⟩
  rcases ha with e' | e' <;> rw [e'] at e
  · exact h.new b e
  · have := h.bel.size
    simp at e
    omega

set_option maxRecDepth 100000 in
set_option maxHeartbeats 1000000 in
theorem held_any (g : Nat) (F : Fr) (S : Nat → Prop) (w : World) (hF : IsFr 53 85 w S g F) (hlen : F.locals.length + F.cells.length + F.values.length ≤ 1000000) :
    Calls Try.prog 27 #[.pointer (some ⟨g, 0, none⟩)] w fun e w' => ∃ v, e = .returned v ∧ NewRow w w' v F.held := by
  have Hb := Lib.hid (fun (i : Int) w' (hb : Below w.heap.size w w') => bound_any g F S i w' (hF.new hb))
  obtain ⟨L, B, C, X, K, h, hS, hSl⟩ := hF
  have c2 : w.cell? ⟨g, 2, none⟩ = some L := h.blk.cell 2
  have hltg := h.blk.lt
  obtain ⟨A, n, c, rfl, hr, hA⟩ := h.l.rd
  obtain ⟨Ac, nc, cc, rfl, hrc, hAc⟩ := h.c.rd
  obtain ⟨Ax, nx, cx, rfl, hrx, hAx⟩ := h.x.rd
  have hn := hr.le
  have hblk := h.blk
  have HH := Lib.hid h
  have hl1 := hr.1
  have hl2 := hrc.1
  have hl3 := hrx.1
  have hlen' : n + nc + nx ≤ 1000000 := by omega
  clear hS hSl hA hAc hAx h hl1 hl2 hl3 hlen
  go_enter Try.func27, Try.ntmps27
  go_wp2
  go_loopw [3, 11] (fun v i wr => ∃ k : Nat, k ≤ n ∧ i = .int .i64 k ∧ NewRow w wr v (F.boundTo k)) (fun _ i _ => n - (intOf i).toNat)
  case atStart => exact ⟨0, Nat.zero_le _, rfl, OwnV.nil_ w, fun b e => (by cases e), Below.refl _ _⟩
  case round =>
    obtain ⟨k, hk, rfl, hv⟩ := hrel
    by_cases hlt : k < n
    · obtain ⟨b, o, rfl, hb, z0, z1, z2⟩ := (hr.new hv.bel).at_ hlt
      have hstep := boundTo_succ F k (by rw [hr.1]; exact hlt)
      have hbl := boundTo_le F k
      generalize F.boundTo k = l at *
      generalize F.locals[k]'(by rw [hr.1]; exact hlt) = x at *
      have HST := Lib.hid hstep
      have HV := Lib.hid hv
      clear hstep
      go_wp2_with fail
      refine (Hb.out k _ (by exact (hv.bel.alloc hv.bel.size _))).mono ?_
      rintro e w1 ⟨rfl, q, rfl⟩
      cases hbb : F.isBound (k : Int)
      · have HBB := Lib.hid hbb
        clear hbb hv
        go_wp2
        go_roundw
        case rel => exact ⟨k + 1, by omega, by go_num, by rw [HST.out, HBB.out]; simpa using HV.out.below (by repeat (first | exact Below.refl _ _ | assumption | refine Below.setCell ?_ (by first | (simp; done) | (simp; omega) | omega) _ | refine below_drewN ?_ _ | refine Below.drew ?_ | refine Below.alloc ?_ (by first | (simp; done) | (simp; omega) | omega) _))⟩
        case measure => simp [intOf]; omega
      · have HBB := Lib.hid hbb
        have hv2 := hv.below (w' := ((wr.alloc (.cells #[.int .i64 x.k, .int .i64 x.n, .string x.s] 44)).drewN q).alloc (.cells #[.int .i64 x.k, .int .i64 x.n, .string x.s] 44)) (by repeat (first | exact Below.refl _ _ | assumption | refine Below.setCell ?_ (by first | (simp; done) | (simp; omega) | omega) _ | refine below_drewN ?_ _ | refine Below.drew ?_ | refine Below.alloc ?_ (by first | (simp; done) | (simp; omega) | omega) _))
        have h1 := one_rdV ((wr.alloc (.cells #[.int .i64 x.k, .int .i64 x.n, .string x.s] 44)).drewN q) x
        clear hbb hv
        go_wp2_with (at_builtin; refine wpList_appendV _ rfl _ _ rfl u3 l rfl hv2.own _ 1 1 [x] rfl (by simpa using h1) (by omega) ?_; intro v1 w1 hv1 hg1 ha1; have HV1 := Lib.hid hv1; have HG1 := Lib.hid hg1; have HA1 := Lib.hid ha1; clear hv1 hg1 ha1)
        go_roundw
        case rel => exact ⟨k + 1, by omega, by go_num, by rw [HST.out, HBB.out]; simpa using hv2.app HV1.out HG1.out HA1.out⟩
        case measure => simp [intOf]; omega
    · have hkn : k = n := by omega
      have hkl := boundTo_le F k
      have hbn : F.boundTo F.locals.length = F.boundTo k := by rw [hkn, hr.1]
      have HBN := Lib.hid hbn
      clear hbn hkn
      generalize F.boundTo k = l at *
      obtain ⟨Au, nu, cu, rfl, _⟩ := hv.own.rd
      have hcl : F.cells.length ≤ nc := Nat.le_of_eq hrc.1
      have hvl : F.values.length ≤ nx := Nat.le_of_eq hrx.1
      have hrcW := hrc.new hv.bel
      have hrxW := hrx.new hv.bel
      have hblkW := hblk.below hv.bel hltg
      have HV := Lib.hid hv
      have hblk0 := hblk
      have hrx0 := hrx
      clear hv c2 hrc hrx hblk hr
      go_upto_region 8 with fail
      go_cut [3] (fun s3 wx => NewRow w wx s3 (l ++ F.cells ++ [F.space, F.keep]))
      case first =>
        have hgw : g < wr.heap.size := Nat.lt_of_lt_of_le hltg HV.out.bel.size
        have hgne : (Value.slice Au nu cu).ownBlock ≠ some g := fun e => by have := HV.out.new g e; omega
        go_region_held3 (fun w' => w'.cell? ⟨g, 4, none⟩ = some (.slice Ac nc cc) ∧ w'.cell? ⟨g, 5, none⟩ = some (.int .i64 F.space.k) ∧ w'.cell? ⟨g, 6, none⟩ = some (.int .i64 F.space.n) ∧ w'.cell? ⟨g, 7, none⟩ = some (.string F.space.s) ∧
          w'.cell? ⟨g, 11, none⟩ = some (.int .i64 F.keep.k) ∧ w'.cell? ⟨g, 12, none⟩ = some (.int .i64 F.keep.n) ∧ w'.cell? ⟨g, 13, none⟩ = some (.string F.keep.s))
          (first | exact cells7 hblkW | exact cells7 (hblkW.alloc _) | exact cells7 HG1 | exact cells7 (HG1.alloc _) | exact cells7 HG2)
          (first
            | (refine step_appendV _ rfl (.tmp 24) (.tmp 28) rfl (.slice Au nu cu) l rfl (by exact Own.new HV.out.own (by repeat (first | exact Below.refl _ _ | assumption | refine Below.setCell ?_ (by first | (simp; done) | (simp; omega) | omega) _ | refine below_drewN ?_ _ | refine Below.drew ?_ | refine Below.alloc ?_ (by first | (simp; done) | (simp; omega) | omega) _))) Ac nc cc F.cells rfl (by exact hrcW.new (by repeat (first | exact Below.refl _ _ | assumption | refine Below.setCell ?_ (by first | (simp; done) | (simp; omega) | omega) _ | refine below_drewN ?_ _ | refine Below.drew ?_ | refine Below.alloc ?_ (by first | (simp; done) | (simp; omega) | omega) _))) (by omega) ?_; intro v1 w1 hv1 hg1 ha1; obtain ⟨A1, n1, c1, rfl, _⟩ := OwnV.rd hv1; have HG1 : Blk w1 g 53 (F.row (.slice A n c) B (.slice Ac nc cc) (.slice Ax nx cx) K) := (by first | exact Blk.grown (w := wr.drew) hblkW hg1 (Ne.symm hgne) | exact Blk.grown (Blk.alloc (w := wr.drew) hblkW _) hg1 (Ne.symm hgne)); have HNE1 : (Value.slice A1 n1 c1).ownBlock ≠ some g := (by rcases ha1 with e | e <;> rw [e] <;> first | exact hgne | (intro e'; simp at e'; omega)); have HV1 := Lib.hid hv1; have HGG1 := Lib.hid hg1; have HA1 := Lib.hid ha1; clear hv1 hg1 ha1)
            | (refine step_appendV _ rfl (.tmp 29) (.tmp 38) rfl (.slice A1 n1 c1) (l ++ F.cells) rfl (by exact Own.new HV1.out (by repeat (first | exact Below.refl _ _ | assumption | refine Below.setCell ?_ (by first | (simp; done) | (simp; omega) | omega) _ | refine below_drewN ?_ _ | refine Below.drew ?_ | refine Below.alloc ?_ (by first | (simp; done) | (simp; omega) | omega) _))) _ 2 2 [F.space, F.keep] rfl (by first | exact two_rdV w1 F.space F.keep | exact RdV.grown (two_rdV wr.drew F.space F.keep) HGG1.out (fun b o e e' => by have h3 := Own.lt HV.out.own e'; injection e with e; injection e with e; have e : wr.heap.size = b := e; omega)) (by rw [List.length_append]; omega) ?_; intro v2 w2 hv2 hg2 ha2; have HG2 : Blk w2 g 53 (F.row (.slice A n c) B (.slice Ac nc cc) (.slice Ax nx cx) K) := (by first | exact Blk.grown HG1 hg2 (Ne.symm HNE1) | exact Blk.grown (HG1.alloc _) hg2 (Ne.symm HNE1)); have HV2 := Lib.hid hv2; have HGG2 := Lib.hid hg2; have HA2 := Lib.hid ha2; clear hv2 hg2 ha2))
        all_goals
          go_wp2_with fail
          go_meet
          first
            | exact ((NewRow.app (NewRow.below (w' := wr.drew) HV.out (by repeat (first | exact Below.refl _ _ | assumption | refine Below.setCell ?_ (by first | (simp; done) | (simp; omega) | omega) _ | refine below_drewN ?_ _ | refine Below.drew ?_ | refine Below.alloc ?_ (by first | (simp; done) | (simp; omega) | omega) _))) HV1.out HGG1.out HA1.out).below (by repeat (first | exact Below.refl _ _ | assumption | refine Below.setCell ?_ (by first | (simp; done) | (simp; omega) | omega) _ | refine below_drewN ?_ _ | refine Below.drew ?_ | refine Below.alloc ?_ (by first | (simp; done) | (simp; omega) | omega) _))).app HV2.out HGG2.out HA2.out
            | exact (NewRow.app (NewRow.below HV.out (by exact (by repeat (first | exact Below.refl _ _ | assumption | refine Below.setCell ?_ (by first | (simp; done) | (simp; omega) | omega) _ | refine below_drewN ?_ _ | refine Below.drew ?_ | refine Below.alloc ?_ (by first | (simp; done) | (simp; omega) | omega) _)))) HV1.out HGG1.out HA1.out).app HV2.out HGG2.out HA2.out
      case rest =>
        have hv := hcut
        obtain ⟨Au2, nu2, cu2, rfl, _⟩ := hv.own.rd
        have c8 : wc.cell? ⟨g, 8, none⟩ = some (.slice Ax nx cx) := (hblk0.below hv.bel hltg).cell 8
        have hrxc := hrx0.new hv.bel
        clear HV hblkW hrcW hrxW
        go_wp2_with (at_builtin; refine wpList_appendV _ rfl _ _ rfl (.slice Au2 nu2 cu2) (l ++ F.cells ++ [F.space, F.keep]) rfl hv.own Ax nx cx F.values rfl hrxc (by simp; omega) ?_; intro v3 w3 hv3 hg3 ha3; have HV3 := Lib.hid hv3; have HG3 := Lib.hid hg3; have HA3 := Lib.hid ha3; clear hv3 hg3 ha3)
        go_ret
        refine ⟨v3, rfl, ?_⟩
        have := hv.app HV3.out HG3.out HA3.out
        unfold Fr.held
        rw [HBN.out]
        exact this
end Go.Proofs.Ythdkloojhenlkaa
