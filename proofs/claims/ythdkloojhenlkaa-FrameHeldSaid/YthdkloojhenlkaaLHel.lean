/- FrameHeld: the walk. -/
import Derived.Test.YthdkloojhenlkaaHel
namespace Go.Proofs.Ythdkloojhenlkaa
open Go.RowKit
attribute [local go_sem high] guardV eqV neqV
attribute [local go_sem] V.v

def namesPQ : List ByteArray := [⟨#[112]⟩, ⟨#[113]⟩]
def fh (X : List V) (x y : V) (l : List V) (b : List Bool) (vs : List V) : Fr := ⟨0, 0, l, b, X, x, vs, [], 0, y, -1⟩
theorem fh_new (X : List V) : Fr.new 0 namesPQ [] [] X = fh X V.zero V.zero [V.zero, V.zero] [false, false] [] := rfl
theorem fh_held0 (X Y : List V) (x y : V) : (fh X x y [V.zero, V.zero] [false, false] Y).held = X ++ [x, y] ++ Y := rfl
theorem fh_held1 (X Y : List V) (x y z : V) : (fh X x y [V.zero, z] [false, true] Y).held = [z] ++ X ++ [x, y] ++ Y := rfl

theorem cells6 {w : World} {b : Nat} {T : TypeId} {x y : V} (h : Blk w b T #[.int .i64 x.k, .int .i64 x.n, .string x.s, .int .i64 y.k, .int .i64 y.n, .string y.s]) :
    w.cell? ⟨b, 0, none⟩ = some (.int .i64 x.k) ∧ w.cell? ⟨b, 1, none⟩ = some (.int .i64 x.n) ∧ w.cell? ⟨b, 2, none⟩ = some (.string x.s) ∧
      w.cell? ⟨b, 3, none⟩ = some (.int .i64 y.k) ∧ w.cell? ⟨b, 4, none⟩ = some (.int .i64 y.n) ∧ w.cell? ⟨b, 5, none⟩ = some (.string y.s) :=
  ⟨h.cell 0, h.cell 1, h.cell 2, h.cell 3, h.cell 4, h.cell 5⟩
theorem one_own (w : World) (x : V) : OwnV (w.alloc (.cells #[.int .i64 x.k, .int .i64 x.n, .string x.s] 44)) (.slice (some ⟨w.heap.size, 0, none⟩) 1 1) [x] := Own.made w #[.int .i64 x.k, .int .i64 x.n, .string x.s] 1 (by omega) rfl
theorem newrow_empty {w u : World} (hb : Below w.heap.size w u) {e0 : Nat} (he : e0 = u.heap.size) : NewRow w (u.alloc (.cells #[] 44)) (.slice (some ⟨e0, 0, none⟩) 0 0) [] := by
  subst he
  exact ⟨empty_own u, fun b e => by simp [Value.ownBlock] at e; have := hb.size; omega, hb.alloc hb.size _⟩

set_option maxRecDepth 100000 in
set_option maxHeartbeats 4000000 in
theorem held_walk (A B : Option Addr) (na nb ca cb : Nat) (xa xb : List V) (x y : V) (w : World) (hA : RdV w A na ca xa) (hB : RdV w B nb cb xb) :
    Calls Try.prog 9 #[.slice A na ca, .slice B nb cb, .agg #[.int .i64 x.k, .int .i64 x.n, .string x.s, .int .i64 y.k, .int .i64 y.n, .string y.s]] w fun e w' => e = .returned (.bool true) ∧ Below w.heap.size w w' := by
  have hbx : Below w.heap.size w (w.alloc (.cells #[.int .i64 x.k, .int .i64 x.n, .string x.s, .int .i64 y.k, .int .i64 y.n, .string y.s] 68)) := (by repeat (first | exact Below.refl _ _ | assumption | refine Below.setCell ?_ (by first | (simp; done) | (simp; omega) | omega) _ | refine below_drewN ?_ _ | refine Below.drew ?_ | refine Below.alloc ?_ (by first | (simp; done) | (simp; omega) | omega) _))
  have BX := Blk.new w 68 #[.int .i64 x.k, .int .i64 x.n, .string x.s, .int .i64 y.k, .int .i64 y.n, .string y.s]
  have hA := hA.new hbx
  have hB := hB.new hbx
  go_enter Try.func9, Try.ntmps9
  go_wp2_with fail
  refine (shown_any _).mono ?_
  rintro e w1 ⟨rfl, hb1⟩
  have HB1 : Below w.heap.size w w1 := hbx.trans (hb1.mono (by simp))
  have BX := BX.below hb1 BX.lt
  have hA := hA.new hb1
  have hB := hB.new hb1
  clear hb1 hbx
  go_wp2_with fail
  refine (row_any A na ca xa _ hA).mono ?_
  rintro e w2 ⟨v2, rfl, O2, N2, hb2⟩
  have HB2 := HB1.trans (hb2.mono HB1.size)
  have BX := BX.below hb2 BX.lt
  have hB := hB.new hb2
  have hX := cutRow_length xa
  generalize cutRow xa = X at *
  obtain ⟨Ax, nX, cx, rfl, RX, _⟩ := O2.rd
  have hnX : nX ≤ 12 := by rw [← RX.1]; exact hX
  have mS := make_S nX (by omega)
  have HO2 := Lib.hid O2
  clear HB1 hb2 hA O2 N2
  go_wp2_with fail
  generalize hW3 : ((w2.alloc (Obj.cells (zS nX) 9)).alloc (Obj.cells #[Value.string { data := #[112] }, Value.string { data := #[113] }] 9)) = W3 at *
  have hbW3 : Below w2.heap.size w2 W3 := by rw [← hW3]; exact (by repeat (first | exact Below.refl _ _ | assumption | refine Below.setCell ?_ (by first | (simp; done) | (simp; omega) | omega) _ | refine below_drewN ?_ _ | refine Below.drew ?_ | refine Below.alloc ?_ (by first | (simp; done) | (simp; omega) | omega) _))
  have hzW3 : W3.heap.size = w2.heap.size + 1 + 1 := by rw [← hW3]; simp
  have hnm : Blk W3 (w2.heap.size + 1) 9 (scs namesPQ).toArray := by rw [← hW3]; exact Blk.newAt (by simp)
  have hbW4 : Below W3.heap.size W3 (W3.alloc (Obj.cells #[Value.string { data := #[] }, Value.int IntKind.i64 0, Value.int IntKind.i64 0, Value.int IntKind.i64 0,
          Value.bool false, Value.slice (some { block := w2.heap.size + 1, off := 0 }) 2 2, Value.slice none 0 0,
          Value.slice (some { block := w2.heap.size, off := 0 }) nX nX, Value.slice none 0 0, Value.slice none 0 0, Value.slice none 0 0] 31)) := (by repeat (first | exact Below.refl _ _ | assumption | refine Below.setCell ?_ (by first | (simp; done) | (simp; omega) | omega) _ | refine below_drewN ?_ _ | refine Below.drew ?_ | refine Below.alloc ?_ (by first | (simp; done) | (simp; omega) | omega) _))
  have hpr := Blk.newAt (w := W3) (t := 31) (g := w2.heap.size + 1 + 1) (cs := #[Value.string { data := #[] }, Value.int IntKind.i64 0, Value.int IntKind.i64 0, Value.int IntKind.i64 0,
          Value.bool false, Value.slice (some { block := w2.heap.size + 1, off := 0 }) 2 2, Value.slice none 0 0,
          Value.slice (some { block := w2.heap.size, off := 0 }) nX nX, Value.slice none 0 0, Value.slice none 0 0, Value.slice none 0 0]) hzW3.symm
  have hnm := hnm.below hbW4 hnm.lt
  have RX := (RX.new hbW3).new hbW4
  have hB := (hB.new hbW3).new hbW4
  have BX := (BX.below hbW3 BX.lt).below hbW4 (BX.below hbW3 BX.lt).lt
  have HB4 := (HB2.trans (hbW3.mono HB2.size)).trans (hbW4.mono (HB2.trans (hbW3.mono HB2.size)).size)
  clear hbW3 hbW4 hW3 HB2 hzW3
  have hXl : nX = X.length := RX.1.symm
  refine (new_env _ 1 1 0 namesPQ [] nX none 0 0 [] Ax nX cx X _ (by omega) (by omega) (blk_code hpr (blk_rdS hnm rfl (by omega)) (nil_rdS _)) (nil_rdV _) RX (by decide) (by simp) (by decide) (by simp; omega)).mono ?_
  rintro e w5 ⟨S5, g, rfl, E5⟩
  rw [fh_new] at E5
  have NX : ¬ S5 w.heap.size := fun h => by have := E5.own _ h; have := BX.lt; omega
  have RX := (RowR.of_arg RX E5.own).below E5.bel
  have RB := (RowR.of_arg hB E5.own).below E5.bel
  clear hB
  have BX := BX.below E5.bel BX.lt
  clear hpr hnm mS hXl
  have hgx : g ≠ w.heap.size := fun e => NX (e ▸ E5.gin)
  have hxg : w.heap.size ≠ g := Ne.symm hgx
  obtain ⟨L5, B5, C5, X5, K5, hrow⟩ := E5.row53
  have q0 : w5.cell? ⟨w.heap.size, 0, none⟩ = _ := BX.cell 0
  have q1 : w5.cell? ⟨w.heap.size, 1, none⟩ = _ := BX.cell 1
  have q2 : w5.cell? ⟨w.heap.size, 2, none⟩ = _ := BX.cell 2
  have q3 : w5.cell? ⟨w.heap.size, 3, none⟩ = _ := BX.cell 3
  have q4 : w5.cell? ⟨w.heap.size, 4, none⟩ = _ := BX.cell 4
  have q5 : w5.cell? ⟨w.heap.size, 5, none⟩ = _ := BX.cell 5
  obtain ⟨_, g5, g6, g7, g11, g12, g13⟩ := cells7 hrow
  have f5 := hrow.frozen 5
  have f6 := hrow.frozen 6
  have f7 := hrow.frozen 7
  have f11 := hrow.frozen 11
  have f12 := hrow.frozen 12
  have f13 := hrow.frozen 13
  have E6 := E5.setSpace x
  have E7 := E6.1.setKeep y
  have HE6 := Lib.hid E6.2
  have HE7 := Lib.hid E7
  clear E5 hrow E6 E7
  go_wp2_with fail
  clear q0 q1 q2 q3 q4 q5 g5 f5 g6 f6 g7 f7 g11 f11 g12 f12 g13 f13
  obtain ⟨E7, K7⟩ := HE7.out
  have RX := (RX.kept HE6.out).kept K7
  have RB := (RB.kept HE6.out).kept K7
  have BX6 := HE6.out.blk BX NX
  have BX := K7.blk BX6 NX
  have HZ := Lib.hid (Nat.le_trans HB4.size (Nat.le_refl _))
  clear HE6 HE7 K7 BX6
  have E7 : Env _ _ S5 g (fh X x y [V.zero, V.zero] [false, false] []) := E7
  refine (held_env E7 (by simp [fh]; omega)).mono ?_
  rintro e w8 ⟨A8, n8, c8, rfl, RN, E8, hb8⟩
  rw [fh_held0] at RN
  have RX := RX.below hb8
  have RB := RB.below hb8
  have BX := BX.below hb8 BX.lt
  clear E7 hb8
  go_wp2_with fail
  refine (row_env E8 RB.rd).mono ?_
  rintro e w9 ⟨Ay, cy, rfl, RY, E9, hb9⟩
  have RX := RX.below hb9
  have RB := RB.below hb9
  have RN := RN.below hb9
  have BX := BX.below hb9 BX.lt
  clear E8 hb9
  have hY := cutRow_length xb
  go_wp2_with fail
  refine (push_env E9 _ _ _ _ RY.rd (by simp [fh]; omega)).mono ?_
  rintro e w10 ⟨S10, rfl, E10, K10⟩
  have RX := RX.kept K10
  have RB := RB.kept K10
  have RN := RN.kept K10
  have RY := RY.kept K10
  have BX' := K10.blk BX NX
  have NX := K10.out BX.lt NX
  have BX := BX'
  clear BX'
  clear E9 K10
  have E10 : Env _ _ S10 g (fh X x y [V.zero, V.zero] [false, false] (cutRow xb)) := E10
  have q0 : World.cell? w10 ⟨w.heap.size, 0, none⟩ = _ := BX.cell 0
  have q1 : World.cell? w10 ⟨w.heap.size, 1, none⟩ = _ := BX.cell 1
  have q2 : World.cell? w10 ⟨w.heap.size, 2, none⟩ = _ := BX.cell 2
  go_wp2_with fail
  clear q0 q1 q2
  refine (store_env E10 1 x).mono ?_
  rintro e w11 ⟨S11, rfl, E11, K11⟩
  rw [show (fh X x y [V.zero, V.zero] [false, false] (cutRow xb)).has 1 = true from rfl]
  have RX := RX.kept K11
  have RB := RB.kept K11
  have RN := RN.kept K11
  have RY := RY.kept K11
  have BX' := K11.blk BX NX
  have NX := K11.out BX.lt NX
  have BX := BX'
  clear BX'
  clear E10 K11
  have E11 : Env _ _ S11 g (fh X x y [V.zero, x] [false, true] (cutRow xb)) := E11
  go_wp2_with fail
  refine (held_env E11 (by simp [fh]; omega)).mono ?_
  rintro e w12 ⟨A12, n12, c12, rfl, RS, E12, hb12⟩
  rw [fh_held1] at RS
  have RX := RX.below hb12
  have RB := RB.below hb12
  have RN := RN.below hb12
  have RY := RY.below hb12
  have BX := BX.below hb12 BX.lt
  clear E11 hb12
  go_upto_region 13 with fail
  have hxl12 : w.heap.size < w12.heap.size := BX.lt
  go_cut [14] (fun s14 wx => NewRow w12 wx s14 (X ++ [x, y]))
  case first =>
    clear RN RY RS RB E12
    go_region_held3 (fun w' => w'.cell? ⟨w.heap.size, 0, none⟩ = some (.int .i64 x.k) ∧ w'.cell? ⟨w.heap.size, 1, none⟩ = some (.int .i64 x.n) ∧ w'.cell? ⟨w.heap.size, 2, none⟩ = some (.string x.s) ∧ w'.cell? ⟨w.heap.size, 3, none⟩ = some (.int .i64 y.k) ∧ w'.cell? ⟨w.heap.size, 4, none⟩ = some (.int .i64 y.n) ∧ w'.cell? ⟨w.heap.size, 5, none⟩ = some (.string y.s))
      (first | exact cells6 BX | exact cells6 (BX.alloc _) | exact cells6 ((BX.alloc _).alloc _) | exact cells6 HBX1 | exact cells6 (HBX1.alloc _) | exact cells6 HBX2)
      (first
        | (refine step_appendV _ rfl (.tmp 64) (.tmp 65) rfl (.slice (some ⟨w12.heap.size, 0, none⟩) 0 0) [] rfl (by exact ((newrow_empty (w := w12) (u := w12) (Below.refl _ _) rfl).below (by exact (by repeat (first | exact Below.refl _ _ | assumption | refine Below.setCell ?_ (by first | (simp; done) | (simp; omega) | omega) _ | refine below_drewN ?_ _ | refine Below.drew ?_ | refine Below.alloc ?_ (by first | (simp; done) | (simp; omega) | omega) _)))).own) Ax nX cx X rfl (by exact RX.rd.new (by repeat (first | exact Below.refl _ _ | assumption | refine Below.setCell ?_ (by first | (simp; done) | (simp; omega) | omega) _ | refine below_drewN ?_ _ | refine Below.drew ?_ | refine Below.alloc ?_ (by first | (simp; done) | (simp; omega) | omega) _))) (by simp; omega) ?_; intro v1 wa hv1 hg1 ha1; obtain ⟨A1, n1, c1, rfl, _⟩ := OwnV.rd hv1; have NR1 : NewRow w12 wa (.slice A1 n1 c1) ([] ++ X) := NewRow.app ((newrow_empty (w := w12) (u := w12) (Below.refl _ _) rfl).below (by exact (by repeat (first | exact Below.refl _ _ | assumption | refine Below.setCell ?_ (by first | (simp; done) | (simp; omega) | omega) _ | refine below_drewN ?_ _ | refine Below.drew ?_ | refine Below.alloc ?_ (by first | (simp; done) | (simp; omega) | omega) _)))) hv1 hg1 ha1; have HBX1 : Blk wa w.heap.size 68 #[.int .i64 x.k, .int .i64 x.n, .string x.s, .int .i64 y.k, .int .i64 y.n, .string y.s] := Blk.grown (BX.below (by exact (by repeat (first | exact Below.refl _ _ | assumption | refine Below.setCell ?_ (by first | (simp; done) | (simp; omega) | omega) _ | refine below_drewN ?_ _ | refine Below.drew ?_ | refine Below.alloc ?_ (by first | (simp; done) | (simp; omega) | omega) _))) BX.lt) hg1 (by simp [Value.ownBlock]; omega); have HG1 := Lib.hid hg1; clear hv1 hg1 ha1)
        | (refine step_appendV _ rfl (.tmp 64) (.tmp 65) rfl (.slice (some ⟨w12.heap.size + 1, 0, none⟩) 0 0) [] rfl (by exact ((newrow_empty (w := w12) (u := w12.alloc (.cells #[.int .i64 x.k, .int .i64 x.n, .string x.s, .int .i64 y.k, .int .i64 y.n, .string y.s] 44)) (by exact (by repeat (first | exact Below.refl _ _ | assumption | refine Below.setCell ?_ (by first | (simp; done) | (simp; omega) | omega) _ | refine below_drewN ?_ _ | refine Below.drew ?_ | refine Below.alloc ?_ (by first | (simp; done) | (simp; omega) | omega) _))) (by simp)).below (by exact (by repeat (first | exact Below.refl _ _ | assumption | refine Below.setCell ?_ (by first | (simp; done) | (simp; omega) | omega) _ | refine below_drewN ?_ _ | refine Below.drew ?_ | refine Below.alloc ?_ (by first | (simp; done) | (simp; omega) | omega) _)))).own) Ax nX cx X rfl (by exact RX.rd.new (by repeat (first | exact Below.refl _ _ | assumption | refine Below.setCell ?_ (by first | (simp; done) | (simp; omega) | omega) _ | refine below_drewN ?_ _ | refine Below.drew ?_ | refine Below.alloc ?_ (by first | (simp; done) | (simp; omega) | omega) _))) (by simp; omega) ?_; intro v1 wa hv1 hg1 ha1; obtain ⟨A1, n1, c1, rfl, _⟩ := OwnV.rd hv1; have NR1 : NewRow w12 wa (.slice A1 n1 c1) ([] ++ X) := NewRow.app ((newrow_empty (w := w12) (u := w12.alloc (.cells #[.int .i64 x.k, .int .i64 x.n, .string x.s, .int .i64 y.k, .int .i64 y.n, .string y.s] 44)) (by exact (by repeat (first | exact Below.refl _ _ | assumption | refine Below.setCell ?_ (by first | (simp; done) | (simp; omega) | omega) _ | refine below_drewN ?_ _ | refine Below.drew ?_ | refine Below.alloc ?_ (by first | (simp; done) | (simp; omega) | omega) _))) (by simp)).below (by exact (by repeat (first | exact Below.refl _ _ | assumption | refine Below.setCell ?_ (by first | (simp; done) | (simp; omega) | omega) _ | refine below_drewN ?_ _ | refine Below.drew ?_ | refine Below.alloc ?_ (by first | (simp; done) | (simp; omega) | omega) _)))) hv1 hg1 ha1; have HBX1 : Blk wa w.heap.size 68 #[.int .i64 x.k, .int .i64 x.n, .string x.s, .int .i64 y.k, .int .i64 y.n, .string y.s] := Blk.grown (BX.below (by exact (by repeat (first | exact Below.refl _ _ | assumption | refine Below.setCell ?_ (by first | (simp; done) | (simp; omega) | omega) _ | refine below_drewN ?_ _ | refine Below.drew ?_ | refine Below.alloc ?_ (by first | (simp; done) | (simp; omega) | omega) _))) BX.lt) hg1 (by simp [Value.ownBlock]; omega); have HG1 := Lib.hid hg1; clear hv1 hg1 ha1)
        | (refine step_appendV _ rfl (.tmp 66) (.tmp 71) rfl (.slice A1 n1 c1) ([] ++ X) rfl (by exact Own.new NR1.own (by repeat (first | exact Below.refl _ _ | assumption | refine Below.setCell ?_ (by first | (simp; done) | (simp; omega) | omega) _ | refine below_drewN ?_ _ | refine Below.drew ?_ | refine Below.alloc ?_ (by first | (simp; done) | (simp; omega) | omega) _))) (some ⟨wa.heap.size, 0, none⟩) 2 2 [x, y] rfl (by exact two_rdV wa x y) (by simp; omega) ?_; intro v2 wb hv2 hg2 ha2; have NR2 : NewRow w12 wb v2 ([] ++ X ++ [x, y]) := NewRow.app (NR1.below (by exact (by repeat (first | exact Below.refl _ _ | assumption | refine Below.setCell ?_ (by first | (simp; done) | (simp; omega) | omega) _ | refine below_drewN ?_ _ | refine Below.drew ?_ | refine Below.alloc ?_ (by first | (simp; done) | (simp; omega) | omega) _)))) hv2 hg2 ha2; have HBX2 : Blk wb w.heap.size 68 #[.int .i64 x.k, .int .i64 x.n, .string x.s, .int .i64 y.k, .int .i64 y.n, .string y.s] := Blk.grown (HBX1.below (by exact (by repeat (first | exact Below.refl _ _ | assumption | refine Below.setCell ?_ (by first | (simp; done) | (simp; omega) | omega) _ | refine below_drewN ?_ _ | refine Below.drew ?_ | refine Below.alloc ?_ (by first | (simp; done) | (simp; omega) | omega) _))) HBX1.lt) hg2 (fun e => by have := NR1.new _ e.symm; omega); clear hv2 hg2 ha2)
        | (refine step_appendV _ rfl (.tmp 66) (.tmp 71) rfl (.slice A1 n1 c1) ([] ++ X) rfl (by exact Own.new NR1.own (by repeat (first | exact Below.refl _ _ | assumption | refine Below.setCell ?_ (by first | (simp; done) | (simp; omega) | omega) _ | refine below_drewN ?_ _ | refine Below.drew ?_ | refine Below.alloc ?_ (by first | (simp; done) | (simp; omega) | omega) _))) (some ⟨w12.heap.size + 1, 0, none⟩) 2 2 [x, y] rfl (by exact RdV.grown (RdV.new (w := (w12.alloc (.cells #[] 44)).alloc (.cells #[.int .i64 x.k, .int .i64 x.n, .string x.s, .int .i64 y.k, .int .i64 y.n, .string y.s] 44)) (by have := two_rdV (w12.alloc (.cells #[] 44)) x y; simpa using this) (by exact (by repeat (first | exact Below.refl _ _ | assumption | refine Below.setCell ?_ (by first | (simp; done) | (simp; omega) | omega) _ | refine below_drewN ?_ _ | refine Below.drew ?_ | refine Below.alloc ?_ (by first | (simp; done) | (simp; omega) | omega) _)))) HG1.out (fun b o e e2 => by simp [Value.ownBlock] at e2; injection e with e; injection e with e; omega)) (by simp; omega) ?_; intro v2 wb hv2 hg2 ha2; have NR2 : NewRow w12 wb v2 ([] ++ X ++ [x, y]) := NewRow.app (NR1.below (by exact (by repeat (first | exact Below.refl _ _ | assumption | refine Below.setCell ?_ (by first | (simp; done) | (simp; omega) | omega) _ | refine below_drewN ?_ _ | refine Below.drew ?_ | refine Below.alloc ?_ (by first | (simp; done) | (simp; omega) | omega) _)))) hv2 hg2 ha2; have HBX2 : Blk wb w.heap.size 68 #[.int .i64 x.k, .int .i64 x.n, .string x.s, .int .i64 y.k, .int .i64 y.n, .string y.s] := Blk.grown (HBX1.below (by exact (by repeat (first | exact Below.refl _ _ | assumption | refine Below.setCell ?_ (by first | (simp; done) | (simp; omega) | omega) _ | refine below_drewN ?_ _ | refine Below.drew ?_ | refine Below.alloc ?_ (by first | (simp; done) | (simp; omega) | omega) _))) HBX1.lt) hg2 (fun e => by have := NR1.new _ e.symm; omega); clear hv2 hg2 ha2)
        | (refine step_appendV _ rfl (.tmp 66) (.tmp 71) rfl (.slice A1 n1 c1) ([] ++ X) rfl (by exact Own.new NR1.own (by repeat (first | exact Below.refl _ _ | assumption | refine Below.setCell ?_ (by first | (simp; done) | (simp; omega) | omega) _ | refine below_drewN ?_ _ | refine Below.drew ?_ | refine Below.alloc ?_ (by first | (simp; done) | (simp; omega) | omega) _))) (some ⟨w12.heap.size, 0, none⟩) 2 2 [x, y] rfl (by exact RdV.grown (RdV.new (two_rdV w12 x y) (by exact (by repeat (first | exact Below.refl _ _ | assumption | refine Below.setCell ?_ (by first | (simp; done) | (simp; omega) | omega) _ | refine below_drewN ?_ _ | refine Below.drew ?_ | refine Below.alloc ?_ (by first | (simp; done) | (simp; omega) | omega) _)))) HG1.out (fun b o e e2 => by simp [Value.ownBlock] at e2; injection e with e; injection e with e; omega)) (by simp; omega) ?_; intro v2 wb hv2 hg2 ha2; have NR2 : NewRow w12 wb v2 ([] ++ X ++ [x, y]) := NewRow.app (NR1.below (by exact (by repeat (first | exact Below.refl _ _ | assumption | refine Below.setCell ?_ (by first | (simp; done) | (simp; omega) | omega) _ | refine below_drewN ?_ _ | refine Below.drew ?_ | refine Below.alloc ?_ (by first | (simp; done) | (simp; omega) | omega) _)))) hv2 hg2 ha2; have HBX2 : Blk wb w.heap.size 68 #[.int .i64 x.k, .int .i64 x.n, .string x.s, .int .i64 y.k, .int .i64 y.n, .string y.s] := Blk.grown (HBX1.below (by exact (by repeat (first | exact Below.refl _ _ | assumption | refine Below.setCell ?_ (by first | (simp; done) | (simp; omega) | omega) _ | refine below_drewN ?_ _ | refine Below.drew ?_ | refine Below.alloc ?_ (by first | (simp; done) | (simp; omega) | omega) _))) HBX1.lt) hg2 (fun e => by have := NR1.new _ e.symm; omega); clear hv2 hg2 ha2))
    all_goals
      go_wp2_with fail
      go_meet
      exact NR2
  case rest =>
    have HN := hcut
    have hbc := HN.bel
    obtain ⟨Ar, nr, cr, rfl, RR⟩ := RowR.of_ownN (S := S11) HN.own (fun b e hs => by have := HN.new b e; have := E12.lt hs; omega)
    have E12 := E12.new hbc
    have RX := RX.below hbc
    have RB := RB.below hbc
    have RN := RN.below hbc
    have RY := RY.below hbc
    have RS := RS.below hbc
    have BX := BX.below hbc BX.lt
    clear HN hbc hxl12
    have q0 : World.cell? wc ⟨w.heap.size, 0, none⟩ = _ := BX.cell 0
    have q1 : World.cell? wc ⟨w.heap.size, 1, none⟩ = _ := BX.cell 1
    have q2 : World.cell? wc ⟨w.heap.size, 2, none⟩ = _ := BX.cell 2
    have hb1 : Below wc.heap.size wc (wc.alloc (.cells #[.int .i64 x.k, .int .i64 x.n, .string x.s] 44)) := (by repeat (first | exact Below.refl _ _ | assumption | refine Below.setCell ?_ (by first | (simp; done) | (simp; omega) | omega) _ | refine below_drewN ?_ _ | refine Below.drew ?_ | refine Below.alloc ?_ (by first | (simp; done) | (simp; omega) | omega) _))
    have RR1 := RR.rd.new hb1
    have RB1 := RB.rd.new hb1
    have hRl : nr ≤ 14 := by rw [← RR.rd.1]; simp; omega
    go_wp2_with (at_builtin; refine wpList_appendV _ rfl (.tmp 75) (.tmp 76) rfl (.slice (some ⟨wc.heap.size, 0, none⟩) 1 1) [x] rfl (one_own wc x) Ar nr cr (X ++ [x, y]) rfl RR1 (by simp; omega) ?_; intro v3 w13 hv3 hg3 ha3; have NR3 : NewRow wc w13 v3 ([x] ++ (X ++ [x, y])) := NewRow.app ⟨one_own wc x, fun b e => by simp [Value.ownBlock] at e; omega, hb1⟩ hv3 hg3 ha3; obtain ⟨A3, n3, c3, rfl, _⟩ := OwnV.rd hv3; clear hv3 hg3 ha3)
    clear q0 q1 q2 RR1 RB1 hb1
    have E13 := E12.new NR3.bel
    have RB13 := RB.below NR3.bel
    go_wp2_with fail
    refine (row_env E13 RB13.rd).mono ?_
    rintro e w14 ⟨Az, cz, rfl, RZ, E14, hb14⟩
    have NR4 := NR3.below hb14
    clear E13 hb14 NR3 RB13 E14
    go_wp2_with (at_builtin; refine wpList_appendV _ rfl (.tmp 77) (.tmp 79) rfl (.slice A3 n3 c3) ([x] ++ (X ++ [x, y])) rfl NR4.own Az _ cz (cutRow xb) rfl RZ.rd (by simp; omega) ?_; intro v5 w15 hv5 hg5 ha5; have NR5 := NewRow.app NR4 hv5 hg5 ha5; obtain ⟨A5, n5, c5, rfl, _⟩ := OwnV.rd hv5; clear hv5 hg5 ha5)
    have hbe := NR5.bel
    obtain ⟨_, _, _, ew, RW⟩ := RowR.of_ownN (S := S11) NR5.own (fun b e hs => by have := NR5.new b e; have := E12.lt hs; omega)
    cases ew
    have E15 := E12.new hbe
    have RX := RX.below hbe
    have RB := RB.below hbe
    have RN := RN.below hbe
    have RY := RY.below hbe
    have RS := RS.below hbe
    have RR := RR.below hbe
    have BX := BX.below hbe BX.lt
    clear E12 hbe NR4 NR5 RZ
    go_wp2_with fail
    refine (clear_env E15 1).mono ?_
    rintro e w16 ⟨S16, rfl, E16, K16⟩
    rw [show (fh X x y [V.zero, x] [false, true] (cutRow xb)).isBound 1 = true from rfl]
    have RX := RX.kept K16
    have RB := RB.kept K16
    have RN := RN.kept K16
    have RY := RY.kept K16
    have RS := RS.kept K16
    have RR := RR.kept K16
    have RW := RW.kept K16
    have BX' := K16.blk BX NX
    have NX := K16.out BX.lt NX
    have BX := BX'
    clear BX'
    clear E15 K16
    have E16 : Env _ _ S16 g (fh X x y [V.zero, V.zero] [false, false] (cutRow xb)) := E16
    go_wp2_with fail
    refine (row_env E16 RB.rd).mono ?_
    rintro e w17 ⟨Aq, cq, rfl, RQ, E17, hb17⟩
    have RX := RX.below hb17
    have RB := RB.below hb17
    have RN := RN.below hb17
    have RY := RY.below hb17
    have RS := RS.below hb17
    have RR := RR.below hb17
    have RW := RW.below hb17
    have BX := BX.below hb17 BX.lt
    clear E16 hb17 RQ
    go_wp2_with fail
    refine (take_env E17 (cutRow xb).length (by simp [fh]; omega)).mono ?_
    rintro e w18 ⟨S18, v18, rfl, O18, N18, E18, K18⟩
    have ht : (fh X x y [V.zero, V.zero] [false, false] (cutRow xb)).takeOk (cutRow xb).length = true ∧ (fh X x y [V.zero, V.zero] [false, false] (cutRow xb)).took (cutRow xb).length = fh X x y [V.zero, V.zero] [false, false] [] := by
      have e : (fh X x y [V.zero, V.zero] [false, false] (cutRow xb)).takeOk (cutRow xb).length = true := decide_eq_true (p := 0 ≤ ((cutRow xb).length : Int) ∧ ((cutRow xb).length : Int) ≤ ((cutRow xb).length : Int)) ⟨by omega, by omega⟩
      refine ⟨e, ?_⟩
      simp only [Fr.took, e, if_true, Int.toNat_natCast]
      show fh X x y [V.zero, V.zero] [false, false] ((cutRow xb).take ((cutRow xb).length - (cutRow xb).length)) = _
      rw [Nat.sub_self, List.take_zero]
    rw [ht.1]
    rw [ht.2] at E18
    obtain ⟨At, nt, ct, rfl, _⟩ := OwnV.rd O18
    have RX := RX.kept K18
    have RB := RB.kept K18
    have RN := RN.kept K18
    have RY := RY.kept K18
    have RS := RS.kept K18
    have RR := RR.kept K18
    have RW := RW.kept K18
    have BX' := K18.blk BX NX
    have NX := K18.out BX.lt NX
    have BX := BX'
    clear BX'
    clear E17 K18 O18 N18 ht
    go_wp2_with fail
    refine (held_env E18 (by simp [fh]; omega)).mono ?_
    rintro e w19 ⟨A19, n19, c19, rfl, RA, E19, hb19⟩
    rw [fh_held0] at RA
    have RX := RX.below hb19
    have RB := RB.below hb19
    have RN := RN.below hb19
    have RY := RY.below hb19
    have RS := RS.below hb19
    have RR := RR.below hb19
    have RW := RW.below hb19
    have BX := BX.below hb19 BX.lt
    rw [List.append_nil] at RA RN
    rw [List.append_assoc, List.append_assoc] at RS
    have RW : RowR w19 S18 A5 n5 c5 ([x] ++ (X ++ ([x, y] ++ cutRow xb))) := by simpa [List.append_assoc] using RW
    clear E18 hb19 RX RB RY BX NX
    have HE := Lib.hid E19.bel
    clear E19
    go_wp2_with fail
    refine (row_same _ _ _ _ _ _ _ _ _ RN.rd RR.rd).mono ?_
    rintro e w20 ⟨rfl, q20, rfl⟩
    rw [rowSame_self]
    go_wp2_with fail
    refine (row_same _ _ _ _ _ _ _ _ _ (RS.rd.new (by repeat (first | exact Below.refl _ _ | assumption | refine Below.setCell ?_ (by first | (simp; done) | (simp; omega) | omega) _ | refine below_drewN ?_ _ | refine Below.drew ?_ | refine Below.alloc ?_ (by first | (simp; done) | (simp; omega) | omega) _))) (RW.rd.new (by repeat (first | exact Below.refl _ _ | assumption | refine Below.setCell ?_ (by first | (simp; done) | (simp; omega) | omega) _ | refine below_drewN ?_ _ | refine Below.drew ?_ | refine Below.alloc ?_ (by first | (simp; done) | (simp; omega) | omega) _)))).mono ?_
    rintro e w21 ⟨rfl, q21, rfl⟩
    rw [rowSame_self]
    go_wp2_with fail
    refine (row_same _ _ _ _ _ _ _ _ _ (RA.rd.new (by repeat (first | exact Below.refl _ _ | assumption | refine Below.setCell ?_ (by first | (simp; done) | (simp; omega) | omega) _ | refine below_drewN ?_ _ | refine Below.drew ?_ | refine Below.alloc ?_ (by first | (simp; done) | (simp; omega) | omega) _))) (RR.rd.new (by repeat (first | exact Below.refl _ _ | assumption | refine Below.setCell ?_ (by first | (simp; done) | (simp; omega) | omega) _ | refine below_drewN ?_ _ | refine Below.drew ?_ | refine Below.alloc ?_ (by first | (simp; done) | (simp; omega) | omega) _)))).mono ?_
    rintro e w22 ⟨rfl, q22, rfl⟩
    rw [rowSame_self]
    go_wp2
    go_ret
    refine ⟨rfl, ?_⟩
    have hf : Below w.heap.size w w19 := HB4.trans (HE.out.mono HB4.size)
    exact (by repeat (first | exact Below.refl _ _ | assumption | refine Below.setCell ?_ (by first | (simp; done) | (simp; omega) | omega) _ | refine below_drewN ?_ _ | refine Below.drew ?_ | refine Below.alloc ?_ (by first | (simp; done) | (simp; omega) | omega) _))
end Go.Proofs.Ythdkloojhenlkaa
