/- FrameSet: the walk. -/
import Derived.Test.YthdkloojhenlkaaPut
import Derived.Test.YthdkloojhenlkaaOrd
import Derived.Test.YthdkloojhenlkaaRfH
namespace Go.Proofs.Ythdkloojhenlkaa
open Go.RowKit
attribute [local go_sem high] guardV eqV neqV
attribute [local go_sem] V.v

/-- a frame whose fields others have set -/
def setF (a b c : List V) (bd : List Bool) (bl : List (Int × Int)) (sp kp : V) : Fr := ⟨0, 0, a, bd, b, sp, c, bl, 0, kp, -1⟩
theorem setF_empty : Fr.empty = setF Fr.empty.locals [] [] Fr.empty.bound [] V.zero V.zero := rfl
theorem take_snoc_p {ps : List (Int × Int)} {j : Nat} (h : j < ps.length) : ps.take j ++ [(ps[j].1, ps[j].2)] = ps.take (j + 1) := by rw [List.take_succ_eq_append_getElem h]

set_option maxRecDepth 100000 in
set_option maxHeartbeats 8000000 in
theorem set_walk (A0 A1 A2 : Option Addr) (n0 n1 n2 c0 c1 c2 : Nat) (l0 l1 l2 : List V) (Ab : Option Addr) (nb cb : Nat) (ps : List (Int × Int)) (A : Option Addr) (n c : Nat) (cs : List CallV) (w : World)
    (h0 : RdV w A0 n0 c0 l0) (h1 : RdV w A1 n1 c1 l1) (h2 : RdV w A2 n2 c2 l2) (hp : RdK w Ab nb cb ps) (hA : RdC w A n c cs) :
    Calls Try.prog 11 #[.agg #[.slice A0 n0 c0, .slice A1 n1 c1, .slice A2 n2 c2], .slice Ab nb cb, .slice A n c] w fun e w' => e = .returned (.bool true) ∧ Below w.heap.size w w' := by
  have hn : n ≤ 9223372036854775807 := by have := hA.1; have := hA.2.1; omega
  have hnb : nb ≤ 9223372036854775807 := hp.2.le
  have hbx : Below w.heap.size w (w.alloc (.cells #[.slice A0 n0 c0, .slice A1 n1 c1, .slice A2 n2 c2] 78)) := (by repeat (first | exact Below.refl _ _ | assumption | refine Below.setCell ?_ (by first | (simp; done) | (simp; omega) | omega) _ | refine below_drewN ?_ _ | refine Below.drew ?_ | refine Below.alloc ?_ (by first | (simp; done) | (simp; omega) | omega) _))
  have h0 := h0.new hbx
  have h1 := h1.new hbx
  have h2 := h2.new hbx
  have hp := hp.new hbx
  have hA := hA.new hbx
  have bx := Blk.new w 78 #[.slice A0 n0 c0, .slice A1 n1 c1, .slice A2 n2 c2]
  have hlx := bx.lt
  have x0 : (w.alloc (.cells #[.slice A0 n0 c0, .slice A1 n1 c1, .slice A2 n2 c2] 78)).cell? ⟨w.heap.size, 0, none⟩ = some (.slice A0 n0 c0) := bx.cell 0
  have x1 : (w.alloc (.cells #[.slice A0 n0 c0, .slice A1 n1 c1, .slice A2 n2 c2] 78)).cell? ⟨w.heap.size, 1, none⟩ = some (.slice A1 n1 c1) := bx.cell 1
  have x2 : (w.alloc (.cells #[.slice A0 n0 c0, .slice A1 n1 c1, .slice A2 n2 c2] 78)).cell? ⟨w.heap.size, 2, none⟩ = some (.slice A2 n2 c2) := bx.cell 2
  have X0 := Lib.hid x0
  have X1 := Lib.hid x1
  have X2 := Lib.hid x2
  clear x0 x1 x2 bx
  go_enter Try.func11, Try.ntmps11
  go_wp2_with fail
  generalize hW0 : w.alloc (.cells #[.slice A0 n0 c0, .slice A1 n1 c1, .slice A2 n2 c2] 78) = W0 at *
  have HW0 : Below w.heap.size w W0 := hbx
  clear hW0 hbx
  refine (shown_any _).mono ?_
  rintro e w1 ⟨rfl, hb1⟩
  go_wp2_with fail
  refine (empty_env _).mono ?_
  rintro e w2 ⟨S, g, rfl, E2⟩
  go_wp2_with fail
  refine (num_any 7 _).mono ?_
  rintro e w3 ⟨rfl, hb3⟩
  have HB := Lib.hid hb3
  clear hb3
  go_wp2_with fail
  have hb4 : Below w3.heap.size w3 (w3.alloc (Obj.cells #[Value.int IntKind.i64 2, Value.int IntKind.i64 7, Value.string { data := #[] }] 44)) := (by repeat (first | exact Below.refl _ _ | assumption | refine Below.setCell ?_ (by first | (simp; done) | (simp; omega) | omega) _ | refine below_drewN ?_ _ | refine Below.drew ?_ | refine Below.alloc ?_ (by first | (simp; done) | (simp; omega) | omega) _))
  have hs1 := HB.out.size
  simp at hs1
  have hnm : Blk (w3.alloc (Obj.cells #[Value.int IntKind.i64 2, Value.int IntKind.i64 7, Value.string { data := #[] }] 44)) w2.heap.size 9 (scs names3).toArray := (((Blk.new w2 9 _).alloc _).below HB.out (by simp; omega)).alloc _
  have hpc := ((Blk.newAt (w := w2.alloc (Obj.cells #[Value.string { data := #[97] }, Value.string { data := #[98] }, Value.string { data := #[99] }] 9)) (t := 31) (g := w2.heap.size + 1) (cs := #[Value.string { data := #[] }, Value.int IntKind.i64 0, Value.int IntKind.i64 1, Value.int IntKind.i64 0,
          Value.bool false, Value.slice (some { block := w2.heap.size, off := 0 }) 3 3, Value.slice none 0 0, Value.slice none 0 0, Value.slice none 0 0, Value.slice none 0 0, Value.slice none 0 0]) (by simp)).below HB.out (by simp)).alloc (Obj.cells #[Value.int IntKind.i64 2, Value.int IntKind.i64 7, Value.string { data := #[] }] 44)
  refine (rnew_yes _ 1 1 0 names3 [] 0 _ 1 1 [numV 7] _ 0 0 [] _ (by omega) (by omega) (blk_code hpc (blk_rdS hnm rfl (by omega)) (nil_rdS _)) (one_rdV w3 (numV 7)) (nil_rdV _) (by decide) rfl (by decide) (by decide)).mono ?_
  rintro e w4 ⟨y, rfl, hF, hb5⟩
  have hmid : Below w2.heap.size w2 (w3.alloc (Obj.cells #[Value.int IntKind.i64 2, Value.int IntKind.i64 7, Value.string { data := #[] }] 44)) := (Below.trans (by exact (by repeat (first | exact Below.refl _ _ | assumption | refine Below.setCell ?_ (by first | (simp; done) | (simp; omega) | omega) _ | refine below_drewN ?_ _ | refine Below.drew ?_ | refine Below.alloc ?_ (by first | (simp; done) | (simp; omega) | omega) _))) (HB.out.mono (by simp; omega))).trans (hb4.mono (by omega))
  obtain ⟨S', T1⟩ := two_of E2 hmid hF hb5
  have T : Two W0 w4 S S' g y (setF Fr.empty.locals [] [] Fr.empty.bound [] V.zero V.zero) (setF Fr.empty.locals [] [] Fr.empty.bound [] V.zero V.zero) := ⟨T1.f, T1.r, T1.far, fun i hi => Nat.le_trans hb1.size (T1.own i hi), fun i hi => Nat.le_trans hb1.size (T1.own' i hi), hb1.trans (T1.bel.mono hb1.size)⟩
  clear hF hb5 hmid hb4 hnm hpc HB hs1 E2 hb1 T1
  have hgx : g ≠ w.heap.size := by
    obtain ⟨_, _, _, _, _, _, hs⟩ := T.ownF
    have := T.own g hs
    omega
  have hyx : y ≠ w.heap.size := by
    obtain ⟨_, _, _, _, _, _, hs⟩ := T.ownR
    have := T.own' y hs
    omega
  have hxg := Ne.symm hgx
  have hxy := Ne.symm hyx
  have hgy : g ≠ y := by
    obtain ⟨_, _, _, _, _, _, hs⟩ := T.ownF
    obtain ⟨_, _, _, _, _, _, hs'⟩ := T.ownR
    rintro rfl
    exact T.far _ hs hs'
  have hyg := Ne.symm hgy
  have y0 : w4.cell? ⟨w.heap.size, 0, none⟩ = some (.slice A0 n0 c0) := (T.bel.cell (p := ⟨w.heap.size, 0, none⟩) hlx).trans X0.out
  have y1 : w4.cell? ⟨w.heap.size, 1, none⟩ = some (.slice A1 n1 c1) := (T.bel.cell (p := ⟨w.heap.size, 1, none⟩) hlx).trans X1.out
  have y2 : w4.cell? ⟨w.heap.size, 2, none⟩ = some (.slice A2 n2 c2) := (T.bel.cell (p := ⟨w.heap.size, 2, none⟩) hlx).trans X2.out
  go_wp2_with fail
  clear y0 y1 y2
  refine (row_any A0 n0 c0 l0 _ (h0.new T.bel)).mono ?_
  rintro e wa1 ⟨v, rfl, hv, hvn, hbN⟩
  have NR : NewRow _ wa1 v (cutRow l0) := ⟨hv, hvn, hbN⟩
  obtain ⟨Av, nv, cv, rfl, _⟩ := OwnV.rd hv
  obtain ⟨L, B, C, X, K, hbk, _⟩ := T.ownF
  have hbN' := hbk.below hbN hbk.lt
  have cg : wa1.cell? ⟨g, 2, none⟩ = some L := hbN'.cell 2
  have fg : wa1.frozen? ⟨g, 2, none⟩ = false := hbN'.frozen 2
  have TB := T.new hbN
  have y0 : wa1.cell? ⟨w.heap.size, 0, none⟩ = some (.slice A0 n0 c0) := (TB.bel.cell (p := ⟨w.heap.size, 0, none⟩) hlx).trans X0.out
  have y1 : wa1.cell? ⟨w.heap.size, 1, none⟩ = some (.slice A1 n1 c1) := (TB.bel.cell (p := ⟨w.heap.size, 1, none⟩) hlx).trans X1.out
  have y2 : wa1.cell? ⟨w.heap.size, 2, none⟩ = some (.slice A2 n2 c2) := (TB.bel.cell (p := ⟨w.heap.size, 2, none⟩) hlx).trans X2.out
  obtain ⟨S1, S2, T2, _⟩ := T.localsF NR
  have T2 : Two W0 (wa1.setCell ⟨g, 2, none⟩ (.slice Av nv cv)) S1 S2 g y (setF (cutRow l0) [] [] Fr.empty.bound [] V.zero V.zero) (setF Fr.empty.locals [] [] Fr.empty.bound [] V.zero V.zero) := T2
  clear T TB NR hv hvn hbN hbk hbN'
  go_wp2_with fail
  generalize wa1.setCell ⟨g, 2, none⟩ (.slice Av nv cv) = W1 at T2 ⊢
  have T := T2
  clear cg fg y0 y1 y2 T2
  refine (row_any A0 n0 c0 l0 _ (h0.new T.bel)).mono ?_
  rintro e wa2 ⟨v, rfl, hv, hvn, hbN⟩
  have NR : NewRow _ wa2 v (cutRow l0) := ⟨hv, hvn, hbN⟩
  obtain ⟨Av, nv, cv, rfl, _⟩ := OwnV.rd hv
  obtain ⟨L, B, C, X, K, hbk, _⟩ := T.ownR
  have hbN' := hbk.below hbN hbk.lt
  have cg : wa2.cell? ⟨y, 2, none⟩ = some L := hbN'.cell 2
  have fg : wa2.frozen? ⟨y, 2, none⟩ = false := hbN'.frozen 2
  have TB := T.new hbN
  have y0 : wa2.cell? ⟨w.heap.size, 0, none⟩ = some (.slice A0 n0 c0) := (TB.bel.cell (p := ⟨w.heap.size, 0, none⟩) hlx).trans X0.out
  have y1 : wa2.cell? ⟨w.heap.size, 1, none⟩ = some (.slice A1 n1 c1) := (TB.bel.cell (p := ⟨w.heap.size, 1, none⟩) hlx).trans X1.out
  have y2 : wa2.cell? ⟨w.heap.size, 2, none⟩ = some (.slice A2 n2 c2) := (TB.bel.cell (p := ⟨w.heap.size, 2, none⟩) hlx).trans X2.out
  obtain ⟨S1, S2, T2, _⟩ := T.localsR NR
  have T2 : Two W0 (wa2.setCell ⟨y, 2, none⟩ (.slice Av nv cv)) S1 S2 g y (setF (cutRow l0) [] [] Fr.empty.bound [] V.zero V.zero) (setF (cutRow l0) [] [] Fr.empty.bound [] V.zero V.zero) := T2
  clear T TB NR hv hvn hbN hbk hbN'
  go_wp2_with fail
  generalize wa2.setCell ⟨y, 2, none⟩ (.slice Av nv cv) = W2 at T2 ⊢
  have T := T2
  clear cg fg y0 y1 y2 T2
  refine (row_any A1 n1 c1 l1 _ (h1.new T.bel)).mono ?_
  rintro e wa3 ⟨v, rfl, hv, hvn, hbN⟩
  have NR : NewRow _ wa3 v (cutRow l1) := ⟨hv, hvn, hbN⟩
  obtain ⟨Av, nv, cv, rfl, _⟩ := OwnV.rd hv
  obtain ⟨L, B, C, X, K, hbk, _⟩ := T.ownF
  have hbN' := hbk.below hbN hbk.lt
  have cg : wa3.cell? ⟨g, 4, none⟩ = some C := hbN'.cell 4
  have fg : wa3.frozen? ⟨g, 4, none⟩ = false := hbN'.frozen 4
  have TB := T.new hbN
  have y0 : wa3.cell? ⟨w.heap.size, 0, none⟩ = some (.slice A0 n0 c0) := (TB.bel.cell (p := ⟨w.heap.size, 0, none⟩) hlx).trans X0.out
  have y1 : wa3.cell? ⟨w.heap.size, 1, none⟩ = some (.slice A1 n1 c1) := (TB.bel.cell (p := ⟨w.heap.size, 1, none⟩) hlx).trans X1.out
  have y2 : wa3.cell? ⟨w.heap.size, 2, none⟩ = some (.slice A2 n2 c2) := (TB.bel.cell (p := ⟨w.heap.size, 2, none⟩) hlx).trans X2.out
  obtain ⟨S1, S2, T2, _⟩ := T.cellsF NR
  have T2 : Two W0 (wa3.setCell ⟨g, 4, none⟩ (.slice Av nv cv)) S1 S2 g y (setF (cutRow l0) (cutRow l1) [] Fr.empty.bound [] V.zero V.zero) (setF (cutRow l0) [] [] Fr.empty.bound [] V.zero V.zero) := T2
  clear T TB NR hv hvn hbN hbk hbN'
  go_wp2_with fail
  generalize wa3.setCell ⟨g, 4, none⟩ (.slice Av nv cv) = W3 at T2 ⊢
  have T := T2
  clear cg fg y0 y1 y2 T2
  refine (row_any A1 n1 c1 l1 _ (h1.new T.bel)).mono ?_
  rintro e wa4 ⟨v, rfl, hv, hvn, hbN⟩
  have NR : NewRow _ wa4 v (cutRow l1) := ⟨hv, hvn, hbN⟩
  obtain ⟨Av, nv, cv, rfl, _⟩ := OwnV.rd hv
  obtain ⟨L, B, C, X, K, hbk, _⟩ := T.ownR
  have hbN' := hbk.below hbN hbk.lt
  have cg : wa4.cell? ⟨y, 4, none⟩ = some C := hbN'.cell 4
  have fg : wa4.frozen? ⟨y, 4, none⟩ = false := hbN'.frozen 4
  have TB := T.new hbN
  have y0 : wa4.cell? ⟨w.heap.size, 0, none⟩ = some (.slice A0 n0 c0) := (TB.bel.cell (p := ⟨w.heap.size, 0, none⟩) hlx).trans X0.out
  have y1 : wa4.cell? ⟨w.heap.size, 1, none⟩ = some (.slice A1 n1 c1) := (TB.bel.cell (p := ⟨w.heap.size, 1, none⟩) hlx).trans X1.out
  have y2 : wa4.cell? ⟨w.heap.size, 2, none⟩ = some (.slice A2 n2 c2) := (TB.bel.cell (p := ⟨w.heap.size, 2, none⟩) hlx).trans X2.out
  obtain ⟨S1, S2, T2, _⟩ := T.cellsR NR
  have T2 : Two W0 (wa4.setCell ⟨y, 4, none⟩ (.slice Av nv cv)) S1 S2 g y (setF (cutRow l0) (cutRow l1) [] Fr.empty.bound [] V.zero V.zero) (setF (cutRow l0) (cutRow l1) [] Fr.empty.bound [] V.zero V.zero) := T2
  clear T TB NR hv hvn hbN hbk hbN'
  go_wp2_with fail
  generalize wa4.setCell ⟨y, 4, none⟩ (.slice Av nv cv) = W4 at T2 ⊢
  have T := T2
  clear cg fg y0 y1 y2 T2
  refine (row_any A2 n2 c2 l2 _ (h2.new T.bel)).mono ?_
  rintro e wa5 ⟨v, rfl, hv, hvn, hbN⟩
  have NR : NewRow _ wa5 v (cutRow l2) := ⟨hv, hvn, hbN⟩
  obtain ⟨Av, nv, cv, rfl, _⟩ := OwnV.rd hv
  obtain ⟨L, B, C, X, K, hbk, _⟩ := T.ownF
  have hbN' := hbk.below hbN hbk.lt
  have cg : wa5.cell? ⟨g, 8, none⟩ = some X := hbN'.cell 8
  have fg : wa5.frozen? ⟨g, 8, none⟩ = false := hbN'.frozen 8
  have TB := T.new hbN
  have y0 : wa5.cell? ⟨w.heap.size, 0, none⟩ = some (.slice A0 n0 c0) := (TB.bel.cell (p := ⟨w.heap.size, 0, none⟩) hlx).trans X0.out
  have y1 : wa5.cell? ⟨w.heap.size, 1, none⟩ = some (.slice A1 n1 c1) := (TB.bel.cell (p := ⟨w.heap.size, 1, none⟩) hlx).trans X1.out
  have y2 : wa5.cell? ⟨w.heap.size, 2, none⟩ = some (.slice A2 n2 c2) := (TB.bel.cell (p := ⟨w.heap.size, 2, none⟩) hlx).trans X2.out
  obtain ⟨S1, S2, T2, _⟩ := T.valuesF NR
  have T2 : Two W0 (wa5.setCell ⟨g, 8, none⟩ (.slice Av nv cv)) S1 S2 g y (setF (cutRow l0) (cutRow l1) (cutRow l2) Fr.empty.bound [] V.zero V.zero) (setF (cutRow l0) (cutRow l1) [] Fr.empty.bound [] V.zero V.zero) := T2
  clear T TB NR hv hvn hbN hbk hbN'
  go_wp2_with fail
  generalize wa5.setCell ⟨g, 8, none⟩ (.slice Av nv cv) = W5 at T2 ⊢
  have T := T2
  clear cg fg y0 y1 y2 T2
  refine (row_any A2 n2 c2 l2 _ (h2.new T.bel)).mono ?_
  rintro e wa6 ⟨v, rfl, hv, hvn, hbN⟩
  have NR : NewRow _ wa6 v (cutRow l2) := ⟨hv, hvn, hbN⟩
  obtain ⟨Av, nv, cv, rfl, _⟩ := OwnV.rd hv
  obtain ⟨L, B, C, X, K, hbk, _⟩ := T.ownR
  have hbN' := hbk.below hbN hbk.lt
  have cg : wa6.cell? ⟨y, 8, none⟩ = some X := hbN'.cell 8
  have fg : wa6.frozen? ⟨y, 8, none⟩ = false := hbN'.frozen 8
  have TB := T.new hbN
  have y0 : wa6.cell? ⟨w.heap.size, 0, none⟩ = some (.slice A0 n0 c0) := (TB.bel.cell (p := ⟨w.heap.size, 0, none⟩) hlx).trans X0.out
  have y1 : wa6.cell? ⟨w.heap.size, 1, none⟩ = some (.slice A1 n1 c1) := (TB.bel.cell (p := ⟨w.heap.size, 1, none⟩) hlx).trans X1.out
  have y2 : wa6.cell? ⟨w.heap.size, 2, none⟩ = some (.slice A2 n2 c2) := (TB.bel.cell (p := ⟨w.heap.size, 2, none⟩) hlx).trans X2.out
  obtain ⟨S1, S2, T2, _⟩ := T.valuesR NR
  have T2 : Two W0 (wa6.setCell ⟨y, 8, none⟩ (.slice Av nv cv)) S1 S2 g y (setF (cutRow l0) (cutRow l1) (cutRow l2) Fr.empty.bound [] V.zero V.zero) (setF (cutRow l0) (cutRow l1) (cutRow l2) Fr.empty.bound [] V.zero V.zero) := T2
  clear T TB NR hv hvn hbN hbk hbN'
  go_upto_region 12 with fail
  generalize wa6.setCell ⟨y, 8, none⟩ (.slice Av nv cv) = W6 at T2 ⊢
  have T := T2
  clear cg fg y0 y1 y2 T2
  obtain ⟨L, B, C, X, K, hbk, _⟩ := T.ownF
  obtain ⟨L', B', C', X', K', hbk', _⟩ := T.ownR
  obtain ⟨Al, nl, cl, cg2, rl⟩ := T.rowF
  obtain ⟨Am, nm, cm, cy2, rm⟩ := T.rowR
  obtain rfl : nl = nm := by rw [← rl.1, ← rm.1]
  have hnl : (cutRow l0).length = nl := rl.1
  have hcl := cutRow_length l0
  have hnl12 : nl ≤ 12 := by omega
  have mB := make_B nl (by omega)
  have cg3 : W6.cell? ⟨g, 3, none⟩ = some B := hbk.cell 3
  have fg3 : W6.frozen? ⟨g, 3, none⟩ = false := hbk.frozen 3
  have cy3 : W6.cell? ⟨y, 3, none⟩ = some B' := hbk'.cell 3
  have fy3 : W6.frozen? ⟨y, 3, none⟩ = false := hbk'.frozen 3
  have hlg := hbk.lt
  have hly := hbk'.lt
  have HNL := Lib.hid hnl
  clear hbk hbk' rl rm hnl
  go_upto_region 13 with fail
  have hbz : Below W6.heap.size W6 (W6.alloc (.cells (zB nl) 4)) := (by repeat (first | exact Below.refl _ _ | assumption | refine Below.setCell ?_ (by first | (simp; done) | (simp; omega) | omega) _ | refine below_drewN ?_ _ | refine Below.drew ?_ | refine Below.alloc ?_ (by first | (simp; done) | (simp; omega) | omega) _))
  obtain ⟨S1, S2, T2, _⟩ := T.boundF (zB_own (Blk.new W6 4 (zB nl)) (by omega)) (fun i e => by simp [Value.ownBlock] at e; omega) hbz
  rw [World.setCell_alloc_past _ _ _ _ hlg] at T2
  have hz7 : (W6.setCell ⟨g, 3, none⟩ (.slice (some ⟨W6.heap.size, 0, none⟩) nl nl)).heap.size = W6.heap.size := by simp [World.setCell]
  have hbz7 : Below W6.heap.size (W6.setCell ⟨g, 3, none⟩ (.slice (some ⟨W6.heap.size, 0, none⟩) nl nl)) ((W6.setCell ⟨g, 3, none⟩ (.slice (some ⟨W6.heap.size, 0, none⟩) nl nl)).alloc (.cells (zB nl) 4)) := (Below.refl _ _).alloc (by rw [hz7]; exact Nat.le_refl _) _
  have cy2' : ((W6.setCell ⟨g, 3, none⟩ (.slice (some ⟨W6.heap.size, 0, none⟩) nl nl)).alloc (.cells (zB nl) 4)).cell? ⟨y, 2, none⟩ = some (.slice Am nl cm) := (hbz7.cell (p := ⟨y, 2, none⟩) hly).trans ((World.cell?_setCell_other _ ⟨g, 3, none⟩ ⟨y, 2, none⟩ _ (fun e => hgy (by injection e))).trans cy2)
  have cy3' : ((W6.setCell ⟨g, 3, none⟩ (.slice (some ⟨W6.heap.size, 0, none⟩) nl nl)).alloc (.cells (zB nl) 4)).cell? ⟨y, 3, none⟩ = some B' := (hbz7.cell (p := ⟨y, 3, none⟩) hly).trans ((World.cell?_setCell_other _ ⟨g, 3, none⟩ ⟨y, 3, none⟩ _ (fun e => hgy (by injection e))).trans cy3)
  have fy3' : ((W6.setCell ⟨g, 3, none⟩ (.slice (some ⟨W6.heap.size, 0, none⟩) nl nl)).alloc (.cells (zB nl) 4)).frozen? ⟨y, 3, none⟩ = false := by rw [hbz7.frozen (p := ⟨y, 3, none⟩) hly, World.frozen?_setCell]; exact fy3
  have hly7 : y < ((W6.setCell ⟨g, 3, none⟩ (.slice (some ⟨W6.heap.size, 0, none⟩) nl nl)).alloc (.cells (zB nl) 4)).heap.size := by rw [World.size_alloc, hz7]; omega
  clear T hbz hbz7 hz7 cg2 cg3 fg3 cy2 cy3 fy3 hlg hly
  generalize (W6.setCell ⟨g, 3, none⟩ (.slice (some ⟨W6.heap.size, 0, none⟩) nl nl)).alloc (.cells (zB nl) 4) = W7 at T2 cy2' cy3' fy3' hly7 ⊢
  go_upto_region 14 with fail
  have hbz : Below W7.heap.size W7 (W7.alloc (.cells (zB nl) 4)) := (by repeat (first | exact Below.refl _ _ | assumption | refine Below.setCell ?_ (by first | (simp; done) | (simp; omega) | omega) _ | refine below_drewN ?_ _ | refine Below.drew ?_ | refine Below.alloc ?_ (by first | (simp; done) | (simp; omega) | omega) _))
  obtain ⟨S3, S4, T3, _⟩ := T2.boundR (zB_own (Blk.new W7 4 (zB nl)) (by omega)) (fun i e => by simp [Value.ownBlock] at e; omega) hbz
  rw [World.setCell_alloc_past _ _ _ _ hly7] at T3
  have T : Two W0 ((W7.setCell ⟨y, 3, none⟩ (.slice (some ⟨W7.heap.size, 0, none⟩) nl nl)).alloc (.cells (zB nl) 4)) S3 S4 g y (setF (cutRow l0) (cutRow l1) (cutRow l2) (bK (cutRow l0) 0) [] V.zero V.zero) (setF (cutRow l0) (cutRow l1) (cutRow l2) (bK (cutRow l0) 0) [] V.zero V.zero) := by
    rw [bK_zero, HNL.out]
    exact T3
  clear T2 T3 hbz cy2' cy3' fy3' mB hly7
  generalize (W7.setCell ⟨y, 3, none⟩ (.slice (some ⟨W7.heap.size, 0, none⟩) nl nl)).alloc (.cells (zB nl) 4) = W8 at T ⊢
  generalize hl0 : cutRow l0 = L0 at *
  generalize hl1 : cutRow l1 = L1 at *
  generalize hl2 : cutRow l2 = L2 at *
  have hcl1 : L1.length ≤ 12 := by rw [← hl1]; exact cutRow_length l1
  have hcl2 : L2.length ≤ 12 := by rw [← hl2]; exact cutRow_length l2
  clear hl0 hl1 hl2
  go_wp2_with fail
  go_loopw [11] (fun i wr => ∃ (k : Nat) (S S' : Nat → Prop), k ≤ nl ∧ i = .int .i64 k ∧ Two W0 wr S S' g y (setF L0 L1 L2 (bK L0 k) [] V.zero V.zero) (setF L0 L1 L2 (bK L0 k) [] V.zero V.zero)) (fun i _ => nl - (intOf i).toNat)
  case atStart => exact ⟨0, S3, S4, Nat.zero_le _, rfl, T⟩
  case round =>
    clear T
    obtain ⟨k, S, S', hk, rfl, T⟩ := hrel
    obtain ⟨Al, nl', cl, cg2, rl⟩ := T.rowF
    obtain rfl : nl = nl' := by rw [← rl.1, ← HNL.out]; rfl
    by_cases hlt : k < nl
    · have hkb : k < (bK L0 k).length := by rw [bK_length, HNL.out]; exact hlt
      have hkb2 : k < (bK L0 (k + 1)).length := by rw [bK_length, HNL.out]; exact hlt
      have hkl : k < L0.length := by rw [HNL.out]; exact hlt
      obtain ⟨bl, ol, rfl, hbl, z0', z1', z2'⟩ := rl.at_ hlt
      have z0 : wr.cell? ⟨bl, ol + k * 3, none⟩ = some (.int .i64 L0[k].k) := z0'
      clear z0' z1' z2'
      have hset : (bK L0 k).set k (L0[k].k != 0) = bK L0 (k + 1) := by
        have := bK_set L0 k
        rw [List.getD_eq_getElem?_getD, List.getElem?_eq_getElem hkl] at this
        exact this
      have hget : (bK L0 (k + 1))[k] = (L0[k].k != 0) := by
        have e : ∀ (l : List Bool) (h : k < l.length), l = (bK L0 k).set k (L0[k].k != 0) → l[k] = (L0[k].k != 0) := by
          rintro l h rfl
          simp
        exact e _ _ hset.symm
      generalize L0[k].k = xk at *
      obtain ⟨bb, nn, cc, cg3, hnn, hcc, hsb, hbg, hbl2, cb, fb, S5, S6, T2, _⟩ := T.markF (j := k) hkb (xk != 0)
      have hnn : nn = nl := by rw [← hnn]; show (bK L0 k).length = nl; rw [bK_length, HNL.out]
      subst hnn
      have T2 : Two W0 ((wr.setCell ⟨bb, k, none⟩ (.bool (xk != 0))).drew) S5 S6 g y (setF L0 L1 L2 (bK L0 (k + 1)) [] V.zero V.zero) (setF L0 L1 L2 (bK L0 k) [] V.zero V.zero) := by rw [← hset]; exact T2
      have HSET := Lib.hid hset
      have HGET := Lib.hid hget
      have i0 : (0 : Int) ≤ (k : Int) := by omega
      have i1 : (k : Int) < (nn : Int) := by omega
      clear T hset hget hsb rl
      go_wp2_with fail
      go_region
      all_goals
        go_wp2_with fail
        generalize (wr.setCell ⟨bb, k, none⟩ (.bool (xk != 0))).drew = W9 at T2 ⊢
        obtain ⟨b2, n2', c2', cg3', hnn2, hcc2, _, hbg2, _, cb2', fb2, _⟩ := T2.markF (j := k) hkb2 (xk != 0)
        obtain ⟨b3, n3', c3', cy3, hnn3, hcc3, _, hby, _, cb3, fb3, S7, S8, T4, _⟩ := T2.markR (j := k) hkb (xk != 0)
        have cb2 : W9.cell? ⟨b2, k, none⟩ = some (.bool (xk != 0)) := by rw [← HGET.out]; exact cb2'
        clear cb2'
        have hnn2 : n2' = nn := by rw [← hnn2]; show (bK L0 (k + 1)).length = nn; rw [bK_length, HNL.out]
        have hnn3 : n3' = nn := by rw [← hnn3]; show (bK L0 k).length = nn; rw [bK_length, HNL.out]
        subst n2' n3'
        have T4 : Two W0 ((W9.setCell ⟨b3, k, none⟩ (.bool (xk != 0))).drew) S7 S8 g y (setF L0 L1 L2 (bK L0 (k + 1)) [] V.zero V.zero) (setF L0 L1 L2 (bK L0 (k + 1)) [] V.zero V.zero) := by rw [← HSET.out]; rw [HSET.out]; rw [← HSET.out] at T4; first | exact T4 | (rw [← HSET.out]; exact T4)
        have HT4 := Lib.hid T4
        clear T2 T4 cg3 cb fb z0 cg2
        go_region
        all_goals
          go_wp2
          go_roundw
          case rel => exact ⟨k + 1, S7, S8, by omega, by go_num, HT4.out⟩
          case measure => simp [intOf]; omega
    · have hkn : k = nl := by omega
      have hbd : bK L0 k = bK L0 nl := by rw [hkn]
      have T : Two W0 wr S S' g y (setF L0 L1 L2 (bK L0 nl) [] V.zero V.zero) (setF L0 L1 L2 (bK L0 nl) [] V.zero V.zero) := by rw [← hbd]; exact T
      clear hbd hkn rl
      go_wp2_with fail
      generalize bK L0 nl = BD at T
      obtain ⟨wo, rfl⟩ : ∃ wo : World, wo = wr := ⟨_, rfl⟩
      go_loopw [12] (fun i wr => ∃ (j : Nat) (S S' : Nat → Prop), j ≤ nb ∧ j ≤ 6 ∧ i = .int .i64 j ∧ Two W0 wr S S' g y (setF L0 L1 L2 BD (ps.take j) V.zero V.zero) (setF L0 L1 L2 BD (ps.take j) V.zero V.zero)) (fun i _ => 6 - (intOf i).toNat)
      case atStart => exact ⟨0, S, S', Nat.zero_le _, Nat.zero_le _, rfl, T⟩
      case round =>
        clear T
        obtain ⟨j, S, S', hj, hj6, rfl, T⟩ := hrel
        by_cases hltj : j < nb ∧ j < 6
        · obtain ⟨hltj, hl6⟩ := hltj
          obtain ⟨bp, op, eAb, hbp, p0', p1'⟩ := hp.at_ hltj
          subst eAb
          have hjp : j < ps.length := by rw [hp.1]; exact hltj
          have htk := take_snoc_p hjp
          have hlen : (ps.take j).length = j := by rw [List.length_take]; omega
          generalize ps[j]'_ = pj at *
          obtain ⟨pa, pb⟩ := pj
          have P0 := Lib.hid p0'
          have P1 := Lib.hid p1'
          clear p0' p1'
          have p0 : wr.cell? ⟨bp, op + j * 2, none⟩ = some (.int .i64 pa) := (T.bel.cell (p := ⟨bp, op + j * 2, none⟩) hbp).trans P0.out
          have p1 : wr.cell? ⟨bp, op + j * 2 + 1, none⟩ = some (.int .i64 pb) := (T.bel.cell (p := ⟨bp, op + j * 2 + 1, none⟩) hbp).trans P1.out
          have hbpw : bp < wr.heap.size := Nat.lt_of_lt_of_le hbp T.bel.size
          obtain ⟨A9, n9, k9, cg9, fg9, hk9, hcg, hnx⟩ := T.blkF
          have hlg : g < wr.heap.size := by obtain ⟨_, _, _, _, _, _, hs⟩ := T.ownF; exact T.lt hs
          have hall : ∀ w', Below wr.heap.size wr w' → (fun w' => w'.cell? ⟨g, 9, none⟩ = some (.slice A9 n9 k9) ∧ w'.cell? ⟨bp, op + j * 2, none⟩ = some (.int .i64 pa) ∧ w'.cell? ⟨bp, op + j * 2 + 1, none⟩ = some (.int .i64 pb)) w' := fun w' hb => ⟨(hb.cell (p := ⟨g, 9, none⟩) hlg).trans cg9, (hb.cell (p := ⟨bp, op + j * 2, none⟩) hbpw).trans p0, (hb.cell (p := ⟨bp, op + j * 2 + 1, none⟩) hbpw).trans p1⟩
          have i0 : (0 : Int) ≤ (j : Int) := by omega
          have i1 : (j : Int) < (nb : Int) := by omega
          have HTK := Lib.hid htk
          have HLEN := Lib.hid hlen
          have HCG := Lib.hid hcg
          have HNX := Lib.hid hnx
          have HK9 := Lib.hid hk9
          have HALL := Lib.hid hall
          clear T hcg hnx hk9 htk hlen hall
          go_wp2_with fail
          refine wp_region_noPanic ?_
          refine AnyBut.start (S := fun w' => w'.cell? ⟨g, 9, none⟩ = some (.slice A9 n9 k9) ∧ w'.cell? ⟨bp, op + j * 2, none⟩ = some (.int .i64 pa) ∧ w'.cell? ⟨bp, op + j * 2 + 1, none⟩ = some (.int .i64 pb)) 20 (by kernel_rfl) (HALL.out _ (Below.refl _ _).drew) (fun hHeld => ?_)
          have HWd : Below wr.heap.size wr wr.drew := (Below.refl _ _).drew
          generalize wr.drew = Wd at HWd hHeld ⊢
          refine AnyBut.take (i := 0) (v := ?_) (by rw [List.getElem?_toArray]; rfl) (by kernel_rfl) (by kernel_rfl) (by kernel_rfl) (by kernel_rfl) (fun _ _ _ h => h) (Or.inl ⟨by rfl, ?_⟩) (by assumption) ?_
          rotate_left 1
          · (intro w_ hSw; (try dsimp only at hSw); go_simp; try with_reducible rfl)
          try simp only [Act.put, List.setIfInBounds_toArray, List.set_cons_zero, List.set_cons_succ]
          refine AnyBut.take (i := 1) (v := ?_) (by rw [List.getElem?_toArray]; rfl) (by kernel_rfl) (by kernel_rfl) (by kernel_rfl) (by kernel_rfl) (fun _ _ _ h => h) (Or.inl ⟨by rfl, ?_⟩) (by assumption) ?_
          rotate_left 1
          · (intro w_ hSw; (try dsimp only at hSw); go_simp; try with_reducible rfl)
          try simp only [Act.put, List.setIfInBounds_toArray, List.set_cons_zero, List.set_cons_succ]
          refine AnyBut.take (i := 2) (v := ?_) (by rw [List.getElem?_toArray]; rfl) (by kernel_rfl) (by kernel_rfl) (by kernel_rfl) (by kernel_rfl) (fun _ _ _ h => h) (Or.inl ⟨by rfl, ?_⟩) (by assumption) ?_
          rotate_left 1
          · (intro w_ hSw; (try dsimp only at hSw); go_simp; try with_reducible rfl)
          try simp only [Act.put, List.setIfInBounds_toArray, List.set_cons_zero, List.set_cons_succ]
          refine AnyBut.take (i := 3) (v := ?_) (by rw [List.getElem?_toArray]; rfl) (by kernel_rfl) (by kernel_rfl) (by kernel_rfl) (by kernel_rfl) (fun _ _ _ h => h) (Or.inl ⟨by rfl, ?_⟩) (by assumption) ?_
          rotate_left 1
          · (intro w_ hSw; (try dsimp only at hSw); go_simp; try with_reducible rfl)
          try simp only [Act.put, List.setIfInBounds_toArray, List.set_cons_zero, List.set_cons_succ]
          refine AnyBut.take (i := 4) (v := ?_) (by rw [List.getElem?_toArray]; rfl) (by kernel_rfl) (by kernel_rfl) (by kernel_rfl) (by kernel_rfl) (fun _ _ _ h => h) (Or.inl ⟨by rfl, ?_⟩) (by assumption) ?_
          rotate_left 1
          · (intro w_ hSw; (try dsimp only at hSw); go_simp; try with_reducible rfl)
          try simp only [Act.put, List.setIfInBounds_toArray, List.set_cons_zero, List.set_cons_succ]
          refine AnyBut.take (i := 5) (v := ?_) (by rw [List.getElem?_toArray]; rfl) (by kernel_rfl) (by kernel_rfl) (by kernel_rfl) (by kernel_rfl) (fun _ _ _ h => h) (Or.inl ⟨by rfl, ?_⟩) (by assumption) ?_
          rotate_left 1
          · (intro w_ hSw; (try dsimp only at hSw); go_simp; try with_reducible rfl)
          try simp only [Act.put, List.setIfInBounds_toArray, List.set_cons_zero, List.set_cons_succ]
          refine AnyBut.take (i := 6) (v := ?_) (by rw [List.getElem?_toArray]; rfl) (by kernel_rfl) (by kernel_rfl) (by kernel_rfl) (by kernel_rfl) (fun _ _ _ h => h) (Or.inl ⟨by rfl, ?_⟩) (by assumption) ?_
          rotate_left 1
          · (intro w_ hSw; (try dsimp only at hSw); go_simp; try with_reducible rfl)
          try simp only [Act.put, List.setIfInBounds_toArray, List.set_cons_zero, List.set_cons_succ]
          refine AnyBut.take (i := 7) (v := ?_) (by rw [List.getElem?_toArray]; rfl) (by kernel_rfl) (by kernel_rfl) (by kernel_rfl) (by kernel_rfl) (fun _ _ _ h => h) (Or.inl ⟨by rfl, ?_⟩) (by assumption) ?_
          rotate_left 1
          · (intro w_ hSw; (try dsimp only at hSw); go_simp; try with_reducible rfl)
          try simp only [Act.put, List.setIfInBounds_toArray, List.set_cons_zero, List.set_cons_succ]
          refine AnyBut.take (i := 8) (v := ?_) (by rw [List.getElem?_toArray]; rfl) (by kernel_rfl) (by kernel_rfl) (by kernel_rfl) (by kernel_rfl) (fun _ _ _ h => h) (Or.inl ⟨by rfl, ?_⟩) (by assumption) ?_
          rotate_left 1
          · (intro w_ hSw; (try dsimp only at hSw); go_simp; try with_reducible rfl)
          try simp only [Act.put, List.setIfInBounds_toArray, List.set_cons_zero, List.set_cons_succ]
          refine AnyBut.take (i := 9) (v := ?_) (by rw [List.getElem?_toArray]; rfl) (by kernel_rfl) (by kernel_rfl) (by kernel_rfl) (by kernel_rfl) (fun _ _ _ h => h) (Or.inl ⟨by rfl, ?_⟩) (by assumption) ?_
          rotate_left 1
          · (intro w_ hSw; (try dsimp only at hSw); go_simp; try with_reducible rfl)
          try simp only [Act.put, List.setIfInBounds_toArray, List.set_cons_zero, List.set_cons_succ]
          refine AnyBut.take (i := 10) (v := ?_) (by rw [List.getElem?_toArray]; rfl) (by kernel_rfl) (by kernel_rfl) (by kernel_rfl) (by kernel_rfl) (fun _ _ _ h => h) (Or.inl ⟨by rfl, ?_⟩) (by assumption) ?_
          rotate_left 1
          · (intro w_ hSw; (try dsimp only at hSw); go_simp; try with_reducible rfl)
          try simp only [Act.put, List.setIfInBounds_toArray, List.set_cons_zero, List.set_cons_succ]
          refine AnyBut.take (i := 11) (v := ?_) (by rw [List.getElem?_toArray]; rfl) (by kernel_rfl) (by kernel_rfl) (by kernel_rfl) (by kernel_rfl) (fun _ _ _ h => h) (Or.inl ⟨by rfl, ?_⟩) (by assumption) ?_
          rotate_left 1
          · (intro w_ hSw; (try dsimp only at hSw); go_simp; try with_reducible rfl)
          try simp only [Act.put, List.setIfInBounds_toArray, List.set_cons_zero, List.set_cons_succ]
          refine AnyBut.take (i := 12) (v := ?_) (by rw [List.getElem?_toArray]; rfl) (by kernel_rfl) (by kernel_rfl) (by kernel_rfl) (by kernel_rfl) (fun _ _ _ h => h) (Or.inl ⟨by rfl, ?_⟩) (by assumption) ?_
          rotate_left 1
          · (intro w_ hSw; (try dsimp only at hSw); go_simp; try with_reducible rfl)
          try simp only [Act.put, List.setIfInBounds_toArray, List.set_cons_zero, List.set_cons_succ]
          refine AnyBut.take (i := 13) (v := ?_) (by rw [List.getElem?_toArray]; rfl) (by kernel_rfl) (by kernel_rfl) (by kernel_rfl) (by kernel_rfl) (fun _ _ _ h => h) (Or.inl ⟨by rfl, ?_⟩) (by assumption) ?_
          rotate_left 1
          · (intro w_ hSw; (try dsimp only at hSw); go_simp; try with_reducible rfl)
          try simp only [Act.put, List.setIfInBounds_toArray, List.set_cons_zero, List.set_cons_succ]
          refine AnyBut.take (i := 14) (v := ?_) (by rw [List.getElem?_toArray]; rfl) (by kernel_rfl) (by kernel_rfl) (by kernel_rfl) (by kernel_rfl) (fun _ _ _ h => h) (Or.inl ⟨by rfl, ?_⟩) (by assumption) ?_
          rotate_left 1
          · (intro w_ hSw; (try dsimp only at hSw); go_simp; try with_reducible rfl)
          try simp only [Act.put, List.setIfInBounds_toArray, List.set_cons_zero, List.set_cons_succ]
          refine AnyBut.take (i := 15) (v := ?_) (by rw [List.getElem?_toArray]; rfl) (by kernel_rfl) (by kernel_rfl) (by kernel_rfl) (by kernel_rfl) (fun _ _ _ h => h) (Or.inl ⟨by rfl, ?_⟩) (by assumption) ?_
          rotate_left 1
          · (intro w_ hSw; (try dsimp only at hSw); go_simp; try with_reducible rfl)
          try simp only [Act.put, List.setIfInBounds_toArray, List.set_cons_zero, List.set_cons_succ]
          refine AnyBut.ready (rs := [16]) (by kernel_rfl) (by simp) ?_
          refine ReadyBut.cons (by rw [List.getElem?_toArray]; rfl) (fun K hK => ?_) ReadyBut.nil
          go_simp
          have HWa : Below wr.heap.size wr (Wd.alloc (.cells #[.int .i64 pa, .int .i64 pb] 85)) := HWd.alloc HWd.size _
          have hk1 : RdK (Wd.alloc (.cells #[.int .i64 pa, .int .i64 pb] 85)) (some ⟨Wd.heap.size, 0, none⟩) 1 1 [(pa, pb)] := one_rdK Wd pa pb
          refine hK.out _ _ (HALL.out _ HWa) (fun hHeld => ?_)
          clear hK K
          try simp only [Act.put, List.setIfInBounds_toArray, List.set_cons_zero, List.set_cons_succ]
          refine AnyBut.ready (rs := [17]) (by kernel_rfl) (by simp) ?_
          refine ReadyBut.cons (by rw [List.getElem?_toArray]; rfl) (fun K hK => ?_) ReadyBut.nil
          refine step_appendK _ (by rfl) (.tmp 136) (.tmp 148) rfl (.slice A9 n9 k9) (ps.take j) rfl (by exact Own.new HK9.out HWa) (some ⟨Wd.heap.size, 0, none⟩) 1 1 [(pa, pb)] rfl hk1 (by have := HLEN.out; omega) ?_
          intro K' w1 hK' hg hb
          obtain ⟨A2', n2', c2', rfl, _⟩ := OwnK.rd hK'
          obtain ⟨c9', f9', hc9⟩ := HCG.out _ _ HWa hg
          have SA := And.intro c9' (And.intro ((hc9 ⟨bp, op + j * 2, none⟩ hbp).trans p0) ((hc9 ⟨bp, op + j * 2 + 1, none⟩ hbp).trans p1))
          have HT2 := Lib.hid (HNX.out _ _ _ _ HWa hK' hg hb)
          clear hK' hg hb hc9
          refine hK.out _ _ SA (fun hHeld => ?_)
          clear hK K
          try simp only [Act.put, List.setIfInBounds_toArray, List.set_cons_zero, List.set_cons_succ]
          refine AnyBut.ready (rs := [18]) (by kernel_rfl) (by simp) ?_
          refine ReadyBut.cons (by rw [List.getElem?_toArray]; rfl) (fun K hK => ?_) ReadyBut.nil
          go_simp
          refine hK.out _ _ hHeld (fun hHeld => ?_)
          clear hK K
          try simp only [Act.put, List.setIfInBounds_toArray, List.set_cons_zero, List.set_cons_succ]
          refine AnyBut.take (i := 19) (v := ?_) (by rw [List.getElem?_toArray]; rfl) (by kernel_rfl) (by kernel_rfl) (by kernel_rfl) (by kernel_rfl) (fun _ _ _ h => h) (Or.inl ⟨by rfl, ?_⟩) (by assumption) ?_
          rotate_left 1
          · (intro w_ hSw; (try dsimp only at hSw); go_simp; try with_reducible rfl)
          try simp only [Act.put, List.setIfInBounds_toArray, List.set_cons_zero, List.set_cons_succ]
          refine AnyBut.ready (rs := [20]) (by kernel_rfl) (by simp) ?_
          refine ReadyBut.last (by rw [List.getElem?_toArray]; rfl) (fun K hK => ?_)
          go_simp
          refine hK.out _ _ ?_
          clear hK K
          try simp only [Act.put, List.setIfInBounds_toArray, List.set_cons_zero, List.set_cons_succ]
          refine AnyBut.done (by kernel_rfl) ?_ _
          refine NoPanic.normal ?_
          go_wp2_with fail
          obtain ⟨S5, S6, T2, _⟩ := HT2.out
          have T2 : Two W0 (w1.setCell ⟨g, 9, none⟩ (.slice A2' n2' c2')) S5 S6 g y (setF L0 L1 L2 BD (ps.take j ++ [(pa, pb)]) V.zero V.zero) (setF L0 L1 L2 BD (ps.take j) V.zero V.zero) := T2
          clear HCG HNX HK9 HALL HT2 cg9 fg9 c9' f9' p0 p1 SA hHeld HWa hk1 HWd
          generalize w1.setCell ⟨g, 9, none⟩ (.slice A2' n2' c2') = W9 at T2 ⊢
          have p0 : W9.cell? ⟨bp, op + j * 2, none⟩ = some (.int .i64 pa) := (T2.bel.cell (p := ⟨bp, op + j * 2, none⟩) hbp).trans P0.out
          have p1 : W9.cell? ⟨bp, op + j * 2 + 1, none⟩ = some (.int .i64 pb) := (T2.bel.cell (p := ⟨bp, op + j * 2 + 1, none⟩) hbp).trans P1.out
          have hbp9 : bp < W9.heap.size := Nat.lt_of_lt_of_le hbp T2.bel.size
          obtain ⟨A9', n9', k9', cg9, fg9, hk9, hcg, hnx⟩ := T2.blkR
          have hly : y < W9.heap.size := by obtain ⟨_, _, _, _, _, _, hs⟩ := T2.ownR; exact T2.lt' hs
          have hall : ∀ w', Below W9.heap.size W9 w' → (fun w' => w'.cell? ⟨y, 9, none⟩ = some (.slice A9' n9' k9') ∧ w'.cell? ⟨bp, op + j * 2, none⟩ = some (.int .i64 pa) ∧ w'.cell? ⟨bp, op + j * 2 + 1, none⟩ = some (.int .i64 pb)) w' := fun w' hb => ⟨(hb.cell (p := ⟨y, 9, none⟩) hly).trans cg9, (hb.cell (p := ⟨bp, op + j * 2, none⟩) hbp9).trans p0, (hb.cell (p := ⟨bp, op + j * 2 + 1, none⟩) hbp9).trans p1⟩
          have HCG := Lib.hid hcg
          have HNX := Lib.hid hnx
          have HK9 := Lib.hid hk9
          have HALL := Lib.hid hall
          clear T2 hcg hnx hk9 hlg hall
          refine wp_region_noPanic ?_
          refine AnyBut.start (S := fun w' => w'.cell? ⟨y, 9, none⟩ = some (.slice A9' n9' k9') ∧ w'.cell? ⟨bp, op + j * 2, none⟩ = some (.int .i64 pa) ∧ w'.cell? ⟨bp, op + j * 2 + 1, none⟩ = some (.int .i64 pb)) 20 (by kernel_rfl) (HALL.out _ (Below.refl _ _).drew) (fun hHeld => ?_)
          have HWd : Below W9.heap.size W9 W9.drew := (Below.refl _ _).drew
          generalize W9.drew = Wd at HWd hHeld ⊢
          refine AnyBut.take (i := 0) (v := ?_) (by rw [List.getElem?_toArray]; rfl) (by kernel_rfl) (by kernel_rfl) (by kernel_rfl) (by kernel_rfl) (fun _ _ _ h => h) (Or.inl ⟨by rfl, ?_⟩) (by assumption) ?_
          rotate_left 1
          · (intro w_ hSw; (try dsimp only at hSw); go_simp; try with_reducible rfl)
          try simp only [Act.put, List.setIfInBounds_toArray, List.set_cons_zero, List.set_cons_succ]
          refine AnyBut.take (i := 1) (v := ?_) (by rw [List.getElem?_toArray]; rfl) (by kernel_rfl) (by kernel_rfl) (by kernel_rfl) (by kernel_rfl) (fun _ _ _ h => h) (Or.inl ⟨by rfl, ?_⟩) (by assumption) ?_
          rotate_left 1
          · (intro w_ hSw; (try dsimp only at hSw); go_simp; try with_reducible rfl)
          try simp only [Act.put, List.setIfInBounds_toArray, List.set_cons_zero, List.set_cons_succ]
          refine AnyBut.take (i := 2) (v := ?_) (by rw [List.getElem?_toArray]; rfl) (by kernel_rfl) (by kernel_rfl) (by kernel_rfl) (by kernel_rfl) (fun _ _ _ h => h) (Or.inl ⟨by rfl, ?_⟩) (by assumption) ?_
          rotate_left 1
          · (intro w_ hSw; (try dsimp only at hSw); go_simp; try with_reducible rfl)
          try simp only [Act.put, List.setIfInBounds_toArray, List.set_cons_zero, List.set_cons_succ]
          refine AnyBut.take (i := 3) (v := ?_) (by rw [List.getElem?_toArray]; rfl) (by kernel_rfl) (by kernel_rfl) (by kernel_rfl) (by kernel_rfl) (fun _ _ _ h => h) (Or.inl ⟨by rfl, ?_⟩) (by assumption) ?_
          rotate_left 1
          · (intro w_ hSw; (try dsimp only at hSw); go_simp; try with_reducible rfl)
          try simp only [Act.put, List.setIfInBounds_toArray, List.set_cons_zero, List.set_cons_succ]
          refine AnyBut.take (i := 4) (v := ?_) (by rw [List.getElem?_toArray]; rfl) (by kernel_rfl) (by kernel_rfl) (by kernel_rfl) (by kernel_rfl) (fun _ _ _ h => h) (Or.inl ⟨by rfl, ?_⟩) (by assumption) ?_
          rotate_left 1
          · (intro w_ hSw; (try dsimp only at hSw); go_simp; try with_reducible rfl)
          try simp only [Act.put, List.setIfInBounds_toArray, List.set_cons_zero, List.set_cons_succ]
          refine AnyBut.take (i := 5) (v := ?_) (by rw [List.getElem?_toArray]; rfl) (by kernel_rfl) (by kernel_rfl) (by kernel_rfl) (by kernel_rfl) (fun _ _ _ h => h) (Or.inl ⟨by rfl, ?_⟩) (by assumption) ?_
          rotate_left 1
          · (intro w_ hSw; (try dsimp only at hSw); go_simp; try with_reducible rfl)
          try simp only [Act.put, List.setIfInBounds_toArray, List.set_cons_zero, List.set_cons_succ]
          refine AnyBut.take (i := 6) (v := ?_) (by rw [List.getElem?_toArray]; rfl) (by kernel_rfl) (by kernel_rfl) (by kernel_rfl) (by kernel_rfl) (fun _ _ _ h => h) (Or.inl ⟨by rfl, ?_⟩) (by assumption) ?_
          rotate_left 1
          · (intro w_ hSw; (try dsimp only at hSw); go_simp; try with_reducible rfl)
          try simp only [Act.put, List.setIfInBounds_toArray, List.set_cons_zero, List.set_cons_succ]
          refine AnyBut.take (i := 7) (v := ?_) (by rw [List.getElem?_toArray]; rfl) (by kernel_rfl) (by kernel_rfl) (by kernel_rfl) (by kernel_rfl) (fun _ _ _ h => h) (Or.inl ⟨by rfl, ?_⟩) (by assumption) ?_
          rotate_left 1
          · (intro w_ hSw; (try dsimp only at hSw); go_simp; try with_reducible rfl)
          try simp only [Act.put, List.setIfInBounds_toArray, List.set_cons_zero, List.set_cons_succ]
          refine AnyBut.take (i := 8) (v := ?_) (by rw [List.getElem?_toArray]; rfl) (by kernel_rfl) (by kernel_rfl) (by kernel_rfl) (by kernel_rfl) (fun _ _ _ h => h) (Or.inl ⟨by rfl, ?_⟩) (by assumption) ?_
          rotate_left 1
          · (intro w_ hSw; (try dsimp only at hSw); go_simp; try with_reducible rfl)
          try simp only [Act.put, List.setIfInBounds_toArray, List.set_cons_zero, List.set_cons_succ]
          refine AnyBut.take (i := 9) (v := ?_) (by rw [List.getElem?_toArray]; rfl) (by kernel_rfl) (by kernel_rfl) (by kernel_rfl) (by kernel_rfl) (fun _ _ _ h => h) (Or.inl ⟨by rfl, ?_⟩) (by assumption) ?_
          rotate_left 1
          · (intro w_ hSw; (try dsimp only at hSw); go_simp; try with_reducible rfl)
          try simp only [Act.put, List.setIfInBounds_toArray, List.set_cons_zero, List.set_cons_succ]
          refine AnyBut.take (i := 10) (v := ?_) (by rw [List.getElem?_toArray]; rfl) (by kernel_rfl) (by kernel_rfl) (by kernel_rfl) (by kernel_rfl) (fun _ _ _ h => h) (Or.inl ⟨by rfl, ?_⟩) (by assumption) ?_
          rotate_left 1
          · (intro w_ hSw; (try dsimp only at hSw); go_simp; try with_reducible rfl)
          try simp only [Act.put, List.setIfInBounds_toArray, List.set_cons_zero, List.set_cons_succ]
          refine AnyBut.take (i := 11) (v := ?_) (by rw [List.getElem?_toArray]; rfl) (by kernel_rfl) (by kernel_rfl) (by kernel_rfl) (by kernel_rfl) (fun _ _ _ h => h) (Or.inl ⟨by rfl, ?_⟩) (by assumption) ?_
          rotate_left 1
          · (intro w_ hSw; (try dsimp only at hSw); go_simp; try with_reducible rfl)
          try simp only [Act.put, List.setIfInBounds_toArray, List.set_cons_zero, List.set_cons_succ]
          refine AnyBut.take (i := 12) (v := ?_) (by rw [List.getElem?_toArray]; rfl) (by kernel_rfl) (by kernel_rfl) (by kernel_rfl) (by kernel_rfl) (fun _ _ _ h => h) (Or.inl ⟨by rfl, ?_⟩) (by assumption) ?_
          rotate_left 1
          · (intro w_ hSw; (try dsimp only at hSw); go_simp; try with_reducible rfl)
          try simp only [Act.put, List.setIfInBounds_toArray, List.set_cons_zero, List.set_cons_succ]
          refine AnyBut.take (i := 13) (v := ?_) (by rw [List.getElem?_toArray]; rfl) (by kernel_rfl) (by kernel_rfl) (by kernel_rfl) (by kernel_rfl) (fun _ _ _ h => h) (Or.inl ⟨by rfl, ?_⟩) (by assumption) ?_
          rotate_left 1
          · (intro w_ hSw; (try dsimp only at hSw); go_simp; try with_reducible rfl)
          try simp only [Act.put, List.setIfInBounds_toArray, List.set_cons_zero, List.set_cons_succ]
          refine AnyBut.take (i := 14) (v := ?_) (by rw [List.getElem?_toArray]; rfl) (by kernel_rfl) (by kernel_rfl) (by kernel_rfl) (by kernel_rfl) (fun _ _ _ h => h) (Or.inl ⟨by rfl, ?_⟩) (by assumption) ?_
          rotate_left 1
          · (intro w_ hSw; (try dsimp only at hSw); go_simp; try with_reducible rfl)
          try simp only [Act.put, List.setIfInBounds_toArray, List.set_cons_zero, List.set_cons_succ]
          refine AnyBut.take (i := 15) (v := ?_) (by rw [List.getElem?_toArray]; rfl) (by kernel_rfl) (by kernel_rfl) (by kernel_rfl) (by kernel_rfl) (fun _ _ _ h => h) (Or.inl ⟨by rfl, ?_⟩) (by assumption) ?_
          rotate_left 1
          · (intro w_ hSw; (try dsimp only at hSw); go_simp; try with_reducible rfl)
          try simp only [Act.put, List.setIfInBounds_toArray, List.set_cons_zero, List.set_cons_succ]
          refine AnyBut.ready (rs := [16]) (by kernel_rfl) (by simp) ?_
          refine ReadyBut.cons (by rw [List.getElem?_toArray]; rfl) (fun K hK => ?_) ReadyBut.nil
          go_simp
          have HWa : Below W9.heap.size W9 (Wd.alloc (.cells #[.int .i64 pa, .int .i64 pb] 86)) := HWd.alloc HWd.size _
          have hk1 : RdK (Wd.alloc (.cells #[.int .i64 pa, .int .i64 pb] 86)) (some ⟨Wd.heap.size, 0, none⟩) 1 1 [(pa, pb)] := one_rdKR Wd pa pb
          refine hK.out _ _ (HALL.out _ HWa) (fun hHeld => ?_)
          clear hK K
          try simp only [Act.put, List.setIfInBounds_toArray, List.set_cons_zero, List.set_cons_succ]
          refine AnyBut.ready (rs := [17]) (by kernel_rfl) (by simp) ?_
          refine ReadyBut.cons (by rw [List.getElem?_toArray]; rfl) (fun K hK => ?_) ReadyBut.nil
          refine step_appendKR _ (by rfl) (.tmp 156) (.tmp 168) rfl (.slice A9' n9' k9') (ps.take j) rfl (by exact Own.new HK9.out HWa) (some ⟨Wd.heap.size, 0, none⟩) 1 1 [(pa, pb)] rfl hk1 (by have := HLEN.out; omega) ?_
          intro K' w1' hK' hg hb
          obtain ⟨A3', n3', c3', rfl, _⟩ := OwnK.rd hK'
          obtain ⟨c9', f9', hc9⟩ := HCG.out _ _ HWa hg
          have SA := And.intro c9' (And.intro ((hc9 ⟨bp, op + j * 2, none⟩ hbp).trans p0) ((hc9 ⟨bp, op + j * 2 + 1, none⟩ hbp).trans p1))
          have HT2 := Lib.hid (HNX.out _ _ _ _ HWa hK' hg hb)
          clear hK' hg hb hc9
          refine hK.out _ _ SA (fun hHeld => ?_)
          clear hK K
          try simp only [Act.put, List.setIfInBounds_toArray, List.set_cons_zero, List.set_cons_succ]
          refine AnyBut.ready (rs := [18]) (by kernel_rfl) (by simp) ?_
          refine ReadyBut.cons (by rw [List.getElem?_toArray]; rfl) (fun K hK => ?_) ReadyBut.nil
          go_simp
          refine hK.out _ _ hHeld (fun hHeld => ?_)
          clear hK K
          try simp only [Act.put, List.setIfInBounds_toArray, List.set_cons_zero, List.set_cons_succ]
          refine AnyBut.take (i := 19) (v := ?_) (by rw [List.getElem?_toArray]; rfl) (by kernel_rfl) (by kernel_rfl) (by kernel_rfl) (by kernel_rfl) (fun _ _ _ h => h) (Or.inl ⟨by rfl, ?_⟩) (by assumption) ?_
          rotate_left 1
          · (intro w_ hSw; (try dsimp only at hSw); go_simp; try with_reducible rfl)
          try simp only [Act.put, List.setIfInBounds_toArray, List.set_cons_zero, List.set_cons_succ]
          refine AnyBut.ready (rs := [20]) (by kernel_rfl) (by simp) ?_
          refine ReadyBut.last (by rw [List.getElem?_toArray]; rfl) (fun K hK => ?_)
          go_simp
          refine hK.out _ _ ?_
          clear hK K
          try simp only [Act.put, List.setIfInBounds_toArray, List.set_cons_zero, List.set_cons_succ]
          refine AnyBut.done (by kernel_rfl) ?_ _
          refine NoPanic.normal ?_
          go_wp2_with fail
          obtain ⟨S7, S8, T4, _⟩ := HT2.out
          have T4 : Two W0 (w1'.setCell ⟨y, 9, none⟩ (.slice A3' n3' c3')) S7 S8 g y (setF L0 L1 L2 BD (ps.take j ++ [(pa, pb)]) V.zero V.zero) (setF L0 L1 L2 BD (ps.take j ++ [(pa, pb)]) V.zero V.zero) := T4
          rw [HTK.out] at T4
          have HT4 := Lib.hid T4
          clear T4
          go_roundw
          case rel => exact ⟨j + 1, S7, S8, by omega, by omega, by go_num, HT4.out⟩
          case measure => simp [intOf]; omega
        · have hbl6 : (ps.take j).length ≤ 6 := by rw [List.length_take]; omega
          generalize ps.take j = BL at *
          obtain ⟨wq, rfl⟩ : ∃ wq : World, wq = wr := ⟨_, rfl⟩
          by_cases hjn : j < nb
          all_goals
            first
              | have hj2 : ¬ j < 6 := by omega
              | skip
            have y2 : wq.cell? ⟨w.heap.size, 2, none⟩ = some (.slice A2 n2 c2) := (T.bel.cell (p := ⟨w.heap.size, 2, none⟩) hlx).trans X2.out
            go_wp2_with fail
            clear y2 hltj
            refine (first_any A2 n2 c2 l2 _ (h2.new T.bel)).mono ?_
            rintro e ws0 ⟨rfl, hbN⟩
            generalize hsp : l2.head?.getD V.zero = sp
            have Hsp := Lib.hid hsp
            clear hsp
            have TB := T.new hbN
            obtain ⟨L, B, C, X, K, hbk, _⟩ := TB.ownF
            have g5 : ws0.cell? ⟨g, 5, none⟩ = some (.int .i64 V.zero.k) := hbk.cell 5
            have f5 : ws0.frozen? ⟨g, 5, none⟩ = false := hbk.frozen 5
            have g6 : ws0.cell? ⟨g, 6, none⟩ = some (.int .i64 V.zero.n) := hbk.cell 6
            have f6 : ws0.frozen? ⟨g, 6, none⟩ = false := hbk.frozen 6
            have g7 : ws0.cell? ⟨g, 7, none⟩ = some (.string V.zero.s) := hbk.cell 7
            have f7 : ws0.frozen? ⟨g, 7, none⟩ = false := hbk.frozen 7
            have y2 : ws0.cell? ⟨w.heap.size, 2, none⟩ = some (.slice A2 n2 c2) := (TB.bel.cell (p := ⟨w.heap.size, 2, none⟩) hlx).trans X2.out
            obtain ⟨S1, S2, T2, _⟩ := TB.spaceF sp
            have T2 : Two W0 (((ws0.setCell ⟨g, 5, none⟩ (.int .i64 sp.k)).setCell ⟨g, 6, none⟩ (.int .i64 sp.n)).setCell ⟨g, 7, none⟩ (.string sp.s)) S1 S2 g y (setF L0 L1 L2 BD BL sp V.zero) (setF L0 L1 L2 BD BL V.zero V.zero) := T2
            clear T TB hbN hbk
            go_wp2_with fail
            generalize ((ws0.setCell ⟨g, 5, none⟩ (.int .i64 sp.k)).setCell ⟨g, 6, none⟩ (.int .i64 sp.n)).setCell ⟨g, 7, none⟩ (.string sp.s) = Wk0 at T2 ⊢
            have T := T2
            clear T2 g5 f5 g6 f6 g7 f7 y2
            refine (first_any A2 n2 c2 l2 _ (h2.new T.bel)).mono ?_
            rintro e ws1 ⟨rfl, hbN⟩
            rw [Hsp.out]
            have TB := T.new hbN
            obtain ⟨L, B, C, X, K, hbk, _⟩ := TB.ownR
            have g5 : ws1.cell? ⟨y, 5, none⟩ = some (.int .i64 V.zero.k) := hbk.cell 5
            have f5 : ws1.frozen? ⟨y, 5, none⟩ = false := hbk.frozen 5
            have g6 : ws1.cell? ⟨y, 6, none⟩ = some (.int .i64 V.zero.n) := hbk.cell 6
            have f6 : ws1.frozen? ⟨y, 6, none⟩ = false := hbk.frozen 6
            have g7 : ws1.cell? ⟨y, 7, none⟩ = some (.string V.zero.s) := hbk.cell 7
            have f7 : ws1.frozen? ⟨y, 7, none⟩ = false := hbk.frozen 7
            have y1 : ws1.cell? ⟨w.heap.size, 1, none⟩ = some (.slice A1 n1 c1) := (TB.bel.cell (p := ⟨w.heap.size, 1, none⟩) hlx).trans X1.out
            obtain ⟨S1, S2, T2, _⟩ := TB.spaceR sp
            have T2 : Two W0 (((ws1.setCell ⟨y, 5, none⟩ (.int .i64 sp.k)).setCell ⟨y, 6, none⟩ (.int .i64 sp.n)).setCell ⟨y, 7, none⟩ (.string sp.s)) S1 S2 g y (setF L0 L1 L2 BD BL sp V.zero) (setF L0 L1 L2 BD BL sp V.zero) := T2
            clear T TB hbN hbk
            go_wp2_with fail
            generalize ((ws1.setCell ⟨y, 5, none⟩ (.int .i64 sp.k)).setCell ⟨y, 6, none⟩ (.int .i64 sp.n)).setCell ⟨y, 7, none⟩ (.string sp.s) = Wk1 at T2 ⊢
            have T := T2
            clear T2 g5 f5 g6 f6 g7 f7 y1
            refine (first_any A1 n1 c1 l1 _ (h1.new T.bel)).mono ?_
            rintro e ws2 ⟨rfl, hbN⟩
            generalize hkp : l1.head?.getD V.zero = kp
            have Hkp := Lib.hid hkp
            clear hkp
            have TB := T.new hbN
            obtain ⟨L, B, C, X, K, hbk, _⟩ := TB.ownF
            have g11 : ws2.cell? ⟨g, 11, none⟩ = some (.int .i64 V.zero.k) := hbk.cell 11
            have f11 : ws2.frozen? ⟨g, 11, none⟩ = false := hbk.frozen 11
            have g12 : ws2.cell? ⟨g, 12, none⟩ = some (.int .i64 V.zero.n) := hbk.cell 12
            have f12 : ws2.frozen? ⟨g, 12, none⟩ = false := hbk.frozen 12
            have g13 : ws2.cell? ⟨g, 13, none⟩ = some (.string V.zero.s) := hbk.cell 13
            have f13 : ws2.frozen? ⟨g, 13, none⟩ = false := hbk.frozen 13
            have y1 : ws2.cell? ⟨w.heap.size, 1, none⟩ = some (.slice A1 n1 c1) := (TB.bel.cell (p := ⟨w.heap.size, 1, none⟩) hlx).trans X1.out
            obtain ⟨S1, S2, T2, _⟩ := TB.keepF kp
            have T2 : Two W0 (((ws2.setCell ⟨g, 11, none⟩ (.int .i64 kp.k)).setCell ⟨g, 12, none⟩ (.int .i64 kp.n)).setCell ⟨g, 13, none⟩ (.string kp.s)) S1 S2 g y (setF L0 L1 L2 BD BL sp kp) (setF L0 L1 L2 BD BL sp V.zero) := T2
            clear T TB hbN hbk
            go_wp2_with fail
            generalize ((ws2.setCell ⟨g, 11, none⟩ (.int .i64 kp.k)).setCell ⟨g, 12, none⟩ (.int .i64 kp.n)).setCell ⟨g, 13, none⟩ (.string kp.s) = Wk2 at T2 ⊢
            have T := T2
            clear T2 g11 f11 g12 f12 g13 f13 y1
            refine (first_any A1 n1 c1 l1 _ (h1.new T.bel)).mono ?_
            rintro e ws3 ⟨rfl, hbN⟩
            rw [Hkp.out]
            have TB := T.new hbN
            obtain ⟨L, B, C, X, K, hbk, _⟩ := TB.ownR
            have g11 : ws3.cell? ⟨y, 11, none⟩ = some (.int .i64 V.zero.k) := hbk.cell 11
            have f11 : ws3.frozen? ⟨y, 11, none⟩ = false := hbk.frozen 11
            have g12 : ws3.cell? ⟨y, 12, none⟩ = some (.int .i64 V.zero.n) := hbk.cell 12
            have f12 : ws3.frozen? ⟨y, 12, none⟩ = false := hbk.frozen 12
            have g13 : ws3.cell? ⟨y, 13, none⟩ = some (.string V.zero.s) := hbk.cell 13
            have f13 : ws3.frozen? ⟨y, 13, none⟩ = false := hbk.frozen 13
            obtain ⟨S1, S2, T2, _⟩ := TB.keepR kp
            have T2 : Two W0 (((ws3.setCell ⟨y, 11, none⟩ (.int .i64 kp.k)).setCell ⟨y, 12, none⟩ (.int .i64 kp.n)).setCell ⟨y, 13, none⟩ (.string kp.s)) S1 S2 g y (setF L0 L1 L2 BD BL sp kp) (setF L0 L1 L2 BD BL sp kp) := T2
            clear T TB hbN hbk
            go_wp2_with fail
            generalize ((ws3.setCell ⟨y, 11, none⟩ (.int .i64 kp.k)).setCell ⟨y, 12, none⟩ (.int .i64 kp.n)).setCell ⟨y, 13, none⟩ (.string kp.s) = Wk3 at T2 ⊢
            have T := T2
            clear T2 g11 f11 g12 f12 g13 f13
            have FT : (setF L0 L1 L2 BD BL sp kp).Fits 12 6 24 := ⟨hcl2, hbl6, by show L0.length + L1.length ≤ 24; omega⟩
            generalize setF L0 L1 L2 BD BL sp kp = FF at T FT
            obtain ⟨wz, hwz⟩ : ∃ wz : World, wz = Wk3 := ⟨_, rfl⟩
            subst hwz
            go_loopw [13] (fun i wr => ∃ (k : Nat) (S S' : Nat → Prop) (F : Fr), k ≤ n ∧ k ≤ 20 ∧ i = .int .i64 k ∧ Two W0 wr S S' g y F F ∧ F.Fits (12 + 12 * k) (6 + k) 24) (fun i _ => 20 - (intOf i).toNat)
            case atStart => exact ⟨0, _, _, FF, Nat.zero_le _, Nat.zero_le _, rfl, T, FT⟩
            case round =>
              clear T FT
              obtain ⟨k, S, S', F, hk, hk20, rfl, T, hf⟩ := hrel
              by_cases hlt : k < n ∧ k < 20
              · obtain ⟨hlt, hl40⟩ := hlt
                obtain ⟨b, o, A', n', c', rfl, hb, q0, q1, q2, hr, hn1, hn2⟩ := (hA.new T.bel).2.2.2 k (by rw [hA.2.2.1]; exact hlt)
                generalize cs[k]'_ = C at *
                have hff := hf.mono (v' := 900000) (b' := 900000) (l' := 1000) (by omega) (by omega) (by omega)
                have hf2 := Fr.did_fits hf (C.d.tmod 11 % 11) C.n C.l
                have HF2 := Lib.hid hf2
                clear hf2 hf
                go_wp2_with fail
                refine (both_any W0 wr S S' g y F C.d C.n A' n' c' C.l T hr hff ⟨hn1, hn2⟩).mono ?_
                rintro e w6 ⟨rfl, U, U', T6, _⟩
                clear T q0 q1 q2 hr hff
                go_wp2_with fail
                refine (alike_any g y _ U U' w6 T6.f T6.r).mono ?_
                rintro e w7 ⟨rfl, q, rfl⟩
                have T7 := T6.new (below_drewN (Below.refl _ _) q)
                have HT7 := Lib.hid T7
                clear T6 T7
                go_wp2
                go_roundw
                case rel => exact ⟨k + 1, U, U', _, by omega, by omega, by go_num, HT7.out, by have := HF2.out; exact this.mono (by omega) (by omega) (by omega)⟩
                case measure => simp [intOf]; omega
              · have hfv := hf.v
                have hfl := hf.l
                have hbound : F.locals.length + F.cells.length + F.values.length ≤ 1000000 := by omega
                clear hf
                by_cases hkn : k < n
                all_goals
                  first
                    | have hk2 : ¬ k < 20 := by omega
                    | skip
                  go_wp2_with fail
                  refine (held_any g F S _ T.f hbound).mono ?_
                  rintro e wh ⟨u, rfl, hu⟩
                  have T4 := T.new hu.bel
                  obtain ⟨A4, n4, c4, rfl, hr4, _⟩ := hu.own.rd
                  clear T hu
                  go_wp2_with fail
                  refine (rheld_any y F S' _ T4.r hbound).mono ?_
                  rintro e wi ⟨u, rfl, hu⟩
                  have T5 := T4.new hu.bel
                  have hr4 := hr4.new hu.bel
                  obtain ⟨A5, n5, c5, rfl, hr5, _⟩ := hu.own.rd
                  have hrow := (row_same A4 A5 n4 n5 c4 c5 _ _ wi hr4 hr5).mono (R' := fun e w' => e = .returned (.bool true) ∧ Below wi.heap.size wi w') fun e w' ⟨h1, q, h2⟩ => ⟨by rw [h1, rowSame_self], by rw [h2]; exact below_drewN (Below.refl _ _) q⟩
                  have HROW := Lib.hid hrow
                  clear T4 hr4 hr5 hrow hu
                  go_wp2_with (go_at_call 24; refine HROW.out.mono ?_; rintro e wj ⟨rfl, hb6⟩; have HB6 := Lib.hid hb6; clear hb6)
                  go_ret
                  exact ⟨rfl, HW0.trans ((T5.new HB6.out).bel.mono HW0.size)⟩

end Go.Proofs.Ythdkloojhenlkaa
