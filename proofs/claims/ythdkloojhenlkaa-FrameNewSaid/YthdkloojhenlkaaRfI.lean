/- The reference's Handle. -/
import Derived.Test.YthdkloojhenlkaaRfG
import Derived.Test.YthdkloojhenlkaaOrd
namespace Go.Proofs.Ythdkloojhenlkaa
open Go.RowKit
attribute [local go_sem high] guardV eqV neqV
attribute [local go_sem] V.v

theorem newrow1 {w w1 : World} (hb : Below w.heap.size w w1) : NewRow w (w1.alloc (.cells #[] 44)) (.slice (some ⟨w1.heap.size, 0, none⟩) 0 0) [] :=
  ⟨empty_own w1, fun b e => by have := hb.size; simp [Value.ownBlock] at e; omega, hb.alloc hb.size _⟩

theorem newrowB {w u : World} (hb : Below w.heap.size w u) {e0 : Nat} (he : e0 = u.heap.size) : NewRow w (u.alloc (.cells #[] 44)) (.slice (some ⟨e0, 0, none⟩) 0 0) [] := by
  subst he
  exact newrow1 hb

set_option maxRecDepth 100000 in
set_option maxHeartbeats 2000000 in
theorem rhandle_yes (g : Nat) (F : Fr) (S : Nat → Prop) (x : V) (p : Int) (hh : Nat) (w : World) (hF : IsFr 82 86 w S g F) (hc : F.blocks.getLast? = some (p, (hh : Int))) (hle : hh ≤ F.values.length) (hlen : F.values.length ≤ 1000000) (hlen2 : F.blocks.length ≤ 1000000) :
    Calls Try.prog 51 #[.pointer (some ⟨g, 0, none⟩), x.v] w fun e w' => e = .returned (.bool true) ∧
      IsFr 82 86 w' (Grew S w w') g { F with blocks := F.blocks.dropLast, values := F.values.take hh ++ [x], pc := p } ∧ Mod S w w' := by
  have Hl := Lib.hid (fun w' (hb : Below w.heap.size w w') => rleave_any g F S w' (hF.new hb) hlen2)
  have HF := Lib.hid hF
  obtain ⟨L, B, C, X, K, h, hS, hSl⟩ := hF
  have c8 : w.cell? ⟨g, 8, none⟩ = some X := h.blk.cell 8
  have c9 : w.cell? ⟨g, 9, none⟩ = some K := h.blk.cell 9
  have hlt := h.blk.lt
  obtain ⟨A, n, c, rfl, hr, hA⟩ := h.x.rd
  obtain ⟨A', n', c', rfl, hr', hA'⟩ := h.k.rd
  have hn := hr.le
  have hn2 := hr'.2.1
  have hn3 := hr'.2.2.1
  have hpos : 1 ≤ n' := by
    have := hr'.1
    cases hb : F.blocks with
    | nil => rw [hb] at hc; simp at hc
    | cons => rw [hb] at this; simp at this; omega
  have hhn : hh ≤ n := by rw [← hr.1]; exact hle
  obtain ⟨b', o', rfl, hb', q0, q1⟩ := hr'.at_ (i := n' - 1) (by omega)
  have eK : F.blocks[n' - 1]'(by rw [hr'.1]; omega) = (p, (hh : Int)) := by
    have hl := hr'.1
    rw [List.getLast?_eq_getElem?, List.getElem?_eq_getElem (by omega)] at hc
    injection hc with hc
    rw [← hc]
    congr 1
    omega
  rw [eK] at q0 q1
  clear eK
  have hie : (!F.blocks.isEmpty) = true := by
    cases hb : F.blocks with
    | nil => rw [hb] at hc; simp at hc
    | cons => rfl
  have HIE := Lib.hid hie
  have HS := Lib.hid hS
  have HSl := Lib.hid hSl
  have hns : ∀ i, w.heap.size ≤ i → ¬ S i := fun i hi h => by have := hSl i h; omega
  have HC := Lib.hid hc
  have d1 : decide (((n' : Int) - 1) < 0) = false := by simp; omega
  have d2 : decide ((hh : Int) < 0) = false := by simp
  have d3 : decide (n < hh) = false := by simp; omega
  clear hS hSl hA hA' hc hie
  go_enter Try.func51, Try.ntmps51
  go_wp2_with fail
  go_quiet (fail)
  go_wp2_with fail
  generalize hW0 : ((w.alloc (Obj.cells #[Value.int IntKind.i64 x.k, Value.int IntKind.i64 x.n, Value.string x.s] 44)).drewN nq).alloc (Obj.cells #[Value.int IntKind.i64 p, Value.int IntKind.i64 ↑hh] 86) = W0
  have hB0 : Below w.heap.size w W0 := by rw [← hW0]; exact (by repeat (first | exact Below.refl _ _ | assumption | refine Below.setCell ?_ (by first | (simp; done) | (simp; omega) | omega) _ | refine below_drewN ?_ _ | refine Below.drew ?_ | refine Below.alloc ?_ (by first | (simp; done) | (simp; omega) | omega) _))
  have hz0 : W0.heap.size = w.heap.size + 2 := by rw [← hW0]; simp
  have hx0 : Blk W0 w.heap.size 44 #[Value.int IntKind.i64 x.k, Value.int IntKind.i64 x.n, Value.string x.s] := by
    rw [← hW0]
    exact (Blk.new w 44 _).alloc _
  have hp0 : Blk W0 (w.heap.size + 1) 86 #[Value.int IntKind.i64 p, Value.int IntKind.i64 ↑hh] := by
    rw [← hW0]
    have := Blk.new ((w.alloc (Obj.cells #[Value.int IntKind.i64 x.k, Value.int IntKind.i64 x.n, Value.string x.s] 44)).drewN nq) 86 #[Value.int IntKind.i64 p, Value.int IntKind.i64 ↑hh]
    simpa using this
  clear hW0 q0 q1 c8 c9
  refine (Hl.out _ hB0).mono ?_
  rintro e W ⟨rfl, hF1, hm1⟩
  rw [HIE.out]
  have hs1 := hm1.size
  have hx1 := hx0.mod hm1 (hns _ (Nat.le_refl _))
  have hp1 := hp0.mod hm1 (hns _ (by omega))
  obtain ⟨L1, B1, C1, X1, K1, h1, hS1, hSl1⟩ := hF1
  obtain ⟨Ax, nx, cx, rfl, hrx0, _⟩ := h1.x.rd
  have hnx : F.values.length = nx := hrx0.1
  have hle1 : hh ≤ nx := by omega
  have hnc := hrx0.2.1
  have hhc : hh ≤ cx := by omega
  have hrx : RdV W Ax hh cx (F.values.take hh) := hrx0.shrink hle1 hhc (Nat.le_refl _)
  have hcm := hrx0.2.2.1
  have d0 : W.cell? ⟨g, 8, none⟩ = some (.slice Ax nx cx) := h1.blk.cell 8
  have b0 : W.cell? ⟨w.heap.size + 1, 0, none⟩ = some (.int .i64 p) := hp1.cell 0
  have b1 : W.cell? ⟨w.heap.size + 1, 1, none⟩ = some (.int .i64 hh) := hp1.cell 1
  have x0 : W.cell? ⟨w.heap.size, 0, none⟩ = some (.int .i64 x.k) := hx1.cell 0
  have x1 : W.cell? ⟨w.heap.size, 1, none⟩ = some (.int .i64 x.n) := hx1.cell 1
  have x2 : W.cell? ⟨w.heap.size, 2, none⟩ = some (.string x.s) := hx1.cell 2
  have hltW : g < W.heap.size := by have := hB0.size; omega
  have hl1 := hp1.lt
  have hl2 := hx1.lt
  have hng : g ≠ w.heap.size + 1 := by omega
  have hng2 : w.heap.size + 1 ≠ g := by omega
  have HM1 := Lib.hid hm1
  have HF1B := Lib.hid h1.blk
  have HF1 := Lib.hid h1
  have HS1 := Lib.hid hS1
  have HSl1 := Lib.hid hSl1
  have HZ0 := Lib.hid hz0
  have HB0 := Lib.hid hB0
  have HX1 := Lib.hid hx1
  have HP1 := Lib.hid hp1
  clear hm1 h1 hS1 hSl1 hx0 hp0 hx1 hp1 hz0 hB0 hnx hrx0
  have hall : ∀ w', Below W.heap.size W w' → (fun w' => w'.cell? ⟨g, 8, none⟩ = some (.slice Ax nx cx) ∧ w'.cell? ⟨w.heap.size + 1, 0, none⟩ = some (.int .i64 p) ∧ w'.cell? ⟨w.heap.size + 1, 1, none⟩ = some (.int .i64 hh) ∧ w'.cell? ⟨w.heap.size, 0, none⟩ = some (.int .i64 x.k) ∧ w'.cell? ⟨w.heap.size, 1, none⟩ = some (.int .i64 x.n) ∧ w'.cell? ⟨w.heap.size, 2, none⟩ = some (.string x.s)) w' := fun w' hb =>
    ⟨(hb.cell (p := ⟨g, 8, none⟩) hltW).trans d0, (hb.cell (p := ⟨w.heap.size + 1, 0, none⟩) hl1).trans b0, (hb.cell (p := ⟨w.heap.size + 1, 1, none⟩) hl1).trans b1, (hb.cell (p := ⟨w.heap.size, 0, none⟩) hl2).trans x0, (hb.cell (p := ⟨w.heap.size, 1, none⟩) hl2).trans x1, (hb.cell (p := ⟨w.heap.size, 2, none⟩) hl2).trans x2⟩
  have HALL := Lib.hid hall
  have HRX := Lib.hid hrx
  clear hall hrx
  go_wp2_with fail
  go_cut [] (fun wx => ∃ A2 n2 c2 w2, wx = w2.setCell ⟨g, 8, none⟩ (.slice A2 n2 c2) ∧ NewRow W w2 (.slice A2 n2 c2) (F.values.take hh ++ [x]))
  case first =>
    refine wp_region_noPanic ?_
    refine AnyBut.start (S := fun w' => w'.cell? ⟨g, 8, none⟩ = some (.slice Ax nx cx) ∧ w'.cell? ⟨w.heap.size + 1, 0, none⟩ = some (.int .i64 p) ∧ w'.cell? ⟨w.heap.size + 1, 1, none⟩ = some (.int .i64 hh) ∧ w'.cell? ⟨w.heap.size, 0, none⟩ = some (.int .i64 x.k) ∧ w'.cell? ⟨w.heap.size, 1, none⟩ = some (.int .i64 x.n) ∧ w'.cell? ⟨w.heap.size, 2, none⟩ = some (.string x.s)) 15 (by kernel_rfl) (HALL.out _ (Below.refl _ _).drew) (fun hHeld => ?_)
    have HW : Below W.heap.size W W.drew := (Below.refl _ _).drew
    have HRT : Hid (RdV W.drew Ax hh cx (F.values.take hh)) := Lib.hid (HRX.out.new HW)
    have hzw : W.drew.heap.size = W.heap.size := rfl
    generalize W.drew = Wd at HW HRT hzw hHeld ⊢
    have HFIN : Hid (∀ A2 n2 c2 w2, NewRow Wd w2 (.slice A2 n2 c2) ([] ++ F.values.take hh ++ [x]) → ∃ A3 n3 c3 w3, w2.setCell ⟨g, 8, none⟩ (.slice A2 n2 c2) = w3.setCell ⟨g, 8, none⟩ (.slice A3 n3 c3) ∧ NewRow W w3 (.slice A3 n3 c3) (F.values.take hh ++ [x])) := Lib.hid fun A2 n2 c2 w2 h => ⟨A2, n2, c2, w2, rfl, by
      refine ⟨by simpa using h.own, fun b e => ?_, HW.trans (h.bel.mono HW.size)⟩
      have := h.new b e
      omega⟩
    clear hzw
    refine AnyBut.take (i := 0) (v := ?_) (by rw [List.getElem?_toArray]; rfl) (by kernel_rfl) (by kernel_rfl) (by kernel_rfl) (by kernel_rfl) (fun _ _ _ h => h) (Or.inl ⟨by rfl, ?_⟩) (by assumption) ?_
    rotate_left 1
    · (intro w_ hSw; (try dsimp only at hSw); go_simp; try with_reducible rfl)
    try simp only [Act.put, List.setIfInBounds_toArray, List.set_cons_zero, List.set_cons_succ]
    refine AnyBut.take (i := 2) (v := ?_) (by rw [List.getElem?_toArray]; rfl) (by kernel_rfl) (by kernel_rfl) (by kernel_rfl) (by kernel_rfl) (fun _ _ _ h => h) (Or.inl ⟨by rfl, ?_⟩) (by assumption) ?_
    rotate_left 1
    · (intro w_ hSw; (try dsimp only at hSw); go_simp; try with_reducible rfl)
    try simp only [Act.put, List.setIfInBounds_toArray, List.set_cons_zero, List.set_cons_succ]
    refine AnyBut.take (i := 3) (v := ?_) (by rw [List.getElem?_toArray]; rfl) (by kernel_rfl) (by kernel_rfl) (by kernel_rfl) (by kernel_rfl) (fun _ _ _ h => h) (Or.inl ⟨by rfl, ?_⟩) (by assumption) ?_
    rotate_left 1
    · (intro w_ hSw; (try dsimp only at hSw); go_simp; try with_reducible rfl)
    try simp only [Act.put, List.setIfInBounds_toArray, List.set_cons_zero, List.set_cons_succ]
    refine AnyBut.take (i := 4) (v := ?_) (by rw [List.getElem?_toArray]; rfl) (by kernel_rfl) (by kernel_rfl) (by kernel_rfl) (by kernel_rfl) (fun _ _ _ h => h) (Or.inl ⟨by rfl, ?_⟩) (by assumption) ?_
    rotate_left 1
    · (intro w_ hSw; (try dsimp only at hSw); go_simp; try with_reducible rfl)
    try simp only [Act.put, List.setIfInBounds_toArray, List.set_cons_zero, List.set_cons_succ]
    refine AnyBut.take (i := 5) (v := ?_) (by rw [List.getElem?_toArray]; rfl) (by kernel_rfl) (by kernel_rfl) (by kernel_rfl) (by kernel_rfl) (fun _ _ _ h => h) (Or.inl ⟨by rfl, ?_⟩) (by assumption) ?_
    rotate_left 1
    · (intro w_ hSw; (try dsimp only at hSw); go_simp; try with_reducible rfl)
    try simp only [Act.put, List.setIfInBounds_toArray, List.set_cons_zero, List.set_cons_succ]
    refine AnyBut.take (i := 6) (v := ?_) (by rw [List.getElem?_toArray]; rfl) (by kernel_rfl) (by kernel_rfl) (by kernel_rfl) (by kernel_rfl) (fun _ _ _ h => h) (Or.inl ⟨by rfl, ?_⟩) (by assumption) ?_
    rotate_left 1
    · (intro w_ hSw; (try dsimp only at hSw); go_simp; try with_reducible rfl)
    try simp only [Act.put, List.setIfInBounds_toArray, List.set_cons_zero, List.set_cons_succ]
    refine AnyBut.take (i := 7) (v := ?_) (by rw [List.getElem?_toArray]; rfl) (by kernel_rfl) (by kernel_rfl) (by kernel_rfl) (by kernel_rfl) (fun _ _ _ h => h) (Or.inl ⟨by rfl, ?_⟩) (by assumption) ?_
    rotate_left 1
    · (intro w_ hSw; (try dsimp only at hSw); go_simp; try with_reducible rfl)
    try simp only [Act.put, List.setIfInBounds_toArray, List.set_cons_zero, List.set_cons_succ]
    refine AnyBut.take (i := 8) (v := ?_) (by rw [List.getElem?_toArray]; rfl) (by kernel_rfl) (by kernel_rfl) (by kernel_rfl) (by kernel_rfl) (fun _ _ _ h => h) (Or.inl ⟨by rfl, ?_⟩) (by assumption) ?_
    rotate_left 1
    · (intro w_ hSw; (try dsimp only at hSw); go_simp; try with_reducible rfl)
    try simp only [Act.put, List.setIfInBounds_toArray, List.set_cons_zero, List.set_cons_succ]
    refine AnyBut.take (i := 10) (v := ?_) (by rw [List.getElem?_toArray]; rfl) (by kernel_rfl) (by kernel_rfl) (by kernel_rfl) (by kernel_rfl) (fun _ _ _ h => h) (Or.inl ⟨by rfl, ?_⟩) (by assumption) ?_
    rotate_left 1
    · (intro w_ hSw; (try dsimp only at hSw); go_simp; try with_reducible rfl)
    try simp only [Act.put, List.setIfInBounds_toArray, List.set_cons_zero, List.set_cons_succ]
    refine AnyBut.ready (rs := [1, 11]) (by kernel_rfl) (by simp) ?_
    refine ReadyBut.cons (by rw [List.getElem?_toArray]; rfl) (fun K hK => ?_) ?_
    · skip
      go_simp
      refine hK.out _ _ (HALL.out _ (HW.trans (Below.mono (by exact (by repeat (first | exact Below.refl _ _ | assumption | refine Below.setCell ?_ (by first | (simp; done) | (simp; omega) | omega) _ | refine below_drewN ?_ _ | refine Below.drew ?_ | refine Below.alloc ?_ (by first | (simp; done) | (simp; omega) | omega) _))) HW.size))) (fun hHeld => ?_)
      clear hK K
      try simp only [Act.put, List.setIfInBounds_toArray, List.set_cons_zero, List.set_cons_succ]
      refine AnyBut.ready (rs := [9, 11]) (by kernel_rfl) (by simp) ?_
      refine ReadyBut.cons (by rw [List.getElem?_toArray]; rfl) (fun K hK => ?_) ?_
      · skip
        refine step_appendV _ (by rfl) (.tmp 52) (.tmp 59) rfl (.slice (some ⟨Wd.heap.size, 0, none⟩) 0 0) [] rfl (by exact (newrowR Wd).own) Ax hh cx (F.values.take hh) rfl (by exact HRT.out.new (by repeat (first | exact Below.refl _ _ | assumption | refine Below.setCell ?_ (by first | (simp; done) | (simp; omega) | omega) _ | refine below_drewN ?_ _ | refine Below.drew ?_ | refine Below.alloc ?_ (by first | (simp; done) | (simp; omega) | omega) _))) (by simp; omega) ?_
        intro v1 w1 hv1 hg1 ha1
        obtain ⟨A1, n1, c1, rfl, _⟩ := OwnV.rd hv1
        have NR1 : NewRow Wd w1 (.slice A1 n1 c1) ([] ++ F.values.take hh) := NewRow.app (newrowR Wd) hv1 hg1 ha1
        have HG1 := Lib.hid hg1
        clear hv1 hg1 ha1
        refine hK.out _ _ (HALL.out _ (HW.trans (Below.mono NR1.bel HW.size))) (fun hHeld => ?_)
        clear hK K
        try simp only [Act.put, List.setIfInBounds_toArray, List.set_cons_zero, List.set_cons_succ]
        refine AnyBut.ready (rs := [11]) (by kernel_rfl) (by simp) ?_
        refine ReadyBut.cons (by rw [List.getElem?_toArray]; rfl) (fun K hK => ?_) ReadyBut.nil
        go_simp
        refine hK.out _ _ (HALL.out _ (HW.trans (Below.mono (NR1.bel.alloc NR1.bel.size _) HW.size))) (fun hHeld => ?_)
        clear hK K
        try simp only [Act.put, List.setIfInBounds_toArray, List.set_cons_zero, List.set_cons_succ]
        refine AnyBut.ready (rs := [12]) (by kernel_rfl) (by simp) ?_
        refine ReadyBut.cons (by rw [List.getElem?_toArray]; rfl) (fun K hK => ?_) ReadyBut.nil
        refine step_appendV _ (by rfl) (.tmp 60) (.tmp 62) rfl (.slice A1 n1 c1) ([] ++ F.values.take hh) rfl (by exact (NR1.below (by exact (by repeat (first | exact Below.refl _ _ | assumption | refine Below.setCell ?_ (by first | (simp; done) | (simp; omega) | omega) _ | refine below_drewN ?_ _ | refine Below.drew ?_ | refine Below.alloc ?_ (by first | (simp; done) | (simp; omega) | omega) _)))).own) (some ⟨w1.heap.size, 0, none⟩) 1 1 [x] rfl (by exact one_rdV w1 x) (by simp; omega) ?_
        intro v2 w2 hv2 hg2 ha2
        have NR2 : NewRow Wd w2 v2 ([] ++ F.values.take hh ++ [x]) := NewRow.app (NR1.below (by exact (by repeat (first | exact Below.refl _ _ | assumption | refine Below.setCell ?_ (by first | (simp; done) | (simp; omega) | omega) _ | refine below_drewN ?_ _ | refine Below.drew ?_ | refine Below.alloc ?_ (by first | (simp; done) | (simp; omega) | omega) _)))) hv2 hg2 ha2
        obtain ⟨A2, n2, c2, rfl, _⟩ := OwnV.rd hv2
        have HB2 := HW.trans (Below.mono NR2.bel HW.size)
        have f82 : w2.frozen? ⟨g, 8, none⟩ = false := (HF1B.out.below HB2 hltW).frozen 8
        clear hv2 hg2 ha2
        refine hK.out _ _ (HALL.out _ HB2) (fun hHeld => ?_)
        clear hK K
        try simp only [Act.put, List.setIfInBounds_toArray, List.set_cons_zero, List.set_cons_succ]
        refine AnyBut.ready (rs := [13]) (by kernel_rfl) (by simp) ?_
        refine ReadyBut.cons (by rw [List.getElem?_toArray]; rfl) (fun K hK => ?_) ReadyBut.nil
        go_simp
        refine hK.out _ _ hHeld (fun hHeld => ?_)
        clear hK K
        try simp only [Act.put, List.setIfInBounds_toArray, List.set_cons_zero, List.set_cons_succ]
        refine AnyBut.take (i := 14) (v := ?_) (by rw [List.getElem?_toArray]; rfl) (by kernel_rfl) (by kernel_rfl) (by kernel_rfl) (by kernel_rfl) (fun _ _ _ h => h) (Or.inl ⟨by rfl, ?_⟩) (by assumption) ?_
        rotate_left 1
        · (intro w_ hSw; (try dsimp only at hSw); go_simp; try with_reducible rfl)
        try simp only [Act.put, List.setIfInBounds_toArray, List.set_cons_zero, List.set_cons_succ]
        refine AnyBut.ready (rs := [15]) (by kernel_rfl) (by simp) ?_
        refine ReadyBut.last (by rw [List.getElem?_toArray]; rfl) (fun K hK => ?_)
        have c82 := hHeld.1
        go_simp
        refine hK.out _ _ ?_
        clear hK K
        try simp only [Act.put, List.setIfInBounds_toArray, List.set_cons_zero, List.set_cons_succ]
        refine AnyBut.done (by kernel_rfl) ?_ _
        refine NoPanic.normal ?_
        go_wp2_with fail
        go_meet
        exact HFIN.out A2 n2 c2 w2 NR2
      refine ReadyBut.cons (by rw [List.getElem?_toArray]; rfl) (fun K hK => ?_) ?_
      · skip
        go_simp
        refine hK.out _ _ (HALL.out _ (HW.trans (Below.mono (by exact (by repeat (first | exact Below.refl _ _ | assumption | refine Below.setCell ?_ (by first | (simp; done) | (simp; omega) | omega) _ | refine below_drewN ?_ _ | refine Below.drew ?_ | refine Below.alloc ?_ (by first | (simp; done) | (simp; omega) | omega) _))) HW.size))) (fun hHeld => ?_)
        clear hK K
        try simp only [Act.put, List.setIfInBounds_toArray, List.set_cons_zero, List.set_cons_succ]
        refine AnyBut.ready (rs := [9]) (by kernel_rfl) (by simp) ?_
        refine ReadyBut.cons (by rw [List.getElem?_toArray]; rfl) (fun K hK => ?_) ReadyBut.nil
        refine step_appendV _ (by rfl) (.tmp 52) (.tmp 59) rfl (.slice (some ⟨Wd.heap.size, 0, none⟩) 0 0) [] rfl (by exact ((newrowR Wd).below (by exact (by repeat (first | exact Below.refl _ _ | assumption | refine Below.setCell ?_ (by first | (simp; done) | (simp; omega) | omega) _ | refine below_drewN ?_ _ | refine Below.drew ?_ | refine Below.alloc ?_ (by first | (simp; done) | (simp; omega) | omega) _)))).own) Ax hh cx (F.values.take hh) rfl (by exact HRT.out.new (by repeat (first | exact Below.refl _ _ | assumption | refine Below.setCell ?_ (by first | (simp; done) | (simp; omega) | omega) _ | refine below_drewN ?_ _ | refine Below.drew ?_ | refine Below.alloc ?_ (by first | (simp; done) | (simp; omega) | omega) _))) (by simp; omega) ?_
        intro v1 w1 hv1 hg1 ha1
        obtain ⟨A1, n1, c1, rfl, _⟩ := OwnV.rd hv1
        have NR1 : NewRow Wd w1 (.slice A1 n1 c1) ([] ++ F.values.take hh) := NewRow.app ((newrowR Wd).below (by exact (by repeat (first | exact Below.refl _ _ | assumption | refine Below.setCell ?_ (by first | (simp; done) | (simp; omega) | omega) _ | refine below_drewN ?_ _ | refine Below.drew ?_ | refine Below.alloc ?_ (by first | (simp; done) | (simp; omega) | omega) _)))) hv1 hg1 ha1
        have HG1 := Lib.hid hg1
        clear hv1 hg1 ha1
        refine hK.out _ _ (HALL.out _ (HW.trans (Below.mono NR1.bel HW.size))) (fun hHeld => ?_)
        clear hK K
        try simp only [Act.put, List.setIfInBounds_toArray, List.set_cons_zero, List.set_cons_succ]
        refine AnyBut.ready (rs := [12]) (by kernel_rfl) (by simp) ?_
        refine ReadyBut.cons (by rw [List.getElem?_toArray]; rfl) (fun K hK => ?_) ReadyBut.nil
        refine step_appendV _ (by rfl) (.tmp 60) (.tmp 62) rfl (.slice A1 n1 c1) ([] ++ F.values.take hh) rfl (by exact (NR1).own) (some ⟨(Wd.heap.size + 1), 0, none⟩) 1 1 [x] rfl (by exact RdV.grown (by have := one_rdV (Wd.alloc (.cells #[] 44)) x; simpa using this) HG1.out (fun b_ o_ e_ e2 => by simp [Value.ownBlock] at e2; injection e_ with e_; injection e_ with e_; omega)) (by simp; omega) ?_
        intro v2 w2 hv2 hg2 ha2
        have NR2 : NewRow Wd w2 v2 ([] ++ F.values.take hh ++ [x]) := NewRow.app (NR1) hv2 hg2 ha2
        obtain ⟨A2, n2, c2, rfl, _⟩ := OwnV.rd hv2
        have HB2 := HW.trans (Below.mono NR2.bel HW.size)
        have f82 : w2.frozen? ⟨g, 8, none⟩ = false := (HF1B.out.below HB2 hltW).frozen 8
        clear hv2 hg2 ha2
        refine hK.out _ _ (HALL.out _ HB2) (fun hHeld => ?_)
        clear hK K
        try simp only [Act.put, List.setIfInBounds_toArray, List.set_cons_zero, List.set_cons_succ]
        refine AnyBut.ready (rs := [13]) (by kernel_rfl) (by simp) ?_
        refine ReadyBut.cons (by rw [List.getElem?_toArray]; rfl) (fun K hK => ?_) ReadyBut.nil
        go_simp
        refine hK.out _ _ hHeld (fun hHeld => ?_)
        clear hK K
        try simp only [Act.put, List.setIfInBounds_toArray, List.set_cons_zero, List.set_cons_succ]
        refine AnyBut.take (i := 14) (v := ?_) (by rw [List.getElem?_toArray]; rfl) (by kernel_rfl) (by kernel_rfl) (by kernel_rfl) (by kernel_rfl) (fun _ _ _ h => h) (Or.inl ⟨by rfl, ?_⟩) (by assumption) ?_
        rotate_left 1
        · (intro w_ hSw; (try dsimp only at hSw); go_simp; try with_reducible rfl)
        try simp only [Act.put, List.setIfInBounds_toArray, List.set_cons_zero, List.set_cons_succ]
        refine AnyBut.ready (rs := [15]) (by kernel_rfl) (by simp) ?_
        refine ReadyBut.last (by rw [List.getElem?_toArray]; rfl) (fun K hK => ?_)
        have c82 := hHeld.1
        go_simp
        refine hK.out _ _ ?_
        clear hK K
        try simp only [Act.put, List.setIfInBounds_toArray, List.set_cons_zero, List.set_cons_succ]
        refine AnyBut.done (by kernel_rfl) ?_ _
        refine NoPanic.normal ?_
        go_wp2_with fail
        go_meet
        exact HFIN.out A2 n2 c2 w2 NR2
      exact ReadyBut.nil
    refine ReadyBut.cons (by rw [List.getElem?_toArray]; rfl) (fun K hK => ?_) ?_
    · skip
      go_simp
      refine hK.out _ _ (HALL.out _ (HW.trans (Below.mono (by exact (by repeat (first | exact Below.refl _ _ | assumption | refine Below.setCell ?_ (by first | (simp; done) | (simp; omega) | omega) _ | refine below_drewN ?_ _ | refine Below.drew ?_ | refine Below.alloc ?_ (by first | (simp; done) | (simp; omega) | omega) _))) HW.size))) (fun hHeld => ?_)
      clear hK K
      try simp only [Act.put, List.setIfInBounds_toArray, List.set_cons_zero, List.set_cons_succ]
      refine AnyBut.ready (rs := [1]) (by kernel_rfl) (by simp) ?_
      refine ReadyBut.cons (by rw [List.getElem?_toArray]; rfl) (fun K hK => ?_) ReadyBut.nil
      go_simp
      refine hK.out _ _ (HALL.out _ (HW.trans (Below.mono (by exact (by repeat (first | exact Below.refl _ _ | assumption | refine Below.setCell ?_ (by first | (simp; done) | (simp; omega) | omega) _ | refine below_drewN ?_ _ | refine Below.drew ?_ | refine Below.alloc ?_ (by first | (simp; done) | (simp; omega) | omega) _))) HW.size))) (fun hHeld => ?_)
      clear hK K
      try simp only [Act.put, List.setIfInBounds_toArray, List.set_cons_zero, List.set_cons_succ]
      refine AnyBut.ready (rs := [9]) (by kernel_rfl) (by simp) ?_
      refine ReadyBut.cons (by rw [List.getElem?_toArray]; rfl) (fun K hK => ?_) ReadyBut.nil
      refine step_appendV _ (by rfl) (.tmp 52) (.tmp 59) rfl (.slice (some ⟨(Wd.heap.size + 1), 0, none⟩) 0 0) [] rfl (by exact (newrowB (w := Wd) (u := Wd.alloc (.cells #[Value.int IntKind.i64 x.k, Value.int IntKind.i64 x.n, Value.string x.s] 44)) (by exact (by repeat (first | exact Below.refl _ _ | assumption | refine Below.setCell ?_ (by first | (simp; done) | (simp; omega) | omega) _ | refine below_drewN ?_ _ | refine Below.drew ?_ | refine Below.alloc ?_ (by first | (simp; done) | (simp; omega) | omega) _))) (by simp)).own) Ax hh cx (F.values.take hh) rfl (by exact HRT.out.new (by repeat (first | exact Below.refl _ _ | assumption | refine Below.setCell ?_ (by first | (simp; done) | (simp; omega) | omega) _ | refine below_drewN ?_ _ | refine Below.drew ?_ | refine Below.alloc ?_ (by first | (simp; done) | (simp; omega) | omega) _))) (by simp; omega) ?_
      intro v1 w1 hv1 hg1 ha1
      obtain ⟨A1, n1, c1, rfl, _⟩ := OwnV.rd hv1
      have NR1 : NewRow Wd w1 (.slice A1 n1 c1) ([] ++ F.values.take hh) := NewRow.app (newrowB (w := Wd) (u := Wd.alloc (.cells #[Value.int IntKind.i64 x.k, Value.int IntKind.i64 x.n, Value.string x.s] 44)) (by exact (by repeat (first | exact Below.refl _ _ | assumption | refine Below.setCell ?_ (by first | (simp; done) | (simp; omega) | omega) _ | refine below_drewN ?_ _ | refine Below.drew ?_ | refine Below.alloc ?_ (by first | (simp; done) | (simp; omega) | omega) _))) (by simp)) hv1 hg1 ha1
      have HG1 := Lib.hid hg1
      clear hv1 hg1 ha1
      refine hK.out _ _ (HALL.out _ (HW.trans (Below.mono NR1.bel HW.size))) (fun hHeld => ?_)
      clear hK K
      try simp only [Act.put, List.setIfInBounds_toArray, List.set_cons_zero, List.set_cons_succ]
      refine AnyBut.ready (rs := [12]) (by kernel_rfl) (by simp) ?_
      refine ReadyBut.cons (by rw [List.getElem?_toArray]; rfl) (fun K hK => ?_) ReadyBut.nil
      refine step_appendV _ (by rfl) (.tmp 60) (.tmp 62) rfl (.slice A1 n1 c1) ([] ++ F.values.take hh) rfl (by exact (NR1).own) (some ⟨Wd.heap.size, 0, none⟩) 1 1 [x] rfl (by exact RdV.grown (RdV.new (one_rdV Wd x) (by exact (by repeat (first | exact Below.refl _ _ | assumption | refine Below.setCell ?_ (by first | (simp; done) | (simp; omega) | omega) _ | refine below_drewN ?_ _ | refine Below.drew ?_ | refine Below.alloc ?_ (by first | (simp; done) | (simp; omega) | omega) _)))) HG1.out (fun b_ o_ e_ e2 => by simp [Value.ownBlock] at e2; injection e_ with e_; injection e_ with e_; omega)) (by simp; omega) ?_
      intro v2 w2 hv2 hg2 ha2
      have NR2 : NewRow Wd w2 v2 ([] ++ F.values.take hh ++ [x]) := NewRow.app (NR1) hv2 hg2 ha2
      obtain ⟨A2, n2, c2, rfl, _⟩ := OwnV.rd hv2
      have HB2 := HW.trans (Below.mono NR2.bel HW.size)
      have f82 : w2.frozen? ⟨g, 8, none⟩ = false := (HF1B.out.below HB2 hltW).frozen 8
      clear hv2 hg2 ha2
      refine hK.out _ _ (HALL.out _ HB2) (fun hHeld => ?_)
      clear hK K
      try simp only [Act.put, List.setIfInBounds_toArray, List.set_cons_zero, List.set_cons_succ]
      refine AnyBut.ready (rs := [13]) (by kernel_rfl) (by simp) ?_
      refine ReadyBut.cons (by rw [List.getElem?_toArray]; rfl) (fun K hK => ?_) ReadyBut.nil
      go_simp
      refine hK.out _ _ hHeld (fun hHeld => ?_)
      clear hK K
      try simp only [Act.put, List.setIfInBounds_toArray, List.set_cons_zero, List.set_cons_succ]
      refine AnyBut.take (i := 14) (v := ?_) (by rw [List.getElem?_toArray]; rfl) (by kernel_rfl) (by kernel_rfl) (by kernel_rfl) (by kernel_rfl) (fun _ _ _ h => h) (Or.inl ⟨by rfl, ?_⟩) (by assumption) ?_
      rotate_left 1
      · (intro w_ hSw; (try dsimp only at hSw); go_simp; try with_reducible rfl)
      try simp only [Act.put, List.setIfInBounds_toArray, List.set_cons_zero, List.set_cons_succ]
      refine AnyBut.ready (rs := [15]) (by kernel_rfl) (by simp) ?_
      refine ReadyBut.last (by rw [List.getElem?_toArray]; rfl) (fun K hK => ?_)
      have c82 := hHeld.1
      go_simp
      refine hK.out _ _ ?_
      clear hK K
      try simp only [Act.put, List.setIfInBounds_toArray, List.set_cons_zero, List.set_cons_succ]
      refine AnyBut.done (by kernel_rfl) ?_ _
      refine NoPanic.normal ?_
      go_wp2_with fail
      go_meet
      exact HFIN.out A2 n2 c2 w2 NR2
    exact ReadyBut.nil
  case rest =>
    obtain ⟨A2, n2, c2, w2, rfl, hnr⟩ := hcut
    have HNR := Lib.hid hnr
    have hHG := (HF1B.out.below hnr.bel hltW)
    have c12 : w2.cell? ⟨g, 1, none⟩ = some (.int .i64 F.pc) := hHG.cell 1
    have f12 : w2.frozen? ⟨g, 1, none⟩ = false := hHG.frozen 1
    have b02 : w2.cell? ⟨w.heap.size + 1, 0, none⟩ = some (.int .i64 p) := (hnr.bel.cell (p := ⟨w.heap.size + 1, 0, none⟩) hl1).trans b0
    clear hnr hHG
    go_wp2
    go_ret
    have hnr := HNR.out
    have s1 := set_pc (by decide) (by decide) (by decide) (set_values_new (by decide) (by decide) (by decide) HF1.out hnr) p
    have z0 := HB0.out.size
    have z1 := hnr.bel.size
    have m1 : Mod S w W := (Mod.new HB0.out).trans HM1.out fun _ _ h => h
    have m2 : Mod S w w2 := m1.trans (Mod.new (S := S) hnr.bel) fun _ _ h => h
    have sg : S g := HS.out g (.inl rfl)
    refine ⟨rfl, IsFr.of s1 (by simpa [World.setCell] using m2.size) HSl.out (fun i hi => ?_), (m2.setCell (fun _ => sg) _).setCell (fun _ => sg) _⟩
    rcases foot_x2 (S := fun i => S i ∨ w.heap.size ≤ i) (w := W) (fun i hi => (HS1.out i hi).imp_right fun h => by omega) (fun i e => .inr (hnr.new i e)) i hi with h | h
    · exact h
    · exact .inr (by omega)

set_option maxRecDepth 100000 in
set_option maxHeartbeats 400000 in
theorem rhandle_no (g : Nat) (F : Fr) (S : Nat → Prop) (x : V) (w : World) (hF : IsFr 82 86 w S g F) (hc : F.catch? = none) :
    Calls Try.prog 51 #[.pointer (some ⟨g, 0, none⟩), x.v] w fun e w' => e = .returned (.bool false) ∧ Below w.heap.size w w' := by
  obtain ⟨L, B, C, X, K, h, hS, hSl⟩ := hF
  have c8 : w.cell? ⟨g, 8, none⟩ = some X := h.blk.cell 8
  have c9 : w.cell? ⟨g, 9, none⟩ = some K := h.blk.cell 9
  have hlt := h.blk.lt
  obtain ⟨A, n, c, rfl, hr, hA⟩ := h.x.rd
  obtain ⟨A', n', c', rfl, hr', hA'⟩ := h.k.rd
  have hn := hr.le
  have hn2 := hr'.2.1
  have hn3 := hr'.2.2.1
  clear hS hSl hA hA'
  by_cases h0 : n' = 0
  · subst h0
    clear hc
    go_enter Try.func51, Try.ntmps51
    go_wp2_with fail
    go_quiet (fail)
    go_wp2
    go_ret
    exact ⟨rfl, (by repeat (first | exact Below.refl _ _ | assumption | refine Below.setCell ?_ (by first | (simp; done) | (simp; omega) | omega) _ | refine below_drewN ?_ _ | refine Below.drew ?_ | refine Below.alloc ?_ (by first | (simp; done) | (simp; omega) | omega) _))⟩
  · have hpos : 1 ≤ n' := by omega
    obtain ⟨b', o', rfl, hb', q0, q1⟩ := hr'.at_ (i := n' - 1) (by omega)
    obtain ⟨p, hh, eK⟩ : ∃ p hh, F.blocks[n' - 1]'(by rw [hr'.1]; omega) = (p, hh) := ⟨_, _, rfl⟩
    have hbad : ¬ (0 ≤ hh ∧ hh ≤ (n : Int)) := by
      have hl := hr'.1
      have e1 : F.blocks.getLast? = some (p, hh) := by
        rw [List.getLast?_eq_getElem?, List.getElem?_eq_getElem (by omega), ← eK]
        congr 2
        omega
      simp only [Fr.catch?, e1, hr.1] at hc
      intro h
      rw [if_pos h] at hc
      cases hc
    rw [eK] at q0 q1
    clear eK hc
    have d1 : decide (((n' : Int) - 1) < 0) = false := by simp; omega
    by_cases hneg : hh < 0
    · have d2 : decide (hh < 0) = true := by simpa using hneg
      go_enter Try.func51, Try.ntmps51
      go_wp2
      go_quiet (fail)
      go_wp2
      go_ret
      exact ⟨rfl, (by repeat (first | exact Below.refl _ _ | assumption | refine Below.setCell ?_ (by first | (simp; done) | (simp; omega) | omega) _ | refine below_drewN ?_ _ | refine Below.drew ?_ | refine Below.alloc ?_ (by first | (simp; done) | (simp; omega) | omega) _))⟩
    · have hd : decide (hh < 0) = false := by simpa using hneg
      have hgt : (n : Int) < hh := by omega
      go_enter Try.func51, Try.ntmps51
      go_wp2
      go_quiet (fail)
      go_wp2
      go_ret
      exact ⟨rfl, (by repeat (first | exact Below.refl _ _ | assumption | refine Below.setCell ?_ (by first | (simp; done) | (simp; omega) | omega) _ | refine below_drewN ?_ _ | refine Below.drew ?_ | refine Below.alloc ?_ (by first | (simp; done) | (simp; omega) | omega) _))⟩

theorem rhandle_any (g : Nat) (F : Fr) (S : Nat → Prop) (x : V) (w : World) (hF : IsFr 82 86 w S g F) (hlen : F.values.length ≤ 1000000) (hlen2 : F.blocks.length ≤ 1000000) :
    Calls Try.prog 51 #[.pointer (some ⟨g, 0, none⟩), x.v] w fun e w' => e = .returned (.bool F.catch?.isSome) ∧ IsFr 82 86 w' (Grew S w w') g (F.handled x) ∧ Mod S w w' := by
  cases hc : F.catch? with
  | none =>
    refine (rhandle_no g F S x w hF hc).mono fun e w' ⟨he, hb⟩ => ⟨he, ?_, Mod.new hb⟩
    have e1 : F.handled x = F := by simp [Fr.handled, hc]
    rw [e1]
    exact (hF.new hb).grew hb.size
  | some r =>
    obtain ⟨p, hh⟩ := r
    have hc' := hc
    unfold Fr.catch? at hc'
    split at hc'
    · rename_i p' h' hl
      split at hc'
      · rename_i hr
        injection hc' with hc'
        injection hc' with e1 e2
        subst e1 e2
        obtain ⟨j, rfl⟩ := Int.eq_ofNat_of_zero_le hr.1
        refine (rhandle_yes g F S x p' j w hF hl (by omega) hlen hlen2).mono fun e w' ⟨he, h1, h2⟩ => ⟨he, ?_, h2⟩
        have e1 : F.handled x = { F with blocks := F.blocks.dropLast, values := F.values.take j ++ [x], pc := p' } := by simp [Fr.handled, hc]
        rw [e1]
        exact h1
      · cases hc'
    · cases hc'
end Go.Proofs.Ythdkloojhenlkaa
