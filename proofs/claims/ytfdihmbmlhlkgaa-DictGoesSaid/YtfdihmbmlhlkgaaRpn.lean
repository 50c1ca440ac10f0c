/- The reference's Put of a new key; Put. -/
import Derived.Test.YtfdihmbmlhlkgaaRpt
namespace Go.Proofs.Ytfdihmbmlhlkgaa
open Go.RowKit
attribute [local go_sem high] guardV eqV neqV
attribute [local go_sem] V.v

/-- the cells that the last step of Put reads -/
structure CellsR (w : World) (y : Nat) (v : Value) (bx bz : Nat) (xs zs : Array Value) : Prop where
  g : Blk w y 53 #[v]
  x : Blk w bx 24 xs
  z : Blk w bz 24 zs
section
variable {w w' : World} {y n c bx bz : Nat} {v : Value} {a0 a1 a2 b0 b1 b2 : Value}
theorem CellsR.new {xs zs : Array Value} (h : CellsR w y v bx bz xs zs) (hb : Below w.heap.size w w') : CellsR w' y v bx bz xs zs := ⟨h.g.new' hb, h.x.new' hb, h.z.new' hb⟩
theorem CellsR.here (h : CellsR w y v bx bz #[a0, a1, a2] #[b0, b1, b2]) :
    w.cell? ⟨y, 0, none⟩ = some v ∧ w.cell? ⟨bx, 0, none⟩ = some a0 ∧ w.cell? ⟨bx, 1, none⟩ = some a1 ∧ w.cell? ⟨bx, 2, none⟩ = some a2 ∧ w.cell? ⟨bz, 0, none⟩ = some b0 ∧ w.cell? ⟨bz, 1, none⟩ = some b1 ∧ w.cell? ⟨bz, 2, none⟩ = some b2 :=
  ⟨h.g.cell 0, h.x.cell 0, h.x.cell 1, h.x.cell 2, h.z.cell 0, h.z.cell 1, h.z.cell 2⟩
theorem CellsR.held (h : CellsR w y v bx bz #[a0, a1, a2] #[b0, b1, b2]) (hb : Below w.heap.size w w') :
    w'.cell? ⟨y, 0, none⟩ = some v ∧ w'.cell? ⟨bx, 0, none⟩ = some a0 ∧ w'.cell? ⟨bx, 1, none⟩ = some a1 ∧ w'.cell? ⟨bx, 2, none⟩ = some a2 ∧ w'.cell? ⟨bz, 0, none⟩ = some b0 ∧ w'.cell? ⟨bz, 1, none⟩ = some b1 ∧ w'.cell? ⟨bz, 2, none⟩ = some b2 := (h.new hb).here
theorem CellsR.after {v' v9 : Value} {w9 : World} {m m9 : Nat} {cs cs9 : List Value} {o : Obj} (h : CellsR w y v bx bz #[a0, a1, a2] #[b0, b1, b2]) (ho : Own w 42 6 v' m cs) (_own : Own w9 42 6 v9 m9 cs9) (hg : (w.alloc o).grownBy w9 v'.ownBlock) :
    Blk w9 y 53 #[v] ∧ w9.cell? ⟨y, 0, none⟩ = some v ∧ w9.cell? ⟨bx, 0, none⟩ = some a0 ∧ w9.cell? ⟨bx, 1, none⟩ = some a1 ∧ w9.cell? ⟨bx, 2, none⟩ = some a2 ∧ w9.cell? ⟨bz, 0, none⟩ = some b0 ∧ w9.cell? ⟨bz, 1, none⟩ = some b1 ∧ w9.cell? ⟨bz, 2, none⟩ = some b2 := by
  have h9 : CellsR w9 y v bx bz #[a0, a1, a2] #[b0, b1, b2] := ⟨(h.g.alloc o).grown hg (Ne.symm (own_blk_ne ho h.g (by decide))), (h.x.alloc o).grown hg (Ne.symm (own_blk_ne ho h.x (by decide))), (h.z.alloc o).grown hg (Ne.symm (own_blk_ne ho h.z (by decide)))⟩
  exact ⟨h9.g, h9.here⟩
end
theorem rput_end {w W : World} {S : Nat → Prop} {y c : Nat} {A : Option Addr} {L : List (V × V)} {o : Obj} (p : V × V) (hS : S y ∧ (∀ b, (Value.slice A L.length c).ownBlock = some b → S b) ∧ (∀ i, S i → i < w.heap.size))
    (hB : Blk W y 53 #[.slice A L.length c]) (hO : Own W 42 6 (.slice A L.length c) L.length (pcs L)) (hM : Below w.heap.size w W) :
    ∀ v9 w9, Own w9 42 6 v9 (L.length + 1) (pcs L ++ pcs [p]) → (W.drew.alloc o).grownBy w9 (Value.slice A L.length c).ownBlock → (v9.ownBlock = (Value.slice A L.length c).ownBlock ∨ v9.ownBlock = some (W.drew.alloc o).heap.size) →
      IsRef (w9.setCell ⟨y, 0, none⟩ v9) (Grew S w (w9.setCell ⟨y, 0, none⟩ v9)) y (L ++ [p]) ∧ Mod S w (w9.setCell ⟨y, 0, none⟩ v9) := by
  intro v9 w9 own9 grow9 at9
  obtain ⟨s1, s2, s3⟩ := hS
  have hny : (Value.slice A L.length c).ownBlock ≠ some y := own_blk_ne hO hB (by decide)
  have m9 : Mod (fun i => (Value.slice A L.length c).ownBlock = some i) W w9 := ((Mod.refl (fun i => (Value.slice A L.length c).ownBlock = some i) W).drew.alloc o).grown grow9 fun k e _ => e
  have k9 : Blk w9 y 53 #[.slice A L.length c] := hB.mod m9 hny
  have mf : Mod (fun i => i = y) w9 (w9.setCell ⟨y, 0, none⟩ v9) := (Mod.refl (fun i => i = y) w9).setCell (p := ⟨y, 0, none⟩) (fun _ => rfl) _
  have hv9y : v9.ownBlock ≠ some y := own_blk_ne own9 k9 (by decide)
  have hz : W.heap.size ≤ w9.heap.size := m9.size
  have hzf : w9.heap.size ≤ (w9.setCell ⟨y, 0, none⟩ v9).heap.size := mf.size
  have hww : w.heap.size ≤ W.heap.size := hM.size
  have mAll : Mod S w (w9.setCell ⟨y, 0, none⟩ v9) := ((Mod.new (S := S) hM).trans (m9.mono (T := S) fun i _ e => s2 i e) fun _ _ h => h).trans mf (fun i _ e => by subst e; exact s1)
  refine ⟨⟨v9, k9.set_ 0 v9, ?_, .inl s1, ?_, ?_⟩, mAll⟩
  · rw [List.length_append, pcs_append]
    exact own9.mod mf (fun b e e' => hv9y (by rw [e, e']))
  · intro b e
    have hb := Own.lt own9 e
    rcases at9 with e' | e' <;> rw [e'] at e
    · exact .inl (s2 b e)
    · injection e with e
      refine .inr ⟨?_, by omega⟩
      simp at e
      omega
  · intro i hi
    rcases hi with h | h
    · have := s3 i h
      omega
    · exact h.2

set_option maxRecDepth 100000 in
set_option maxHeartbeats 2000000 in
theorem rput_new {w : World} {S : Nat → Prop} {y : Nat} {L : List (V × V)} (h : IsRef w S y L) (x z : V) (hno : findL L x = none) (hk : isKey x = true) (hlen : L.length < 4096) :
    Calls Try.prog 28 #[.pointer (some ⟨y, 0, none⟩), .agg #[.int .i64 x.k, .int .i64 x.n, .string x.s], .agg #[.int .i64 z.k, .int .i64 z.n, .string z.s]] w fun e w' => e = .returned (.bool true) ∧ IsRef w' (Grew S w w') y (L ++ [(x, z)]) ∧ Mod S w w' := by
  have HR := Lib.hid h
  obtain ⟨v, hb, ho, hS1, hS2, hS3⟩ := h
  have hy := hb.lt
  have c0 := hb.cell 0
  simp only [List.getElem?_toArray, List.getElem?_cons_zero] at c0
  obtain ⟨A, c, rfl, -, -⟩ := Own.rd ho
  have HB := Lib.hid hb
  have HO := Lib.hid ho
  have HS := Lib.hid (And.intro hS1 (And.intro hS2 hS3))
  clear hb ho hS1 hS2 hS3
  obtain ⟨k, n, s⟩ := x
  obtain ⟨k', n', s'⟩ := z
  have HX := Lib.hid (box2 w #[.int .i64 k, .int .i64 n, .string s] #[.int .i64 k', .int .i64 n', .string s'])
  have HN := Lib.hid hno
  have HK := Lib.hid hk
  clear hno hk
  go_enter Try.func28, Try.ntmps28
  go_wp2_with fail
  refine (rat_any (HR.out.new (by exact (by repeat (first | exact Below.refl _ _ | assumption | refine Below.setCell ?_ (by first | (simp; done) | (simp; omega) | omega) _ | refine below_drewN ?_ _ | refine Below.drew ?_ | refine Below.alloc ?_ (by first | (simp; done) | (simp; omega) | omega) _)))) ⟨k, n, s⟩ (by omega)).mono ?_
  rintro e w1 ⟨i, rfl, hz, hb1⟩
  have hbw : Below w.heap.size w w1 := Below.trans (by exact (by repeat (first | exact Below.refl _ _ | assumption | refine Below.setCell ?_ (by first | (simp; done) | (simp; omega) | omega) _ | refine below_drewN ?_ _ | refine Below.drew ?_ | refine Below.alloc ?_ (by first | (simp; done) | (simp; omega) | omega) _))) (hb1.mono (by simp; omega))
  have hsz : w.heap.size + 1 < w1.heap.size := by have := hb1.size; simp at this; omega
  have hx := HX.out.1.new' hb1
  have x0 := hx.cell 0
  have x1 := hx.cell 1
  have x2 := hx.cell 2
  simp only [List.getElem?_toArray, List.getElem?_cons_zero, List.getElem?_cons_succ] at x0 x1 x2
  rcases hz.cases with ⟨rfl, _⟩ | ⟨j, p, rfl, _, _, _, hf⟩
  · have HBW := Lib.hid hbw
    have HY := Lib.hid (And.intro hx (HX.out.2.new' hb1))
    clear hz hb1 hx hbw HX
    go_wp2_with (go_at_call 26; refine (rkey_any k n s _).mono ?_; rintro e W ⟨rfl, hb2⟩; rw [HK.out]; have hb3 := HBW.out.trans (hb2.mono HBW.out.size); have cg2 := (hb3.cell (p := ⟨y, 0, none⟩) hy).trans c0; have hy2 : y < W.heap.size := Nat.lt_of_lt_of_le hy hb3.size; have HB2 := Lib.hid hb3; have HZ := Lib.hid (And.intro (HY.out.1.new' hb2) (HY.out.2.new' hb2)); clear hb2 hb3)
    have HD0 : Hid (CellsR W y (.slice A L.length c) w.heap.size (w.heap.size + 1) #[.int .i64 k, .int .i64 n, .string s] #[.int .i64 k', .int .i64 n', .string s']) := Lib.hid ⟨HB.out.new' HB2.out, HZ.out.1, HZ.out.2⟩
    have HOW := Lib.hid (Own.new HO.out HB2.out)
    have HEND0 := Lib.hid (rput_end (o := .cells (pairCs (⟨k, n, s⟩, ⟨k', n', s'⟩)).toArray 42) (⟨k, n, s⟩, ⟨k', n', s'⟩) HS.out HD0.out.g HOW.out HB2.out)
    clear cg2 hy2 HB HO c0 x0 x1 x2 HBW HB2 HY HZ HR HS
    refine wp_region_noPanic ?_
    obtain ⟨i0, hi, hz0, hz1, hz2⟩ := info_parts info_P
    refine AnyBut.start (S := fun w' => w'.cell? ⟨y, 0, none⟩ = some (.slice A L.length c) ∧ w'.cell? ⟨w.heap.size, 0, none⟩ = some (.int .i64 k) ∧ w'.cell? ⟨w.heap.size, 1, none⟩ = some (.int .i64 n) ∧ w'.cell? ⟨w.heap.size, 2, none⟩ = some (.string s) ∧ w'.cell? ⟨w.heap.size + 1, 0, none⟩ = some (.int .i64 k') ∧ w'.cell? ⟨w.heap.size + 1, 1, none⟩ = some (.int .i64 n') ∧ w'.cell? ⟨w.heap.size + 1, 2, none⟩ = some (.string s')) 12 (by kernel_rfl) (HD0.out.held (by exact (by repeat (first | exact Below.refl _ _ | assumption | refine Below.setCell ?_ (by first | (simp; done) | (simp; omega) | omega) _ | refine below_drewN ?_ _ | refine Below.drew ?_ | refine Below.alloc ?_ (by first | (simp; done) | (simp; omega) | omega) _)))) (fun hHeld => ?_)
    have HO4 : Hid (Own W.drew 42 6 (.slice A L.length c) L.length (pcs L)) := Lib.hid (HOW.out.new (by exact (by repeat (first | exact Below.refl _ _ | assumption | refine Below.setCell ?_ (by first | (simp; done) | (simp; omega) | omega) _ | refine below_drewN ?_ _ | refine Below.drew ?_ | refine Below.alloc ?_ (by first | (simp; done) | (simp; omega) | omega) _))))
    have HD4 := Lib.hid (HD0.out.new (w' := W.drew) (by exact (by repeat (first | exact Below.refl _ _ | assumption | refine Below.setCell ?_ (by first | (simp; done) | (simp; omega) | omega) _ | refine below_drewN ?_ _ | refine Below.drew ?_ | refine Below.alloc ?_ (by first | (simp; done) | (simp; omega) | omega) _))))
    have HEND := Lib.hid HEND0.out
    clear HEND0 HOW HD0
    have HALL : Hid (∀ w', Below W.drew.heap.size W.drew w' → (fun w' => w'.cell? ⟨y, 0, none⟩ = some (.slice A L.length c) ∧ w'.cell? ⟨w.heap.size, 0, none⟩ = some (.int .i64 k) ∧ w'.cell? ⟨w.heap.size, 1, none⟩ = some (.int .i64 n) ∧ w'.cell? ⟨w.heap.size, 2, none⟩ = some (.string s) ∧ w'.cell? ⟨w.heap.size + 1, 0, none⟩ = some (.int .i64 k') ∧ w'.cell? ⟨w.heap.size + 1, 1, none⟩ = some (.int .i64 n') ∧ w'.cell? ⟨w.heap.size + 1, 2, none⟩ = some (.string s')) w') := Lib.hid fun w' hb => HD4.out.held hb
    generalize W.drew = Wd at *
    refine AnyBut.take (i := 0) (v := ?_) (by rw [List.getElem?_toArray]; rfl) (by kernel_rfl) (by kernel_rfl) (by kernel_rfl) (by kernel_rfl) (fun _ _ _ h => h) (Or.inl ⟨by rfl, ?_⟩) (by assumption) ?_
    rotate_left 1
    · (intro w_ hSw; (try dsimp only at hSw); go_simp; try with_reducible rfl)
    try simp only [Act.put, List.setIfInBounds_toArray, List.set_cons_zero, List.set_cons_succ]
    refine AnyBut.take (i := 1) (v := ?_) (by rw [List.getElem?_toArray]; rfl) (by kernel_rfl) (by kernel_rfl) (by kernel_rfl) (by kernel_rfl) (fun _ _ _ h => h) (Or.inl ⟨by rfl, ?_⟩) (by assumption) ?_
    rotate_left 1
    · (intro w_ hSw; (try dsimp only at hSw); go_simp; try with_reducible rfl)
    try simp only [Act.put, List.setIfInBounds_toArray, List.set_cons_zero, List.set_cons_succ]
    refine AnyBut.take (i := 2) (v := ?_) (by rw [List.getElem?_toArray]; rfl) (by kernel_rfl) (by kernel_rfl) (by kernel_rfl) (by kernel_rfl) (fun _ _ _ h => h) (Or.inl ⟨by rfl, ?_⟩) (by assumption) ?_
    rotate_left 1
    · (intro w_ hSw; (try dsimp only at hSw); go_simp; try with_reducible rfl)
    try simp only [Act.put, List.setIfInBounds_toArray, List.set_cons_zero, List.set_cons_succ]
    refine AnyBut.take (i := 3) (v := ?_) (by rw [List.getElem?_toArray]; rfl) (by kernel_rfl) (by kernel_rfl) (by kernel_rfl) (by kernel_rfl) (fun _ _ _ h => h) (Or.inl ⟨by rfl, ?_⟩) (by assumption) ?_
    rotate_left 1
    · (intro w_ hSw; (try dsimp only at hSw); go_simp; try with_reducible rfl)
    try simp only [Act.put, List.setIfInBounds_toArray, List.set_cons_zero, List.set_cons_succ]
    refine AnyBut.take (i := 4) (v := ?_) (by rw [List.getElem?_toArray]; rfl) (by kernel_rfl) (by kernel_rfl) (by kernel_rfl) (by kernel_rfl) (fun _ _ _ h => h) (Or.inl ⟨by rfl, ?_⟩) (by assumption) ?_
    rotate_left 1
    · (intro w_ hSw; (try dsimp only at hSw); go_simp; try with_reducible rfl)
    try simp only [Act.put, List.setIfInBounds_toArray, List.set_cons_zero, List.set_cons_succ]
    refine AnyBut.take (i := 5) (v := ?_) (by rw [List.getElem?_toArray]; rfl) (by kernel_rfl) (by kernel_rfl) (by kernel_rfl) (by kernel_rfl) (fun _ _ _ h => h) (Or.inl ⟨by rfl, ?_⟩) (by assumption) ?_
    rotate_left 1
    · (intro w_ hSw; (try dsimp only at hSw); go_simp; try with_reducible rfl)
    try simp only [Act.put, List.setIfInBounds_toArray, List.set_cons_zero, List.set_cons_succ]
    refine AnyBut.take (i := 6) (v := ?_) (by rw [List.getElem?_toArray]; rfl) (by kernel_rfl) (by kernel_rfl) (by kernel_rfl) (by kernel_rfl) (fun _ _ _ h => h) (Or.inl ⟨by rfl, ?_⟩) (by assumption) ?_
    rotate_left 1
    · (intro w_ hSw; (try dsimp only at hSw); go_simp; try with_reducible rfl)
    try simp only [Act.put, List.setIfInBounds_toArray, List.set_cons_zero, List.set_cons_succ]
    refine AnyBut.take (i := 7) (v := ?_) (by rw [List.getElem?_toArray]; rfl) (by kernel_rfl) (by kernel_rfl) (by kernel_rfl) (by kernel_rfl) (fun _ _ _ h => h) (Or.inl ⟨by rfl, ?_⟩) (by assumption) ?_
    rotate_left 1
    · (intro w_ hSw; (try dsimp only at hSw); go_simp; try with_reducible rfl)
    try simp only [Act.put, List.setIfInBounds_toArray, List.set_cons_zero, List.set_cons_succ]
    refine AnyBut.ready (rs := [8]) (by kernel_rfl) (by simp) ?_
    refine ReadyBut.cons (by rw [List.getElem?_toArray]; rfl) (fun K hK => ?_) ReadyBut.nil
    go_simp
    refine hK.out _ _ (HALL.out _ (by exact (by repeat (first | exact Below.refl _ _ | assumption | refine Below.setCell ?_ (by first | (simp; done) | (simp; omega) | omega) _ | refine below_drewN ?_ _ | refine Below.drew ?_ | refine Below.alloc ?_ (by first | (simp; done) | (simp; omega) | omega) _)))) (fun hHeld => ?_)
    clear hK K
    try simp only [Act.put, List.setIfInBounds_toArray, List.set_cons_zero, List.set_cons_succ]
    refine AnyBut.ready (rs := [9]) (by kernel_rfl) (by simp) ?_
    refine ReadyBut.cons (by rw [List.getElem?_toArray]; rfl) (fun K hK => ?_) ReadyBut.nil
    refine step_append_Own _ rfl (.tmp 40) (.tmp 44) 39 rfl 42 i0 _ 6 64 Try.underlying39 hi hz0 hz1 hz2 rfl (.slice A L.length c) L.length (pcs L) rfl (by exact HO4.out.new (by exact (by repeat (first | exact Below.refl _ _ | assumption | refine Below.setCell ?_ (by first | (simp; done) | (simp; omega) | omega) _ | refine below_drewN ?_ _ | refine Below.drew ?_ | refine Below.alloc ?_ (by first | (simp; done) | (simp; omega) | omega) _)))) (some ⟨Wd.heap.size, 0, none⟩) 1 1 (pcs [(⟨k, n, s⟩, ⟨k', n', s'⟩)]) rfl (by exact one_P Wd (⟨k, n, s⟩, ⟨k', n', s'⟩)) (by exact pcs_oneCell _) (by omega) (by omega) ?_
    intro v9 w9 own9 grow9 at9
    obtain ⟨A9, k9, rfl, -, -⟩ := Own.rd own9
    have B9 := Lib.hid (HD4.out.after HO4.out own9 grow9)
    have HS9 := Lib.hid (And.intro own9 (And.intro grow9 at9))
    clear own9 grow9 at9
    have f9 : w9.frozen? ⟨y, 0, none⟩ = false := B9.out.1.frozen 0
    refine hK.out _ _ B9.out.2 (fun hHeld => ?_)
    clear hK K
    try simp only [Act.put, List.setIfInBounds_toArray, List.set_cons_zero, List.set_cons_succ]
    refine AnyBut.ready (rs := [10]) (by kernel_rfl) (by simp) ?_
    refine ReadyBut.cons (by rw [List.getElem?_toArray]; rfl) (fun K hK => ?_) ReadyBut.nil
    go_simp
    refine hK.out _ _ hHeld (fun hHeld => ?_)
    clear hK K
    try simp only [Act.put, List.setIfInBounds_toArray, List.set_cons_zero, List.set_cons_succ]
    refine AnyBut.take (i := 11) (v := ?_) (by rw [List.getElem?_toArray]; rfl) (by kernel_rfl) (by kernel_rfl) (by kernel_rfl) (by kernel_rfl) (fun _ _ _ h => h) (Or.inl ⟨by rfl, ?_⟩) (by assumption) ?_
    rotate_left 1
    · (intro w_ hSw; (try dsimp only at hSw); go_simp; try with_reducible rfl)
    try simp only [Act.put, List.setIfInBounds_toArray, List.set_cons_zero, List.set_cons_succ]
    refine AnyBut.ready (rs := [12]) (by kernel_rfl) (by simp) ?_
    refine ReadyBut.last (by rw [List.getElem?_toArray]; rfl) (fun K hK => ?_)
    have c9 := hHeld.1
    go_simp
    refine hK.out _ _ ?_
    clear hK K
    try simp only [Act.put, List.setIfInBounds_toArray, List.set_cons_zero, List.set_cons_succ]
    refine AnyBut.done (by kernel_rfl) ?_ _
    refine NoPanic.normal ?_
    go_wp2_with fail
    go_ret
    exact ⟨rfl, HEND.out _ w9 HS9.out.1 HS9.out.2.1 HS9.out.2.2⟩
  · rw [HN.out] at hf
    cases hf

theorem rput_any {w : World} {S : Nat → Prop} {y : Nat} {L : List (V × V)} (h : IsRef w S y L) (x z : V) (hL : Keyed L) (hk : ∀ p ∈ L, isKey p.1 = true) (hlen : L.length ≤ 4096) :
    Calls Try.prog 28 #[.pointer (some ⟨y, 0, none⟩), .agg #[.int .i64 x.k, .int .i64 x.n, .string x.s], .agg #[.int .i64 z.k, .int .i64 z.n, .string z.s]] w fun e w' => e = .returned (.bool (putOk L x)) ∧ IsRef w' (Grew S w w') y (putR L x z) ∧ Mod S w w' := by
  cases e : (findL L x).isSome with
  | true =>
    have hkx : isKey x = true := by
      unfold findL at e
      rw [Option.isSome_map] at e
      obtain ⟨p, hp⟩ := Option.isSome_iff_exists.1 e
      have h1 := List.find?_some hp
      have h2 := hk p (List.mem_of_find?_eq_some hp)
      rw [of_decide_eq_true h1] at h2
      exact h2
    refine (rput_there h x z (by omega) hL hkx e).mono ?_
    rintro e' w' ⟨rfl, h1, h2⟩
    exact ⟨by simp [putOk, e], by simp only [putR, e, if_true]; exact h1.grew, h2⟩
  | false =>
    have hno : findL L x = none := by simpa using e
    by_cases hk : isKey x = true ∧ L.length < 4096
    · refine (rput_new h x z hno hk.1 hk.2).mono ?_
      rintro e' w' ⟨rfl, h1, h2⟩
      exact ⟨by simp [putOk, e, hk.1, hk.2], by simp only [putR, e, hk.1, hk.2, decide_true, Bool.and_self, if_true, Bool.false_eq_true, if_false]; exact h1, h2⟩
    · have hk' : isKey x = false ∨ 4096 ≤ L.length := by
        cases hh : isKey x with
        | false => exact .inl rfl
        | true => exact .inr (by rcases Nat.lt_or_ge L.length 4096 with h' | h'; exact absurd ⟨hh, h'⟩ hk; exact h')
      have hb : (isKey x && decide (L.length < 4096)) = false := by
        rcases hk' with h' | h'
        · simp [h']
        · simp; intro _; omega
      refine (rput_no h x z (by omega) hno hk').mono ?_
      rintro e' w' ⟨rfl, h1⟩
      exact ⟨by simp [putOk, e, hb], by simp only [putR, e, hb, Bool.false_eq_true, if_false]; exact (h.new h1).grew, Mod.new h1⟩
end Go.Proofs.Ytfdihmbmlhlkgaa
