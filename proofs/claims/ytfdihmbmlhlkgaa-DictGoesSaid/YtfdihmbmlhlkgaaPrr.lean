/- pairs. -/
import Derived.Test.YtfdihmbmlhlkgaaKys
import Derived.Test.YtfdihmbmlhlkgaaRat
namespace Go.Proofs.Ytfdihmbmlhlkgaa
open Go.RowKit Go.Shelf
attribute [local go_sem] Oper.semAt_some

theorem info_P : (Try.prog.info? 42).map (fun i => (i.zero, i.size, i.bytes)) = some (some (.agg #[.int .i64 0, .int .i64 0, .string ⟨#[]⟩, .int .i64 0, .int .i64 0, .string ⟨#[]⟩]), 6, 64) := by kernel_rfl
theorem pcs_nil : pcs [] = [] := rfl
theorem pcs_one (p : V × V) : pcs [p] = pairCs p := by simp [pcs]
theorem one_P (w : World) (p : V × V) : Rd (w.alloc (.cells (pairCs p).toArray 42)) (some ⟨w.heap.size, 0, none⟩) 1 1 6 (pcs [p]) :=
  ⟨Nat.le_refl _, by omega, by rw [pcs_one]; rfl, fun _ => ⟨_, 0, rfl, by simp, fun j u hu => by
    rw [(Blk.new w 42 (pairCs p).toArray).cell, Nat.zero_add]
    simpa [pcs_one] using hu⟩⟩

set_option maxRecDepth 100000 in
set_option maxHeartbeats 2000000 in
theorem pairs_any {w : World} {S : Nat → Prop} {g : Nat} {L : List (V × V)} (h : IsDict w S g L) :
    Calls Try.prog 20 #[.pointer (some ⟨g, 0, none⟩)] w fun e w' => ∃ v, e = .returned v ∧ NewO 42 6 w w' v L.length (pcs L) := by
  have hmk : ∀ W : World, (Instr.buildSlice 39 0 #[]).run Try.prog W = .ok (.slice (some ⟨W.heap.size, 0, none⟩) 0 0) (W.alloc (.cells #[] 42)) := fun W => by kernel_rfl
  have hnf : ∀ (W : World) (e : Nat), (binOp .eql 45 (.func (.func 36) #[] #[.pointer (some ⟨e, 0, none⟩)]) .nilFunc).run Try.prog W = .ok (.bool false) W := fun W e => by kernel_rfl
  refine (callsIn_wide (n := 9)).1 ?_
  refine callsIn_of_wp_marks Try.func20 rfl trivial ?_ rfl
  simp only [Try.ntmps20, List.size_toArray, List.length_cons, List.length_nil, Nat.reduceAdd, Nat.reduceSub, Array.replicate_succ, Array.replicate_zero, List.push_toArray, List.append_toArray, List.nil_append, List.cons_append]
  refine wpIn_wide.2 ?_
  go_wp2_with fail
  refine (all_any g _).mono ?_
  rintro e w2 ⟨rfl, rfl⟩
  go_wp2_with fail
  have hb2 : Below w.heap.size w (((w.alloc (Obj.cells #[] 42)).alloc (Obj.cells #[Value.slice (some { block := w.heap.size, off := 0 }) 0 0] 39)).alloc (Obj.cells #[Value.pointer (some { block := g, off := 0 })] 27)) := (by repeat (first | exact Below.refl _ _ | assumption | refine Below.setCell ?_ (by first | (simp; done) | (simp; omega) | omega) _ | refine below_drewN ?_ _ | refine Below.drew ?_ | refine Below.alloc ?_ (by first | (simp; done) | (simp; omega) | omega) _))
  have hbox : Blk (((w.alloc (Obj.cells #[] 42)).alloc (Obj.cells #[Value.slice (some { block := w.heap.size, off := 0 }) 0 0] 39)).alloc (Obj.cells #[Value.pointer (some { block := g, off := 0 })] 27)) (w.heap.size + 1 + 1) 27 #[.pointer (some ⟨g, 0, none⟩)] := by
    have hh := Blk.new ((w.alloc (Obj.cells #[] 42)).alloc (Obj.cells #[Value.slice (some { block := w.heap.size, off := 0 }) 0 0] 39)) 27 #[Value.pointer (some { block := g, off := 0 })]
    simp only [World.size_alloc] at hh
    exact hh
  have hout : Blk (((w.alloc (Obj.cells #[] 42)).alloc (Obj.cells #[Value.slice (some { block := w.heap.size, off := 0 }) 0 0] 39)).alloc (Obj.cells #[Value.pointer (some { block := g, off := 0 })] 27)) (w.heap.size + 1) 39 #[.slice (some ⟨w.heap.size, 0, none⟩) 0 0] := by
    have hh := (Blk.new (w.alloc (Obj.cells #[] 42)) 39 #[Value.slice (some { block := w.heap.size, off := 0 }) 0 0]).alloc (Obj.cells #[Value.pointer (some { block := g, off := 0 })] 27)
    simp only [World.size_alloc] at hh
    exact hh
  have hown : Own (((w.alloc (Obj.cells #[] 42)).alloc (Obj.cells #[Value.slice (some { block := w.heap.size, off := 0 }) 0 0] 39)).alloc (Obj.cells #[Value.pointer (some { block := g, off := 0 })] 27)) 42 6 (.slice (some ⟨w.heap.size, 0, none⟩) 0 0) 0 [] := Own.new (NewO.empty 42 6 w).own (by repeat (first | exact Below.refl _ _ | assumption | refine Below.setCell ?_ (by first | (simp; done) | (simp; omega) | omega) _ | refine below_drewN ?_ _ | refine Below.drew ?_ | refine Below.alloc ?_ (by first | (simp; done) | (simp; omega) | omega) _))
  have hz2 : (((w.alloc (Obj.cells #[] 42)).alloc (Obj.cells #[Value.slice (some { block := w.heap.size, off := 0 }) 0 0] 39)).alloc (Obj.cells #[Value.pointer (some { block := g, off := 0 })] 27)).heap.size = w.heap.size + 3 := by simp
  have h2 := h.new hb2
  have hll : L.length ≤ 4096 := by
    obtain ⟨B, v, rs, f, hD, _⟩ := h
    exact hD.len
  clear h hmk
  generalize ((w.alloc (Obj.cells #[] 42)).alloc (Obj.cells #[Value.slice (some { block := w.heap.size, off := 0 }) 0 0] 39)).alloc (Obj.cells #[Value.pointer (some { block := g, off := 0 })] 27) = W2 at *
  generalize hw : w.heap.size = e0 at *
  refine (wpIn_wide (n := 9)).1 ?_
  refine wpIn_rangeFunc_ownH rfl (by omega) (gf := 36) (lb := #[.pointer (some ⟨e0 + 1 + 1, 0, none⟩)]) rfl trivial (enters_of Try.func36 (by kernel_rfl) rfl)
    (all_stops 8 (by omega) (e0 + 1 + 1) g g S S L L W2 h2 h2 hbox) (fun h k => h.trans k) (fun W l o o' _ h1 h2 _ => KpRows.put W l o o' h1 h2) (Below.refl _ _) (fun _ => rfl)
    (fun (pre : List (V × V)) (W : World) => Coll 39 42 6 (e0 + 1) w W pre.length (pcs pre))
    (fun _ _ _ => False)
    (fun s A B row hs hg hr => hs.on (by omega) hg hr) (fun c s A B row hs hg hr => hs) ⟨⟨_, hout, hown, fun b e => by simp [Value.ownBlock] at e; omega⟩, by rw [hw]; exact hb2, by omega⟩
    (fun x a' W => ∃ bx bz, a' = { tmps := #[.pointer (some ⟨g, 0, none⟩), undef, .slice none 0 0, .pointer (some ⟨e0 + 1, 0, none⟩), .func (.func 36) #[] #[.pointer (some ⟨e0 + 1 + 1, 0, none⟩)], .pointer (some ⟨bx, 0, none⟩), .pointer (some ⟨bz, 0, none⟩), .slice (some ⟨e0, 0, none⟩) 0 0, .pointer (some ⟨g, 0, none⟩), .func (.func 36) #[] #[.pointer (some ⟨e0 + 1 + 1, 0, none⟩)], .func (.func 36) #[] #[.pointer (some ⟨e0 + 1 + 1, 0, none⟩)], .bool false, .func (.func 36) #[] #[.pointer (some ⟨e0 + 1 + 1, 0, none⟩)], V.v x.1, V.v x.2, undef, undef, undef, undef, undef, undef, undef], defers := [] } ∧ Blk W bx 24 #[.int .i64 x.1.k, .int .i64 x.1.n, .string x.1.s] ∧ Blk W bz 24 #[.int .i64 x.2.k, .int .i64 x.2.n, .string x.2.s])
    (fun x a' s A B row hs hg hr => by obtain ⟨bx, bz, h1, h2, h3⟩ := hs; exact ⟨bx, bz, h1, h2.on hg hr, h3.on hg hr⟩)
    ?assign ?body ?done ?stop
  case assign =>
    rintro l pre ⟨⟨k1, n1, s1⟩, ⟨k2, n2, s2⟩⟩ W K hI hK
    have hb : Below W.heap.size W ((W.alloc (.cells #[.int .i64 k1, .int .i64 n1, .string s1] 24)).alloc (.cells #[.int .i64 k2, .int .i64 n2, .string s2] 24)) := (by repeat (first | exact Below.refl _ _ | assumption | refine Below.setCell ?_ (by first | (simp; done) | (simp; omega) | omega) _ | refine below_drewN ?_ _ | refine Below.drew ?_ | refine Below.alloc ?_ (by first | (simp; done) | (simp; omega) | omega) _))
    have hx2 : Blk ((W.alloc (.cells #[.int .i64 k1, .int .i64 n1, .string s1] 24)).alloc (.cells #[.int .i64 k2, .int .i64 n2, .string s2] 24)) (W.heap.size + 1) 24 #[.int .i64 k2, .int .i64 n2, .string s2] := by
      have hh := Blk.new (W.alloc (.cells #[.int .i64 k1, .int .i64 n1, .string s1] 24)) 24 #[.int .i64 k2, .int .i64 n2, .string s2]
      rw [World.size_alloc] at hh
      exact hh
    have HK := hK _ _ (below_grew hb _) (KpRows.new hb) (hI.new hb) ⟨W.heap.size, W.heap.size + 1, rfl, (Blk.new W 24 #[.int .i64 k1, .int .i64 n1, .string s1]).alloc _, hx2⟩
    have HK' := Lib.hid HK
    clear HK hK hx2
    simp only [encP, V.v]
    gi_wp2
    simp only [V.v] at HK'
    exact HK'.out
  case body =>
    rintro l pre ⟨⟨k1, n1, s1⟩, ⟨k2, n2, s2⟩⟩ a' W hl hlr hI ⟨bx, bz, rfl, hbx, hbz⟩ hlen
    obtain ⟨v, h1, h2', h3⟩ := hI.box
    obtain ⟨A, c, rfl, -, -⟩ := Own.rd h2'
    have x0 := hbx.cell 0
    have x1 := hbx.cell 1
    have x2 := hbx.cell 2
    have y0 := hbz.cell 0
    have y1 := hbz.cell 1
    have y2 := hbz.cell 2
    have q0 := h1.cell 0
    simp only [List.getElem?_toArray, List.getElem?_cons_zero, List.getElem?_cons_succ] at x0 x1 x2 y0 y1 y2 q0
    have hl0 := h1.lt
    have hlx := hbx.lt
    have hlz := hbz.lt
    have hn : Below W.heap.size W (W.alloc (.cells (pairCs (⟨k1, n1, s1⟩, ⟨k2, n2, s2⟩)).toArray 42)) := (by repeat (first | exact Below.refl _ _ | assumption | refine Below.setCell ?_ (by first | (simp; done) | (simp; omega) | omega) _ | refine below_drewN ?_ _ | refine Below.drew ?_ | refine Below.alloc ?_ (by first | (simp; done) | (simp; omega) | omega) _))
    have HP := Lib.hid (And.intro h1 (And.intro h2' (And.intro h3 (And.intro hI.bel hn))))
    have HO := Lib.hid (Own.new h2' hn)
    obtain ⟨i0, hi, hy0, hy1, hy2⟩ := info_parts info_P
    have HI0 := Lib.hid (And.intro hi (And.intro hy0 (And.intro hy1 hy2)))
    clear h1 h2' h3 hI hbx hbz hn hlr hi hy0 hy1 hy2
    gi_wp2_with (gi_at_builtin; refine wpListIn_append_Own _ rfl (.tmp 15) (.tmp 19) 39 rfl 42 i0 _ 6 64 Try.underlying39 HI0.out.1 HI0.out.2.1 HI0.out.2.2.1 HI0.out.2.2.2 rfl (.slice A pre.length c) pre.length (pcs pre) rfl HO.out (some ⟨W.heap.size, 0, none⟩) 1 1 (pcs [(⟨k1, n1, s1⟩, ⟨k2, n2, s2⟩)]) rfl (one_P W (⟨k1, n1, s1⟩, ⟨k2, n2, s2⟩)) (pcs_oneCell _) (by omega) (by omega) ?_; intro v6 w6 ho6 hg6 ha6; obtain ⟨A6, c6, rfl, -, -⟩ := Own.rd ho6; obtain ⟨g1, g2, g3, g4, g5⟩ := HP.out; obtain ⟨c06, f06, hc6, hm6⟩ := Coll.push (by decide) g4 g5 g1 g2 g3 ho6 hg6 ha6 (by omega); have HC6 := Lib.hid hc6; have HM6 := Lib.hid hm6; clear ho6 hg6 ha6 hc6 hm6 g1 g2 g3 g4 g5)
    exact ⟨coll_from HP.out.1 HP.out.2.1 HM6.out, coll_kp (by decide) (by decide) (by decide) (by decide) HP.out.1 HP.out.2.1 HM6.out, by
      show Coll 39 42 6 (e0 + 1) w _ (pre ++ [_]).length (pcs (pre ++ [_]))
      rw [List.length_append, pcs_append]
      exact HC6.out⟩
  case done =>
    rintro D xs W hD rfl hI hdef
    obtain ⟨v, h1, h2', h3⟩ := hI.box
    have q0 := h1.cell 0
    simp only [List.getElem?_toArray, List.getElem?_cons_zero] at q0
    have hl0 := h1.lt
    have HE := Lib.hid (fun W'' (hk : Unmarked [D] W W'') => Coll.done h2' h3 hI.bel (.one hdef (by omega)) hk)
    have hmk := Marks.one (w0 := w) hdef (by omega)
    have HMK := Lib.hid hmk
    clear hI h1 h2' h3 hdef hb2 h2 hmk
    go_wp2_with fail
    exact leaves_marks [D] W HMK.out fun W'' hk => ⟨results_tmp rfl _ _ _, v, rfl, HE.out W'' hk⟩
  case stop =>
    rintro D c pre W _ _ h
    exact h.elim
end Go.Proofs.Ytfdihmbmlhlkgaa
