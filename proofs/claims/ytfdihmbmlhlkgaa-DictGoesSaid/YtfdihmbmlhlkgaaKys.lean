/- Keys. -/
import Derived.Test.YtfdihmbmlhlkgaaMks
import Derived.Outline
namespace Go.Proofs.Ytfdihmbmlhlkgaa
open Go.RowKit Go.Shelf
attribute [local go_sem] Oper.semAt_some

/-- the collecting under way, all of it made since w: box e0 holds the row -/
structure Coll (t te sz : Nat) (e0 : Nat) (w W : World) (n : Nat) (cs : List Value) : Prop where
  box : ∃ v, Blk W e0 t #[v] ∧ Own W te sz v n cs ∧ ∀ b, v.ownBlock = some b → w.heap.size ≤ b
  bel : Below w.heap.size w W
  base : w.heap.size ≤ e0
section
variable {t te sz e0 n : Nat} {w W W' : World} {cs : List Value}
theorem Coll.on {B0 : Nat} {row : Option Nat} (h : Coll t te sz e0 w W n cs) (hB : w.heap.size ≤ B0) (hg : W.grownBy W' row) (hr : ∀ r, row = some r → B0 ≤ r ∧ ∃ o : Obj, W.heap[r]? = some o ∧ o.isCells = false) : Coll t te sz e0 w W' n cs := by
  obtain ⟨v, h1, h2, h3⟩ := h.box
  exact ⟨⟨v, h1.on hg hr, Own.on h2 hg hr, h3⟩, h.bel.grown hg h.bel.size fun k e => by have := (hr k e).1; omega, h.base⟩
theorem Coll.new (h : Coll t te sz e0 w W n cs) (hb : Below W.heap.size W W') : Coll t te sz e0 w W' n cs := by
  obtain ⟨v, h1, h2, h3⟩ := h.box
  exact ⟨⟨v, h1.new' hb, Own.new h2 hb, h3⟩, h.bel.trans (hb.mono h.bel.size), h.base⟩
/-- behind an append and the store -/
theorem Coll.push (hte : te ≠ t) {v v' : Value} {Wn W6 : World} {n' : Nat} {cs' : List Value} (hb : Below w.heap.size w W) (hbn : Below W.heap.size W Wn) (h1 : Blk W e0 t #[v]) (h2 : Own W te sz v n cs) (h3 : ∀ b, v.ownBlock = some b → w.heap.size ≤ b)
    (ho : Own W6 te sz v' n' cs') (hg : Wn.grownBy W6 v.ownBlock) (ha : v'.ownBlock = v.ownBlock ∨ v'.ownBlock = some Wn.heap.size) (he : w.heap.size ≤ e0) :
    W6.cell? ⟨e0, 0, none⟩ = some v ∧ W6.frozen? ⟨e0, 0, none⟩ = false ∧ Coll t te sz e0 w (W6.setCell ⟨e0, 0, none⟩ v') n' cs' ∧ Mod (fun i => i = e0 ∨ v.ownBlock = some i) W (W6.setCell ⟨e0, 0, none⟩ v') := by
  have n0 : v.ownBlock ≠ some e0 := own_blk_ne h2 h1 hte
  have m6 : Mod (fun i => v.ownBlock = some i) W W6 := (Mod.new hbn).grown hg fun k e _ => e
  have k6 : Blk W6 e0 t #[v] := h1.mod m6 n0
  have m7 : Mod (fun i => i = e0 ∨ v.ownBlock = some i) W (W6.setCell ⟨e0, 0, none⟩ v') := (m6.mono fun i _ h => .inr h).setCell (p := ⟨e0, 0, none⟩) (fun _ => .inl rfl) _
  have hz : w.heap.size ≤ W.heap.size := hb.size
  refine ⟨k6.cell 0, k6.frozen 0, ⟨⟨v', k6.set_ 0 v', Own.keep ho fun b e => Below.heap_setCell _ _ _ _ ?_, fun b e => ?_⟩, hb.trans (m7.below hz fun i hi h => ?_), he⟩, m7⟩
  · rintro rfl
    exact own_blk_ne ho k6 hte e
  · rcases ha with e' | e' <;> rw [e'] at e
    · exact h3 b e
    · injection e with e
      have := hbn.size
      omega
  · rcases h with rfl | h
    · omega
    · have := h3 i h
      omega
/-- what is left of it at the return -/
theorem Coll.done {v : Value} {W'' : World} {D : Nat} (h1 : Own W te sz v n cs) (h3 : ∀ b, v.ownBlock = some b → w.heap.size ≤ b) (hb : Below w.heap.size w W) (hm : Marks w W [D]) (hk : Unmarked [D] W W'') : NewO te sz w W'' v n cs :=
  ⟨hk.own hm h1, h3, hk.below hm hb⟩
end
/-- a block of cells that is not one of the two lies as it lay -/
theorem coll_from {t te sz e0 n B : Nat} {W W' : World} {v : Value} {cs : List Value} (h1 : Blk W e0 t #[v]) (h2 : Own W te sz v n cs) (hm : Mod (fun i => i = e0 ∨ v.ownBlock = some i) W W') : KeepsFrom B W W' :=
  hm.from B fun i o hi ho => .inl (by
    rcases hi with rfl | e
    · unfold Blk at h1; rw [h1] at ho; cases ho; rfl
    · rcases h2.2 with ⟨rfl, _⟩ | ⟨b', _, cur, rfl, hb, _⟩
      · cases e
      · obtain rfl : b' = i := by simpa [Value.ownBlock] using e
        rw [hb] at ho; cases ho; rfl)
theorem coll_kp {t te sz e0 n g : Nat} {W W' : World} {v : Value} {cs : List Value} (n1 : t ≠ 71) (n2 : t ≠ 73) (n3 : te ≠ 71) (n4 : te ≠ 73) (h1 : Blk W e0 t #[v]) (h2 : Own W te sz v n cs) (hm : Mod (fun i => i = e0 ∨ v.ownBlock = some i) W W') : KpRows g W W' :=
  .of_same hm.size fun b t' cs' hb ht => hb.mod hm (by
    rintro (rfl | e)
    · refine Blk.ne_ hb h1 ?_ rfl
      rcases ht with rfl | rfl <;> first | exact Ne.symm n1 | exact Ne.symm n2
    · refine own_blk_ne h2 hb ?_ e
      rcases ht with rfl | rfl <;> assumption)
theorem one_V (w : World) (x : V) : Rd (w.alloc (.cells #[.int .i64 x.k, .int .i64 x.n, .string x.s] 24)) (some ⟨w.heap.size, 0, none⟩) 1 1 3 (vcs [x]) :=
  ⟨Nat.le_refl _, by omega, rfl, fun _ => ⟨_, 0, rfl, by simp, fun j u hu => by
    rw [(Blk.new w 24 #[.int .i64 x.k, .int .i64 x.n, .string x.s]).cell, Nat.zero_add]
    simpa [vcs_one] using hu⟩⟩

set_option maxRecDepth 100000 in
set_option maxHeartbeats 2000000 in
theorem keys_any {w : World} {S : Nat → Prop} {g : Nat} {L : List (V × V)} (h : IsDict w S g L) :
    Calls Try.prog 16 #[.pointer (some ⟨g, 0, none⟩)] w fun e w' => ∃ v, e = .returned v ∧ NewO 24 3 w w' v L.length (vcs (L.map Prod.fst)) := by
  refine (callsIn_wide (n := 9)).1 ?_
  refine callsIn_of_wp_marks Try.func16 rfl trivial ?_ rfl
  simp only [Try.ntmps16, List.size_toArray, List.length_cons, List.length_nil, Nat.reduceAdd, Nat.reduceSub, Array.replicate_succ, Array.replicate_zero, List.push_toArray, List.append_toArray, List.nil_append, List.cons_append]
  refine wpIn_wide.2 ?_
  go_wp2_with fail
  refine (all_any g _).mono ?_
  rintro e w2 ⟨rfl, rfl⟩
  go_wp2_with fail
  have hb2 : Below w.heap.size w ((w.alloc (Obj.cells #[Value.slice none 0 0] 33)).alloc (Obj.cells #[Value.pointer (some { block := g, off := 0 })] 27)) := (by repeat (first | exact Below.refl _ _ | assumption | refine Below.setCell ?_ (by first | (simp; done) | (simp; omega) | omega) _ | refine below_drewN ?_ _ | refine Below.drew ?_ | refine Below.alloc ?_ (by first | (simp; done) | (simp; omega) | omega) _))
  have hbox : Blk ((w.alloc (Obj.cells #[Value.slice none 0 0] 33)).alloc (Obj.cells #[Value.pointer (some { block := g, off := 0 })] 27)) (w.heap.size + 1) 27 #[.pointer (some ⟨g, 0, none⟩)] := by
    have hh := Blk.new (w.alloc (Obj.cells #[Value.slice none 0 0] 33)) 27 #[Value.pointer (some { block := g, off := 0 })]
    rw [World.size_alloc] at hh
    exact hh
  have hout : Blk ((w.alloc (Obj.cells #[Value.slice none 0 0] 33)).alloc (Obj.cells #[Value.pointer (some { block := g, off := 0 })] 27)) w.heap.size 33 #[.slice none 0 0] := by
    exact (Blk.new w 33 _).alloc _
  have hz2 : ((w.alloc (Obj.cells #[Value.slice none 0 0] 33)).alloc (Obj.cells #[Value.pointer (some { block := g, off := 0 })] 27)).heap.size = w.heap.size + 2 := by simp
  have h2 := h.new hb2
  have hll : L.length ≤ 4096 := by
    obtain ⟨B, v, rs, f, hD, _⟩ := h
    exact hD.len
  clear h
  generalize (w.alloc (Obj.cells #[Value.slice none 0 0] 33)).alloc (Obj.cells #[Value.pointer (some { block := g, off := 0 })] 27) = W2 at *
  generalize hw : w.heap.size = e0 at *
  refine (wpIn_wide (n := 9)).1 ?_
  refine wpIn_rangeFunc_ownH rfl (by omega) (gf := 36) (lb := #[.pointer (some ⟨e0 + 1, 0, none⟩)]) rfl trivial (enters_of Try.func36 (by kernel_rfl) rfl)
    (all_stops 8 (by omega) (e0 + 1) g g S S L L W2 h2 h2 hbox) (fun h k => h.trans k) (fun W l o o' _ h1 h2 _ => KpRows.put W l o o' h1 h2) (Below.refl _ _) (fun _ => rfl)
    (fun (pre : List (V × V)) (W : World) => Coll 33 24 3 e0 w W pre.length (vcs (pre.map Prod.fst)))
    (fun _ _ _ => False)
    (fun s A B row hs hg hr => hs.on (by omega) hg hr) (fun c s A B row hs hg hr => hs) ⟨⟨_, hout, Own.nil_ _ _ _, fun b e => by cases e⟩, by rw [hw]; exact hb2, by omega⟩
    (fun x a' W => ∃ bx, a' = { tmps := #[.pointer (some ⟨g, 0, none⟩), undef, .slice none 0 0, .pointer (some ⟨e0, 0, none⟩), .pointer (some ⟨bx, 0, none⟩), .pointer (some ⟨g, 0, none⟩), .func (.func 36) #[] #[.pointer (some ⟨e0 + 1, 0, none⟩)], V.v x.1, V.v x.2, undef, undef, undef, undef, undef], defers := [] } ∧ Blk W bx 24 #[.int .i64 x.1.k, .int .i64 x.1.n, .string x.1.s])
    (fun x a' s A B row hs hg hr => by obtain ⟨bx, h1, h2⟩ := hs; exact ⟨bx, h1, h2.on hg hr⟩)
    ?assign ?body ?done ?stop
  case assign =>
    rintro l pre ⟨⟨k1, n1, s1⟩, ⟨k2, n2, s2⟩⟩ W K hI hK
    have hb : Below W.heap.size W (W.alloc (.cells #[.int .i64 k1, .int .i64 n1, .string s1] 24)) := (by repeat (first | exact Below.refl _ _ | assumption | refine Below.setCell ?_ (by first | (simp; done) | (simp; omega) | omega) _ | refine below_drewN ?_ _ | refine Below.drew ?_ | refine Below.alloc ?_ (by first | (simp; done) | (simp; omega) | omega) _))
    have HK := hK _ _ (below_grew hb _) (KpRows.new hb) (hI.new hb) ⟨W.heap.size, rfl, Blk.new W 24 #[.int .i64 k1, .int .i64 n1, .string s1]⟩
    have HK' := Lib.hid HK
    clear HK hK
    simp only [encP, V.v]
    gi_wp2
    simp only [V.v] at HK'
    exact HK'.out
  case body =>
    rintro l pre ⟨⟨k1, n1, s1⟩, ⟨k2, n2, s2⟩⟩ a' W hl hlr hI ⟨bx, rfl, hbx⟩ hlen
    obtain ⟨v, h1, h2', h3⟩ := hI.box
    obtain ⟨A, c, rfl, -, -⟩ := Own.rd h2'
    have x0 := hbx.cell 0
    have x1 := hbx.cell 1
    have x2 := hbx.cell 2
    have q0 := h1.cell 0
    simp only [List.getElem?_toArray, List.getElem?_cons_zero, List.getElem?_cons_succ] at x0 x1 x2 q0
    have hl0 := h1.lt
    have hlx := hbx.lt
    have hn : Below W.heap.size W (W.alloc (.cells #[.int .i64 k1, .int .i64 n1, .string s1] 24)) := (by repeat (first | exact Below.refl _ _ | assumption | refine Below.setCell ?_ (by first | (simp; done) | (simp; omega) | omega) _ | refine below_drewN ?_ _ | refine Below.drew ?_ | refine Below.alloc ?_ (by first | (simp; done) | (simp; omega) | omega) _))
    have HP := Lib.hid (And.intro h1 (And.intro h2' (And.intro h3 (And.intro hI.bel hn))))
    have HO := Lib.hid (Own.new h2' hn)
    obtain ⟨i0, hi, hy0, hy1, hy2⟩ := info_parts info_V
    have HI0 := Lib.hid (And.intro hi (And.intro hy0 (And.intro hy1 hy2)))
    clear h1 h2' h3 hI hbx hn hlr hi hy0 hy1 hy2
    gi_wp2_with (gi_at_builtin; refine wpListIn_append_Own _ rfl (.tmp 9) (.tmp 11) 33 rfl 24 i0 _ 3 32 Try.underlying33 HI0.out.1 HI0.out.2.1 HI0.out.2.2.1 HI0.out.2.2.2 rfl (.slice A pre.length c) pre.length (vcs (pre.map Prod.fst)) rfl HO.out (some ⟨W.heap.size, 0, none⟩) 1 1 (vcs [⟨k1, n1, s1⟩]) rfl (one_V W ⟨k1, n1, s1⟩) (vcs_oneCell _) (by omega) (by omega) ?_; intro v6 w6 ho6 hg6 ha6; obtain ⟨A6, c6, rfl, -, -⟩ := Own.rd ho6; obtain ⟨g1, g2, g3, g4, g5⟩ := HP.out; obtain ⟨c06, f06, hc6, hm6⟩ := Coll.push (by decide) g4 g5 g1 g2 g3 ho6 hg6 ha6 (by omega); have HC6 := Lib.hid hc6; have HM6 := Lib.hid hm6; clear ho6 hg6 ha6 hc6 hm6 g1 g2 g3 g4 g5)
    exact ⟨coll_from HP.out.1 HP.out.2.1 HM6.out, coll_kp (by decide) (by decide) (by decide) (by decide) HP.out.1 HP.out.2.1 HM6.out, by
      show Coll 33 24 3 e0 w _ (pre ++ [_]).length (vcs ((pre ++ [_]).map Prod.fst))
      rw [List.length_append, List.map_append, vcs_append]
      exact HC6.out⟩
  case done =>
    rintro D xs W hD rfl hI hdef
    obtain ⟨v, h1, h2', h3⟩ := hI.box
    have q0 := h1.cell 0
    simp only [List.getElem?_toArray, List.getElem?_cons_zero] at q0
    have hl0 := h1.lt
    have HE := Lib.hid (fun W'' (hk : Unmarked [D] W W'') => Coll.done h2' h3 hI.bel (.one hdef (by omega)) hk)
    have hmk := Marks.one (w0 := w) hdef (by omega)
    have HMK := Lib.hid hmk
    clear hI h1 h2' h3 hdef hb2 h2 hmk
    go_wp2_with fail
    exact leaves_marks [D] W HMK.out fun W'' hk => ⟨results_tmp rfl _ _ _, v, rfl, HE.out W'' hk⟩
  case stop =>
    rintro D c pre W _ _ h
    exact h.elim
end Go.Proofs.Ytfdihmbmlhlkgaa
