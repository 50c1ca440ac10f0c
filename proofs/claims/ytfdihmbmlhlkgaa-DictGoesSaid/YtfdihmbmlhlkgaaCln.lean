/- Clone. -/
import Derived.Test.YtfdihmbmlhlkgaaPrr
namespace Go.Proofs.Ytfdihmbmlhlkgaa
open Go.RowKit Go.Shelf
attribute [local go_sem] Oper.semAt_some

/-- pairs whose keys may be keys -/
abbrev OkP := { p : V × V // p.1.Ok ∧ isKey p.1 = true }
/-- all these put, one behind the other -/
def putAll (L : List (V × V)) (ps : List (V × V)) : List (V × V) := ps.foldl (fun l p => putR l p.1 p.2) L
theorem findL_append_none {L : List (V × V)} {k : V} (h : ∀ p ∈ L, p.1 ≠ k) : findL L k = none := by
  unfold findL
  rw [Option.map_eq_none_iff, List.find?_eq_none]
  intro p hp
  simpa using h p hp
theorem putAll_new (ps : List (V × V)) : ∀ (L : List (V × V)), (L ++ ps).Pairwise (fun p q => p.1 ≠ q.1) → (∀ p ∈ ps, isKey p.1 = true) → (L ++ ps).length ≤ 4096 → putAll L ps = L ++ ps := by
  induction ps with
  | nil => intro L _ _ _; simp [putAll]
  | cons p ps ih =>
    intro L hn hk hl
    have h1 : findL L p.1 = none := findL_append_none fun q hq e => by
      rw [List.pairwise_append] at hn
      exact hn.2.2 q hq p (by simp) e
    have h2 : putR L p.1 p.2 = L ++ [p] := by
      have : L.length < 4096 := by simp at hl; omega
      simp [putR, h1, hk p (by simp), this]
    have e : L ++ p :: ps = (L ++ [p]) ++ ps := by simp
    show putAll (putR L p.1 p.2) ps = _
    rw [h2, e]
    exact ih _ (by rw [← e]; exact hn) (fun q hq => hk q (by simp [hq])) (by rw [← e]; exact hl)

theorem putAll_snoc (L ps : List (V × V)) (p : V × V) : putAll L (ps ++ [p]) = putR (putAll L ps) p.1 p.2 := by simp [putAll]
theorem DictAt.nodup {w : World} {g B : Nat} {v : Value} {rs : List Row} {f : V → Option Nat} {L : List (V × V)} (h : DictAt w g B v rs f L) : L.Pairwise (fun p q => p.1 ≠ q.1) := by
  have := h.keys.nodup
  rwa [h.live] at this
theorem IsDict.facts {w : World} {S : Nat → Prop} {g : Nat} {L : List (V × V)} (h : IsDict w S g L) : L.Pairwise (fun p q => p.1 ≠ q.1) ∧ (∀ p ∈ L, p.1.Ok ∧ isKey p.1 = true) ∧ L.length ≤ 4096 := by
  obtain ⟨B, v, rs, f, hD, _⟩ := h
  exact ⟨hD.nodup, hD.ok, hD.len⟩
/-- just the blocks of the dict -/
def Foot (w : World) (g i : Nat) : Prop := i = g ∨ ∃ m v, Blk w g 71 #[m, v] ∧ (m = .map (some i) ∨ v.ownBlock = some i)
section
variable {w w' : World} {g : Nat} {S : Nat → Prop} {L L' : List (V × V)}
theorem IsDict.tight (h : IsDict w S g L) : IsDict w (Foot w g) g L ∧ ∀ i, Foot w g i → S i := by
  obtain ⟨B, v, rs, f, h, h1, h2, h3, h4⟩ := h
  have hS : ∀ i, Foot w g i → S i := by
    rintro i (rfl | ⟨m', v', hm, e⟩)
    · exact h1
    · have h5 := h.blk
      unfold Blk at h5 hm
      rw [h5] at hm
      cases hm
      rcases e with e | e
      · injection e with e
        injection e with e
        subst e
        exact h2
      · exact h3 i e
  exact ⟨⟨B, v, rs, f, h, .inl rfl, .inr ⟨_, _, h.blk, .inl rfl⟩, fun b e => .inr ⟨_, _, h.blk, .inr e⟩, fun i hi => h4 i (hS i hi)⟩, hS⟩
theorem IsDict.foot_cells (h : IsDict w S g L) (i : Nat) (o : Obj) (hi : Foot w g i) (ho : w.heap[i]? = some o) : o.isCells = true ∨ i < g := by
  obtain ⟨B, v, rs, f, h, _⟩ := h
  rcases hi with rfl | ⟨m', v', hm, e⟩
  · have h5 := h.blk
    unfold Blk at h5
    rw [h5] at ho
    cases ho
    exact .inl rfl
  · have h5 := h.blk
    unfold Blk at h5 hm
    rw [h5] at hm
    cases hm
    rcases e with e | e
    · injection e with e
      injection e with e
      subst e
      exact .inr h.lt
    · rcases h.own.2 with ⟨rfl, _⟩ | ⟨b', _, cur, rfl, hb, _⟩
      · cases e
      · obtain rfl : b' = i := by simpa [Value.ownBlock] using e
        rw [hb] at ho
        cases ho
        exact .inl rfl
/-- what a call that turns the dict's blocks alone leaves to a loop about it -/
theorem foot_keeps (h : IsDict w S g L) (h' : IsDict w' (Grew (Foot w g) w w') g L') (hm : Mod (Foot w g) w w') (B0 : Nat) (hB : g ≤ B0) : KeepsFrom B0 w w' ∧ KpRows g w w' := by
  refine ⟨hm.from B0 fun i o hi ho => (h.foot_cells i o hi ho).imp id (fun h => by omega), hm.size, fun _ => ⟨h'.isD, fun b cs hb hr => ?_⟩⟩
  have hnf : ¬ Foot w g b := by
    rintro (rfl | ⟨m', v', hm', e⟩)
    · obtain ⟨m, v, hd⟩ := h.isD
      exact Blk.ne_ hb hd (by decide) rfl
    · rcases e with e | e
      · obtain ⟨B, v, rs, f, hD, _⟩ := h
        have h5 := hD.blk
        unfold Blk at h5 hm'
        rw [h5] at hm'
        cases hm'
        injection e with e
        injection e with e
        exact hD.map.ne_blk hb e
      · exact hr ⟨m', v', hm', e⟩
  refine ⟨hb.mod hm hnf, fun hr' => ?_⟩
  rcases (h'.row hr').1 with h1 | h1
  · exact hnf h1
  · have := hb.lt
    omega
end
/-- a dict made since w -/
def NewD (w W : World) (g : Nat) (L : List (V × V)) : Prop := ∃ S, IsDict W S g L ∧ (∀ i, S i → w.heap.size ≤ i) ∧ Below w.heap.size w W
section
variable {w W W' : World} {g e0 g2 B0 : Nat} {L L' : List (V × V)} {row : Option Nat}
theorem NewD.new (h : NewD w W g L) (hb : Below W.heap.size W W') : NewD w W' g L := by
  obtain ⟨S, h1, h2, h3⟩ := h
  exact ⟨S, h1.new hb, h2, h3.trans (hb.mono h3.size)⟩
theorem NewD.on (h : NewD w W g L) (hB : w.heap.size ≤ B0) (hgB : g ≤ B0) (hg : W.grownBy W' row) (hr : ∀ r, row = some r → B0 ≤ r ∧ ∃ o : Obj, W.heap[r]? = some o ∧ o.isCells = false) : NewD w W' g L := by
  obtain ⟨S, h1, h2, h3⟩ := h
  exact ⟨S, h1.on hgB hg hr, h2, h3.grown hg h3.size fun k e => by have := (hr k e).1; omega⟩
theorem NewD.tight (h : NewD w W g L) : IsDict W (Foot W g) g L ∧ (∀ i, Foot W g i → w.heap.size ≤ i) ∧ Below w.heap.size w W := by
  obtain ⟨S, h1, h2, h3⟩ := h
  obtain ⟨h4, h5⟩ := h1.tight
  exact ⟨h4, fun i hi => h2 i (h5 i hi), h3⟩
theorem NewD.put (h : NewD w W g L) (h' : IsDict W' (Grew (Foot W g) W W') g L') (hm : Mod (Foot W g) W W') : NewD w W' g L' := by
  obtain ⟨h1, h2, h3⟩ := h.tight
  exact ⟨_, h', fun i hi => hi.elim (h2 i) (fun h => by have := h3.size; omega), h3.trans (hm.below h3.size fun i hi hf => by have := h2 i hf; omega)⟩
end
theorem IsDict.unmarked {w W W' : World} {S : Nat → Prop} {g : Nat} {L : List (V × V)} {Ds : List Nat} (h : IsDict W S g L) (hM : Marks w W Ds) (hk : Unmarked Ds W W') : IsDict W' S g L := by
  obtain ⟨B, v, rs, f, h, h1, h2, h3, h4⟩ := h
  refine ⟨B, v, rs, f, h.mod hk.mod (hM.ne_cells h.blk fun x e => by cases e) ?_ (fun b e => ?_), h1, h2, h3, fun i hi => Nat.lt_of_lt_of_le (h4 i hi) hk.mod.size⟩
  · obtain ⟨D, ⟨es, clock, e, _⟩, _⟩ := h.map
    exact hM.ne_cells e fun x e => by cases e
  · rcases h.own.2 with ⟨rfl, _⟩ | ⟨b', _, cur, rfl, hb, _⟩
    · cases e
    · obtain rfl : b' = b := by simpa [Value.ownBlock] using e
      exact hM.ne_cells hb fun x e => by cases e
theorem NewD.unmarked {w W W' : World} {g : Nat} {L : List (V × V)} {Ds : List Nat} (h : NewD w W g L) (hM : Marks w W Ds) (hk : Unmarked Ds W W') : NewD w W' g L := by
  obtain ⟨S, h1, h2, h3⟩ := h
  exact ⟨S, h1.unmarked hM hk, h2, hk.below hM h3⟩
def pairsOf (l : List OkP) : List (V × V) := l.map Subtype.val
/-- the clone under way -/
structure CloneW (e0 g2 : Nat) (w W : World) (L : List (V × V)) : Prop where
  box : Blk W e0 27 #[.pointer (some ⟨g2, 0, none⟩)]
  d : NewD w W g2 L

set_option maxRecDepth 100000 in
set_option maxHeartbeats 2000000 in
theorem clone_any {w : World} {S : Nat → Prop} {g : Nat} {L : List (V × V)} (h : IsDict w S g L) :
    Calls Try.prog 32 #[.pointer (some ⟨g, 0, none⟩)] w fun e w' => ∃ g2, e = .returned (.pointer (some ⟨g2, 0, none⟩)) ∧ NewD w w' g2 L := by
  refine (callsIn_wide (n := 9)).1 ?_
  refine callsIn_of_wp_marks Try.func32 rfl trivial ?_ rfl
  simp only [Try.ntmps32, List.size_toArray, List.length_cons, List.length_nil, Nat.reduceAdd, Nat.reduceSub, Array.replicate_succ, Array.replicate_zero, List.push_toArray, List.append_toArray, List.nil_append, List.cons_append]
  refine wpIn_wide.2 ?_
  go_wp2_with fail
  refine (new_any _).mono ?_
  rintro e w1 ⟨g2, rfl, hd1, hb1⟩
  go_wp2_with fail
  refine (all_any g _).mono ?_
  rintro e w2 ⟨rfl, rfl⟩
  go_wp2_with fail
  have hb2 : Below w1.heap.size w1 ((w1.alloc (Obj.cells #[Value.pointer (some { block := g2, off := 0 })] 27)).alloc (Obj.cells #[Value.pointer (some { block := g, off := 0 })] 27)) := (by repeat (first | exact Below.refl _ _ | assumption | refine Below.setCell ?_ (by first | (simp; done) | (simp; omega) | omega) _ | refine below_drewN ?_ _ | refine Below.drew ?_ | refine Below.alloc ?_ (by first | (simp; done) | (simp; omega) | omega) _))
  have hbox : Blk ((w1.alloc (Obj.cells #[Value.pointer (some { block := g2, off := 0 })] 27)).alloc (Obj.cells #[Value.pointer (some { block := g, off := 0 })] 27)) (w1.heap.size + 1) 27 #[.pointer (some ⟨g, 0, none⟩)] := by
    have hh := Blk.new (w1.alloc (Obj.cells #[Value.pointer (some { block := g2, off := 0 })] 27)) 27 #[Value.pointer (some { block := g, off := 0 })]
    rw [World.size_alloc] at hh
    exact hh
  have hout : Blk ((w1.alloc (Obj.cells #[Value.pointer (some { block := g2, off := 0 })] 27)).alloc (Obj.cells #[Value.pointer (some { block := g, off := 0 })] 27)) w1.heap.size 27 #[.pointer (some ⟨g2, 0, none⟩)] := (Blk.new w1 27 _).alloc _
  have hz2 : ((w1.alloc (Obj.cells #[Value.pointer (some { block := g2, off := 0 })] 27)).alloc (Obj.cells #[Value.pointer (some { block := g, off := 0 })] 27)).heap.size = w1.heap.size + 2 := by simp
  have h2 := (h.new hb1).new hb2
  have hg2 : g2 < w1.heap.size := by
    obtain ⟨B, v, rs, f, hD, _⟩ := hd1
    exact hD.blk.lt
  have hwg : w.heap.size ≤ g2 := by
    obtain ⟨B, v, rs, f, hD, hg, _⟩ := hd1
    rcases hg with hg | hg
    · exact hg.elim
    · exact hg.1
  have hn2 : NewD w ((w1.alloc (Obj.cells #[Value.pointer (some { block := g2, off := 0 })] 27)).alloc (Obj.cells #[Value.pointer (some { block := g, off := 0 })] 27)) g2 [] := NewD.new ⟨_, hd1, fun i hi => hi.elim False.elim (fun h => h.1), hb1⟩ hb2
  obtain ⟨hnd, hok, hll⟩ := h.facts
  obtain ⟨La, hLa⟩ : ∃ La : List OkP, La.map Subtype.val = L := ⟨L.attach.map fun p => ⟨p.1, hok p.1 p.2⟩, by rw [List.map_map]; exact List.attach_map_subtype_val L⟩
  have hd2 := hn2
  clear h hd1 hok hb1
  generalize (w1.alloc (Obj.cells #[Value.pointer (some { block := g2, off := 0 })] 27)).alloc (Obj.cells #[Value.pointer (some { block := g, off := 0 })] 27) = W2 at *
  clear hb2
  generalize w1.heap.size = e0 at *
  obtain ⟨S2, hdS, -, -⟩ := hd2
  refine (wpIn_wide (n := 9)).1 ?_
  refine wpIn_rangeFunc_ownH rfl (by omega) (gf := 36) (lb := #[.pointer (some ⟨e0 + 1, 0, none⟩)]) rfl trivial (enters_of Try.func36 (by kernel_rfl) rfl)
    (all_stopsA (Subtype.val : OkP → V × V) 8 (by omega) (e0 + 1) g g2 S S2 L [] La hLa W2 h2 hdS hbox) (fun h k => h.trans k) (fun W l o o' _ h1 h2 _ => KpRows.put W l o o' h1 h2) (Below.refl _ _) (fun _ => rfl)
    (fun (pre : List OkP) (W : World) => CloneW e0 g2 w W (putAll [] (pairsOf pre)))
    (fun _ _ _ => False)
    (fun s A B row hs hg hr => ⟨hs.box.on hg hr, hs.d.on (by omega) (by omega) hg hr⟩) (fun c s A B row hs hg hr => hs) ⟨hout, hn2⟩
    (fun x a' W => ∃ bx bz, a' = { tmps := #[.pointer (some ⟨g, 0, none⟩), undef, .pointer none, .pointer (some ⟨e0, 0, none⟩), .pointer (some ⟨bx, 0, none⟩), .pointer (some ⟨bz, 0, none⟩), .pointer (some ⟨g2, 0, none⟩), .pointer (some ⟨g, 0, none⟩), .func (.func 36) #[] #[.pointer (some ⟨e0 + 1, 0, none⟩)], V.v x.1.1, V.v x.1.2, undef, undef, undef, undef, undef], defers := [] } ∧ Blk W bx 24 #[.int .i64 x.1.1.k, .int .i64 x.1.1.n, .string x.1.1.s] ∧ Blk W bz 24 #[.int .i64 x.1.2.k, .int .i64 x.1.2.n, .string x.1.2.s])
    (fun x a' s A B row hs hg hr => by obtain ⟨bx, bz, h1, h2, h3⟩ := hs; exact ⟨bx, bz, h1, h2.on hg hr, h3.on hg hr⟩)
    ?assign ?body ?done ?stop
  case assign =>
    rintro l pre ⟨⟨⟨k1, n1, s1⟩, ⟨k2, n2, s2⟩⟩, hx⟩ W K hI hK
    have hb : Below W.heap.size W ((W.alloc (.cells #[.int .i64 k1, .int .i64 n1, .string s1] 24)).alloc (.cells #[.int .i64 k2, .int .i64 n2, .string s2] 24)) := (by repeat (first | exact Below.refl _ _ | assumption | refine Below.setCell ?_ (by first | (simp; done) | (simp; omega) | omega) _ | refine below_drewN ?_ _ | refine Below.drew ?_ | refine Below.alloc ?_ (by first | (simp; done) | (simp; omega) | omega) _))
    have hx2 : Blk ((W.alloc (.cells #[.int .i64 k1, .int .i64 n1, .string s1] 24)).alloc (.cells #[.int .i64 k2, .int .i64 n2, .string s2] 24)) (W.heap.size + 1) 24 #[.int .i64 k2, .int .i64 n2, .string s2] := by
      have hh := Blk.new (W.alloc (.cells #[.int .i64 k1, .int .i64 n1, .string s1] 24)) 24 #[.int .i64 k2, .int .i64 n2, .string s2]
      rw [World.size_alloc] at hh
      exact hh
    have HK := hK _ _ (below_grew hb _) (KpRows.new hb) ⟨hI.box.new' hb, hI.d.new hb⟩ ⟨W.heap.size, W.heap.size + 1, rfl, (Blk.new W 24 #[.int .i64 k1, .int .i64 n1, .string s1]).alloc _, hx2⟩
    have HK' := Lib.hid HK
    clear HK hK hx2
    simp only [encP, V.v]
    gi_wp2
    simp only [V.v] at HK'
    exact HK'.out
  case body =>
    rintro l pre x a' W hl hlr hI ⟨bx, bz, rfl, hbx, hbz⟩ hlen
    have x0 := hbx.cell 0
    have x1 := hbx.cell 1
    have x2 := hbx.cell 2
    have y0 := hbz.cell 0
    have y1 := hbz.cell 1
    have y2 := hbz.cell 2
    have q0 := hI.box.cell 0
    simp only [List.getElem?_toArray, List.getElem?_cons_zero, List.getElem?_cons_succ] at x0 x1 x2 y0 y1 y2 q0
    have hl0 := hI.box.lt
    have hlx := hbx.lt
    have hlz := hbz.lt
    have HI := Lib.hid hI
    clear hI hbx hbz hlr
    gi_wp2
    refine ⟨trivial, ?_⟩
    refine (CallsIn.inRound l ((callsIn_wide (n := 6)).2 (put_any HI.out.d.tight.1 x.1.1 x.1.2 x.2.1))).mono ?_
    rintro e W' ⟨rfl, hd', hm'⟩
    have hkk := foot_keeps HI.out.d.tight.1 hd' hm' W2.heap.size (by omega)
    have HKK := Lib.hid hkk
    have hbx' : Blk W' e0 27 #[.pointer (some ⟨g2, 0, none⟩)] := HI.out.box.mod hm' (fun hf => by
      rcases hf with rfl | ⟨m, v, hmv, e | e⟩
      · omega
      · obtain ⟨B, v', rs, f, hD, _⟩ := HI.out.d.tight.1
        have h5 := hD.blk
        unfold Blk at h5 hmv
        rw [h5] at hmv
        cases hmv
        injection e with e
        injection e with e
        exact hD.map.ne_blk HI.out.box e
      · obtain ⟨B, v', rs, f, hD, _⟩ := HI.out.d.tight.1
        have h5 := hD.blk
        unfold Blk at h5 hmv
        rw [h5] at hmv
        cases hmv
        exact own_blk_ne hD.own HI.out.box (by decide) e)
    have HC : Hid (CloneW e0 g2 w W' (putR (putAll [] (pairsOf pre)) x.1.1 x.1.2)) := Lib.hid ⟨hbx', HI.out.d.put hd' hm'⟩
    clear hd' hm' hkk hbx'
    gi_wp2
    exact ⟨HKK.out.1, HKK.out.2, by
      show CloneW e0 g2 w _ (putAll [] (pairsOf (pre ++ [_])))
      unfold pairsOf
      rw [List.map_append, List.map_cons, List.map_nil, putAll_snoc]
      exact HC.out⟩
  case done =>
    rintro D xs W hD rfl hI hdef
    have q0 := hI.box.cell 0
    simp only [List.getElem?_toArray, List.getElem?_cons_zero] at q0
    have hl0 := hI.box.lt
    have hmk := Marks.one (w0 := w) hdef (by omega)
    have hdd := hI.d
    have e : putAll [] (pairsOf xs) = L := by
      unfold pairsOf
      rw [hLa]
      obtain ⟨_, h5, _⟩ := h2.facts
      have := putAll_new L [] (by simpa using hnd) (fun p hp => (h5 p hp).2) (by simpa using hll)
      simpa using this
    rw [e] at hdd
    have HE := Lib.hid hdd
    have HMK := Lib.hid hmk
    clear hI hdef h2 hmk hdd e hnd hn2 hdS
    go_wp2_with fail
    exact leaves_marks [D] W HMK.out fun W'' hk => ⟨results_tmp rfl _ _ _, g2, rfl, HE.out.unmarked HMK.out hk⟩
  case stop =>
    rintro D c pre W _ _ h
    exact h.elim
end Go.Proofs.Ytfdihmbmlhlkgaa
