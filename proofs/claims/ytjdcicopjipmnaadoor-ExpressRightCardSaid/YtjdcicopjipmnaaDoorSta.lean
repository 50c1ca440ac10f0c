/- How the parser stands in memory: its block, its Builder with the nodes, its map; and what its methods may turn. -/
import Derived.Test.YtjdcicopjipmnaaDoorNap
import Derived.Test.YtjdcicopjipmnaaDoorTot
namespace Go.Proofs.YtjdcicopjipmnaaDoor
open Go.RowKit Go.Maps Go.WideMaps
set_option linter.unusedVariables false
set_option linter.unusedSimpArgs false

def ics (l : List Int) : List Value := l.map (Value.int .i64)
theorem ics_length (l : List Int) : (ics l).length = l.length * 1 := by simp [ics]
theorem ics_oneCell (l : List Int) : ∀ u ∈ ics l, u.oneCell' = true := by
  intro u hu
  simp only [ics, List.mem_map] at hu
  obtain ⟨x, _, rfl⟩ := hu
  rfl
theorem ics_append (a b : List Int) : ics (a ++ b) = ics a ++ ics b := by simp [ics]
/-- The slice value owns a row of ints. -/
def OwnI (w : World) (v : Value) (xs : List Int) : Prop := Own w 3 1 v xs.length (ics xs)
theorem OwnI.nil_ (w : World) : OwnI w (.slice none 0 0) [] := Own.nil_ _ _ _
theorem OwnI.bel {w w' : World} {v : Value} {xs : List Int} (h : OwnI w v xs) (hb : Below w.heap.size w w') : OwnI w' v xs := Own.new h hb

/-- only blocks of E, those from B on that hold parsers, Builders, nodes, and what is no cells (from B on), have turned -/
structure KeepE (B : Nat) (E : Nat → Prop) (w w' : World) : Prop where
  os : w'.os = w.os
  tape : w'.tape = w.tape
  output : w'.output = w.output
  size : w.heap.size ≤ w'.heap.size
  block : ∀ k, k < w.heap.size → ¬ E k → (k < B ∨ ∃ cs t, w.heap[k]? = some (.cells cs t (0, 0)) ∧ t ≠ 51 ∧ t ≠ 98 ∧ t ≠ 71) → w'.heap[k]? = w.heap[k]?
abbrev Keeps (B : Nat) (w w' : World) : Prop := KeepE B (fun _ => False) w w'
section
variable {B : Nat} {E : Nat → Prop} {w w0 w1 w2 : World}
theorem KeepE.refl (B : Nat) (E : Nat → Prop) (w : World) : KeepE B E w w := ⟨rfl, rfl, rfl, Nat.le_refl _, fun _ _ _ _ => rfl⟩
theorem KeepE.trans (h : KeepE B E w w1) (k : KeepE B E w1 w2) : KeepE B E w w2 :=
  ⟨k.os.trans h.os, k.tape.trans h.tape, k.output.trans h.output, Nat.le_trans h.size k.size, fun i hi hE hc => by
    have e := h.block i hi hE hc
    rw [← e] at hc ⊢
    exact k.block i (Nat.lt_of_lt_of_le hi h.size) hE hc⟩
/-- behind new blocks, or those of E, that were not there -/
theorem KeepE.then {E' : Nat → Prop} (h : KeepE B E w w1) (k : KeepE B E' w1 w2) (hE : ∀ i, E' i → E i ∨ w.heap.size ≤ i) : KeepE B E w w2 :=
  ⟨k.os.trans h.os, k.tape.trans h.tape, k.output.trans h.output, Nat.le_trans h.size k.size, fun i hi hn hc => by
    have e := h.block i hi hn hc
    rw [← e] at hc ⊢
    exact k.block i (Nat.lt_of_lt_of_le hi h.size) (fun h1 => by rcases hE i h1 with h2 | h2; exact hn h2; omega) hc⟩
theorem KeepE.of_below (B : Nat) (E : Nat → Prop) (h : Below w.heap.size w w1) : KeepE B E w w1 := ⟨h.os, h.tape, h.output, h.size, fun k hk _ _ => h.block k hk⟩
theorem KeepE.of_mod {S : Nat → Prop} (h : Mod S w w1) (hS : ∀ k, k < w.heap.size → S k → E k ∨ (B ≤ k ∧ ∀ cs t, w.heap[k]? = some (.cells cs t (0, 0)) → t = 51 ∨ t = 98 ∨ t = 71)) : KeepE B E w w1 :=
  ⟨h.os, h.tape, h.output, h.size, fun k hk hE hc => h.block k hk fun hs => by
    rcases hS k hk hs with h1 | ⟨h1, h2⟩
    · exact hE h1
    · rcases hc with hc | ⟨cs, t, hc, h3, h4, h5⟩
      · omega
      · rcases h2 cs t hc with h6 | h6 | h6
        · exact h3 h6
        · exact h4 h6
        · exact h5 h6⟩
theorem KeepE.below (h : KeepE B E w w1) (hB : B ≤ w.heap.size) (hE : ∀ k, E k → B ≤ k) : Below B w w1 := ⟨h.os, h.tape, h.output, h.size, fun k hk => h.block k (by omega) (fun e => by have := hE k e; omega) (.inl hk)⟩
theorem KeepE.blk {g : Nat} {t : TypeId} {cs : Array Value} (h : KeepE B E w w1) (hb : Blk w g t cs) (hE : ¬ E g) (ht : t ≠ 51 ∧ t ≠ 98 ∧ t ≠ 71) : Blk w1 g t cs := (h.block g hb.lt hE (.inr ⟨cs, t, hb, ht⟩)).trans hb
theorem KeepE.own {t : TypeId} {sz n : Nat} {v : Value} {cs : List Value} (h : KeepE B E w w1) (hb : Own w t sz v n cs) (hE : ∀ b, v.ownBlock = some b → ¬ E b) (ht : t ≠ 51 ∧ t ≠ 98 ∧ t ≠ 71) : Own w1 t sz v n cs := by
  refine ⟨hb.1, ?_⟩
  rcases hb.2 with h2 | ⟨g, c, cur, rfl, hg, r⟩
  · exact .inl h2
  · exact .inr ⟨g, c, cur, rfl, (h.block g (Array.getElem?_eq_some_iff.1 hg).1 (hE g rfl) (.inr ⟨cur, t, hg, ht⟩)).trans hg, r⟩
theorem KeepE.mono {E' : Nat → Prop} (h : KeepE B E w w1) (hE : ∀ i, E i → E' i) : KeepE B E' w w1 := ⟨h.os, h.tape, h.output, h.size, fun k hk hn hc => h.block k hk (fun e => hn (hE k e)) hc⟩
end

/-- a node, with its row of kids -/
structure NdS where
  x : NodeD
  A : Option Addr
  c : Nat
def NdS.v (z : NdS) : Value := .slice z.A z.x.kids.length z.c
def NdS.cs (z : NdS) : List Value := [.int .i64 z.x.op, .int .i64 z.x.at_, .string z.x.s, .int .i64 z.x.n, z.v]
theorem nds_len (Z : List NdS) : (Z.flatMap NdS.cs).length = Z.length * 5 := by
  induction Z with
  | nil => rfl
  | cons z Z ih => rw [List.flatMap_cons, List.length_append, ih, List.length_cons]; show 5 + _ = _; omega
/-- v owns a row of nodes, each with a row of kids of its own, none of F -/
def RowN (F : Nat → Prop) (w : World) (v : Value) (ns : List NodeD) : Prop :=
  ∃ Z : List NdS, Z.map (·.x) = ns ∧ Own w 51 5 v Z.length (Z.flatMap NdS.cs) ∧ ∀ z ∈ Z, OwnI w z.v z.x.kids ∧ (∀ b, z.v.ownBlock = some b → ¬ F b) ∧ z.x.kids.length ≤ 4398046511103
theorem RowN.nil_ (F : Nat → Prop) (w : World) : RowN F w (.slice none 0 0) [] := ⟨[], rfl, Own.nil_ _ _ _, fun z h => by cases h⟩
theorem RowN.keep {F F' : Nat → Prop} {w w' : World} {v : Value} {ns : List NodeD} (h : RowN F w v ns) (hv : ∀ b, v.ownBlock = some b → w'.heap[b]? = w.heap[b]?)
    (hk : ∀ k cs, k < w.heap.size → ¬ F k → w.heap[k]? = some (.cells cs 3 (0, 0)) → w'.heap[k]? = w.heap[k]?) (hF : ∀ k, k < w.heap.size → F' k → F k) : RowN F' w' v ns := by
  obtain ⟨Z, e, h1, h2⟩ := h
  refine ⟨Z, e, h1.keep hv, fun z hz => ?_⟩
  obtain ⟨h3, h4, h8⟩ := h2 z hz
  refine ⟨?_, fun b hb hb2 => h4 b hb (hF b (h3.lt hb) hb2), h8⟩
  unfold OwnI at h3 ⊢
  refine ⟨h3.1, ?_⟩
  rcases h3.2 with h5 | ⟨g, c, cur, e2, hg, r⟩
  · exact .inl h5
  · exact .inr ⟨g, c, cur, e2, (hk g cur (Array.getElem?_eq_some_iff.1 hg).1 (h4 g (by rw [e2]; rfl)) hg).trans hg, r⟩

/-! the map of what is known of nodes -/
theorem keyed3 : Maps.Keyed Tryd.prog 3 := Maps.int_keyed Tryd.underlying3
def knownElem : Value → Option (DataW Unit × List MemPlace)
  | .agg cs => match (cs[0]? : Option Value), (cs[1]? : Option Value), cs.size with
    | some (Value.int .i64 d), some (Value.int .i64 a), 2 => some (.agg [.lit (.int .i64 d), .lit (.int .i64 a)], [])
    | _, _, _ => none
  | _ => none
theorem knownElem_mk (d a : Int) : knownElem (.agg #[.int .i64 d, .int .i64 a]) = some (.agg [.lit (.int .i64 d), .lit (.int .i64 a)], []) := rfl
theorem knownElem_inv {v : Value} {d a : Int} {ps : List MemPlace} (h : knownElem v = some (.agg [.lit (.int .i64 d), .lit (.int .i64 a)], ps)) : v = .agg #[.int .i64 d, .int .i64 a] := by
  unfold knownElem at h
  split at h
  · rename_i cs
    split at h
    · rename_i d' a' h0 h1 h2
      injection h with h
      injection h with h3 h4
      injection h3 with h3
      injection h3 with h3 h5
      injection h5 with h5 _
      injection h3 with h3
      injection h3 with _ h3
      injection h5 with h5
      injection h5 with _ h5
      subst h3 h5
      congr 1
      apply Array.ext_getElem?
      intro i
      rcases i with _ | _ | i
      · simpa using h0
      · simpa using h1
      · rw [Array.getElem?_eq_none (by omega), Array.getElem?_eq_none (by simp)]
    · cases h
  · cases h
theorem zero115 (w : World) : (zeroValue 115).run Tryd.prog w = .ok (.agg #[.int .i64 0, .int .i64 0]) w := by kernel_rfl
def knZ : DataW Unit := .agg [.lit (.int .i64 0), .lit (.int .i64 0)]
/-- block b is the map of what is known of s's nodes -/
def KnAt (w : World) (b : Nat) (s : PS) : Prop := ∃ D : DataW Unit, w.ownsMap Tryd.prog 3 knownElem b s.ns.length D ∧ ∀ k : Int, (Lit.int .i64 k).wf = true → D.atKey (.int .i64 k) knZ = .agg [.lit (.int .i64 (deepOf s k)), .lit (.int .i64 (placeOf s k))]
section
variable {w w' : World} {b : Nat} {s s' : PS}
theorem KnAt.lt (h : KnAt w b s) : b < w.heap.size := by
  obtain ⟨D, h, _⟩ := h
  exact h.lt
theorem KnAt.isMap (h : KnAt w b s) : ∃ es clock, w.heap[b]? = some (.map es clock) := by
  obtain ⟨D, ⟨es, clock, e, _⟩, _⟩ := h
  exact ⟨es, clock, e⟩
theorem KnAt.made (w : World) (s : PS) (h1 : s.ns = []) (h2 : s.dp = []) : KnAt (w.alloc (.map #[] 0)) w.heap.size s := by
  refine ⟨.map [], by rw [h1]; exact World.ownsMap_made w _ _ _, fun k _ => ?_⟩
  have e1 : deepOf s k = 0 := by unfold deepOf; rw [h2]; simp
  have e2 : placeOf s k = 0 := by unfold placeOf; rw [h1]; simp
  rw [e1, e2]
  rfl
theorem KnAt.keep (h : KnAt w b s) (hb : w'.heap[b]? = w.heap[b]?) (hn : s'.ns = s.ns) (hd : s'.dp = s.dp) : KnAt w' b s' := by
  obtain ⟨D, ⟨es, clock, e, h1⟩, h2⟩ := h
  have e1 : ∀ k, deepOf s' k = deepOf s k := fun k => by unfold deepOf; rw [hd]
  have e2 : ∀ k, placeOf s' k = placeOf s k := fun k => by unfold placeOf; rw [hn]
  refine ⟨D, ⟨es, clock, hb.trans e, by rw [hn]; exact h1⟩, fun k hk => ?_⟩
  rw [e1, e2]
  exact h2 k hk
theorem KnAt.look (h : KnAt w b s) {k : Int} (hk : (Lit.int .i64 k).wf = true) : (Instr.lookup 96 (.map (some b)) (.int .i64 k) false).run Tryd.prog w = .ok (.agg #[.int .i64 (deepOf s k), .int .i64 (placeOf s k)]) w := by
  obtain ⟨D, ho, hf⟩ := h
  obtain ⟨v, ps, hrun, hv⟩ := ho.lookup keyed3 Tryd.underlying96 (zero115 w) (knownElem_mk 0 0) (keyOf_int_mk Tryd.underlying3 hk)
  rw [hrun]
  have e := hf k hk
  unfold knZ at e
  rw [e] at hv
  rw [knownElem_inv hv]
theorem KnAt.store (h : KnAt w b s) {k d a : Int} (hk : (Lit.int .i64 k).wf = true) (hn : s.ns.length < maxLen) (hl : s'.ns.length = s.ns.length + 1) (h1 : deepOf s' k = d ∧ placeOf s' k = a) (h2 : ∀ j, j ≠ k → deepOf s' j = deepOf s j ∧ placeOf s' j = placeOf s j) :
    ∃ w', (Instr.mapUpdate 96 (.map (some b)) (.int .i64 k) (.agg #[.int .i64 d, .int .i64 a])).run Tryd.prog w = .ok () w' ∧ KnAt w' b s' ∧ Mod (· = b) w w' := by
  obtain ⟨D, ho, hf⟩ := h
  obtain ⟨w', hrun, ho', ht⟩ := ho.store keyed3 Tryd.underlying96 hn (keyOf_int_mk Tryd.underlying3 hk) (knownElem_mk d a)
  refine ⟨w', hrun, ⟨_, by rw [hl]; exact ho', fun j hj => ?_⟩, mod_turned ht⟩
  by_cases e : j = k
  · subst e
    rw [Maps.atKey_put_same ho.isMap (show WideAt.IsKeyLit (Lit.int .i64 j) from trivial), h1.1, h1.2]
  · have hne : Lit.int .i64 j ≠ Lit.int .i64 k := fun h => e (by injection h)
    rw [Maps.atKey_put_other hne, (h2 j e).1, (h2 j e).2]
    exact hf j hj
end

/-- what does not change while tokens are parsed -/
structure Cx where
  B : Nat
  pb : Nat
  bb : Nat
  mb : Nat
  n : Nat
  c : Nat
  A : Option Addr
  L : List TokD
abbrev Cx.p (X : Cx) : Value := .pointer (some ⟨X.pb, 0, none⟩)
/-- the parser stands at s; nodes' kids lie in no block of F -/
structure PAt (X : Cx) (F : Nat → Prop) (w : World) (s : PS) : Prop where
  p : Blk w X.pb 98 (pcs X.bb (.slice X.A X.n X.c) X.mb s)
  l : Rd w X.A X.n X.c 4 (X.L.flatMap tcs)
  la : ∀ b o, X.A = some ⟨b, o, none⟩ → b < X.B
  pB : X.B ≤ X.pb
  bB : X.B ≤ X.bb
  mB : X.B ≤ X.mb
  wB : X.B ≤ w.heap.size
  t : ∃ v, Blk w X.bb 71 #[v] ∧ (∀ g, v.ownBlock = some g → X.B ≤ g) ∧ RowN F w v s.ns
  m : KnAt w X.mb s
  at_ : s.at_ ≤ X.n
  dl : s.dp.length = s.ns.length
  tab : Asp w
  ln : X.L.length = X.n
  b0 : 0 < X.B
  big : X.n ≤ 274877906944
  ts : ∀ t ∈ X.L, t.s.size ≤ maxLen
  fl : ∀ k, F k → k < w.heap.size
theorem asp_block {w w' : World} (h : Asp w) (h0 : w'.heap[0]? = w.heap[0]?) : Asp w' := by
  have hg : Tryd.prog.globalNamed "strings.asciiSpace" = some 0 := by kernel_rfl
  unfold Asp Lib.TabIs World.var? at h ⊢
  rw [hg] at h ⊢
  simp only [Option.bind_some] at h ⊢
  rw [h0]
  exact h
section
variable {X : Cx} {F F' : Nat → Prop} {w w' : World} {s s' : PS}
theorem PAt.at1 (h : PAt X F w s) : s.at_ + 1 ≤ 9223372036854775807 := by have := h.at_; have := h.big; omega
theorem PAt.at9 (h : PAt X F w s) {k : Nat} (hk : k ≤ 9) : s.at_ + k ≤ 9223372036854775807 := by have := h.at_; have := h.big; omega
theorem PAt.lt (h : PAt X F w s) : X.pb < w.heap.size ∧ X.bb < w.heap.size ∧ X.mb < w.heap.size := ⟨h.p.lt, by obtain ⟨v, hv, _⟩ := h.t; exact hv.lt, h.m.lt⟩
/-- nothing has turned but new blocks -/
theorem PAt.bel (h : PAt X F w s) (hb : Below w.heap.size w w') (hF : ∀ k, F' k → F k ∨ w.heap.size ≤ k) (hl : ∀ k, F' k → k < w'.heap.size) : PAt X F' w' s := by
  obtain ⟨v, h1, h2, h3⟩ := h.t
  refine ⟨h.p.bel hb, h.l.bel hb, h.la, h.pB, h.bB, h.mB, Nat.le_trans h.wB hb.size, ⟨v, h1.bel hb, h2, ?_⟩, h.m.keep (hb.block _ h.m.lt) rfl rfl, h.at_, h.dl, h.tab.below hb, h.ln, h.b0, h.big, h.ts, hl⟩
  obtain ⟨Z, e, z1, z2⟩ := h3
  exact RowN.keep ⟨Z, e, z1, z2⟩ (fun b hbv => hb.block b (z1.lt hbv)) (fun k cs hk _ _ => hb.block k hk) (fun k hk hf => (hF k hf).resolve_right (by omega))
theorem PAt.bel_ (h : PAt X F w s) (hb : Below w.heap.size w w') : PAt X F w' s := h.bel hb (fun _ => .inl) fun k hk => Nat.lt_of_lt_of_le (h.fl k hk) hb.size
theorem PAt.less (h : PAt X F w s) (hF : ∀ k, F' k → F k) : PAt X F' w s := h.bel (Below.refl _ _) (fun k hk => .inl (hF k hk)) fun k hk => h.fl k (hF k hk)
/-- only the parser's own block has turned -/
theorem PAt.turn (h : PAt X F w s) (hp : Blk w' X.pb 98 (pcs X.bb (.slice X.A X.n X.c) X.mb s')) (hm : Mod (· = X.pb) w w') (hn : s'.ns = s.ns) (hd : s'.dp = s.dp) (ha : s'.at_ ≤ X.n) : PAt X F w' s' ∧ Keeps X.B w w' := by
  obtain ⟨v, h1, h2, h3⟩ := h.t
  have hpb := h.p
  have nb : ∀ {k : Nat} {t : TypeId} {cs : Array Value}, Blk w k t cs → t ≠ 98 → k ≠ X.pb := fun hb ht => hb.ne_ hpb ht
  refine ⟨⟨hp, h.l.keep hm.size fun b o e hb => hm.block b hb fun e2 => ?_, h.la, h.pB, h.bB, h.mB, Nat.le_trans h.wB hm.size, ⟨v, h1.mod hm (nb h1 (by decide)), h2, ?_⟩, h.m.keep (hm.block _ h.m.lt fun e => ?_) hn hd, ha, by rw [hn, hd]; exact h.dl, asp_block h.tab (hm.block 0 ?_ ?_), h.ln, h.b0, h.big, h.ts, fun k hk => Nat.lt_of_lt_of_le (h.fl k hk) hm.size⟩, ?_⟩
  · have := h.la b o e
    have := h.pB
    omega
  · rw [hn]
    obtain ⟨Z, e, z1, z2⟩ := h3
    refine RowN.keep ⟨Z, e, z1, z2⟩ (fun b hbv => hm.block b (z1.lt hbv) fun e2 => ?_) (fun k cs hk _ hc => hm.block k hk (nb (t := 3) hc (by decide))) (fun k hk hf => hf)
    subst e2
    exact own_blk_ne z1 hpb (by decide) hbv
  · obtain ⟨es, clock, em⟩ := h.m.isMap
    unfold Blk at hpb
    rw [e, hpb] at em
    cases em
  · have := hpb.lt
    omega
  · have := h.b0
    have := h.pB
    omega
  · exact KeepE.of_mod hm fun k hk e => .inr ⟨by rw [e]; exact h.pB, fun cs t hc => by
      rw [e] at hc
      unfold Blk at hpb
      rw [hpb] at hc
      injection hc with hc
      injection hc with _ ht
      exact .inr (.inl ht.symm)⟩
end
end Go.Proofs.YtjdcicopjipmnaaDoor
