/- The state of a merge under way; the marks that its loops leave. -/
import Derived.Test.YtbfjkjkanckcjaaItr
namespace Go.Proofs.Ytbfjkjkanckcjaa
open Go.RowKit Go.Shelf
attribute [local go_sem] Oper.semAt_some

/-! marks -/
def mark (D : Nat) : Deferred := { target := .collected D, args := #[] }
/-- the marks' blocks: apart, made behind w0, each with no call in it -/
structure Marks (w0 W : World) (Ds : List Nat) : Prop where
  nodup : Ds.Nodup
  here : ∀ D ∈ Ds, W.heap[D]? = some (.deferred (some []))
  new : ∀ D ∈ Ds, w0.heap.size ≤ D
theorem Marks.nil (w0 W : World) : Marks w0 W [] := ⟨List.nodup_nil, fun _ h => by simp at h, fun _ h => by simp at h⟩
theorem Marks.lt {w0 W : World} {Ds : List Nat} (h : Marks w0 W Ds) {D : Nat} (hD : D ∈ Ds) : D < W.heap.size := (Array.getElem?_eq_some_iff.1 (h.here D hD)).1
theorem Marks.keep {w0 W W' : World} {Ds : List Nat} (h : Marks w0 W Ds) (hk : ∀ D ∈ Ds, W'.heap[D]? = W.heap[D]?) : Marks w0 W' Ds := ⟨h.nodup, fun D hD => (hk D hD).trans (h.here D hD), h.new⟩
theorem Marks.ne_cells {w0 W : World} {Ds : List Nat} (h : Marks w0 W Ds) {b : Nat} {o : Obj} (hb : W.heap[b]? = some o) (ho : o.isCells = true) : b ∉ Ds := by
  intro hD
  have := h.here b hD
  rw [hb] at this
  injection this with this
  subst this
  cases ho
theorem leaves_marks {F : Fence} {n : Nat} {P : Program} {fn : Func} {tmps : Array Value} {R : Ending → World → Prop} {w0 : World} {v : Value} : ∀ (Ds : List Nat) (W : World), Marks w0 W Ds →
    (∀ W', (W'.heap.size = W.heap.size ∧ (∀ i, i ∉ Ds → W'.heap[i]? = W.heap[i]?) ∧ W'.os = W.os ∧ W'.tape = W.tape ∧ W'.output = W.output) → (results fn tmps).run P W' = .ok v W' ∧ R (.returned v) W') →
    LeavesInM F n P fn tmps R (Ds.map mark) .returning W
  | [], W, _, hR => by
    obtain ⟨h1, h2⟩ := hR W ⟨rfl, fun _ _ => rfl, rfl, rfl, rfl⟩
    exact ⟨v, h1, h2⟩
  | D :: Ds, W, hM, hR => by
    have hD := hM.here D (by simp)
    have hnd := List.nodup_cons.1 hM.nodup
    have hput : ∀ i, i ≠ D → (W.putObj D (.deferred none)).heap[i]? = W.heap[i]? := fun i hi => World.putObj_heap_other (fun e => hi (by first | exact e | exact e.symm))
    refine ⟨by simp, .inl ⟨D, _, rfl, run_takeDeferred hD, leaves_marks Ds _ ⟨hnd.2, fun E hE => ?_, fun E hE => hM.new E (by simp [hE])⟩ fun W' ⟨h1, h2, h3, h4, h5⟩ => hR W' ⟨?_, fun i hi => ?_, h3, h4, h5⟩⟩⟩
    · rw [hput E (fun e => hnd.1 (e ▸ hE))]
      exact hM.here E (by simp [hE])
    · rw [h1]
      simp [World.putObj]
    · simp only [List.mem_cons, not_or] at hi
      rw [h2 i hi.2, hput i hi.1]

/-- A merge under way: rest in box b4, out in box b5. -/
structure MSt (w W : World) (b4 b5 : Nat) (Ar : Option Addr) (m cr : Nat) (out : List Int) (rest : List SlI) (Ds : List Nat) : Prop where
  box4 : Blk W b4 22 #[.slice Ar m cr]
  own : OwnR 25 W (.slice Ar m cr) rest
  len : rest.length = m
  ok : AllOk w rest
  box5 : ∃ vo, Blk W b5 25 #[vo] ∧ OwnI 2 W vo out ∧ ∀ b, vo.ownBlock = some b → w.heap.size ≤ b
  ne5 : (Value.slice Ar m cr).ownBlock ≠ some b5
  marks : Marks w W Ds
  n4 : w.heap.size ≤ b4
  n5 : w.heap.size ≤ b5
  nr : ∀ b, (Value.slice Ar m cr).ownBlock = some b → w.heap.size ≤ b
  bel : Below w.heap.size w W

/-- blocks of cells lie on where a block that is none has turned -/
theorem cells_on {A B : World} {row : Option Nat} {B0 : Nat} (hg : A.grownBy B row) (hr : ∀ r, row = some r → B0 ≤ r ∧ ∃ o : Obj, A.heap[r]? = some o ∧ o.isCells = false) {b : Nat} {o : Obj} (hb : A.heap[b]? = some o) (ho : o.isCells = true) : B.heap[b]? = A.heap[b]? := by
  refine hg.block b (Array.getElem?_eq_some_iff.1 hb).1 fun e => ?_
  obtain ⟨_, o', h1, h2⟩ := hr b e.symm
  rw [hb] at h1
  injection h1 with h1
  subst h1
  rw [ho] at h2
  cases h2
theorem Own.on {A B : World} {row : Option Nat} {B0 : Nat} {t : TypeId} {sz n : Nat} {v : Value} {cs : List Value} (h : Own A t sz v n cs) (hg : A.grownBy B row) (hr : ∀ r, row = some r → B0 ≤ r ∧ ∃ o : Obj, A.heap[r]? = some o ∧ o.isCells = false) : Own B t sz v n cs := by
  refine h.keep fun b e => ?_
  rcases h.2 with ⟨rfl, _⟩ | ⟨g, c, cur, rfl, hh, _⟩
  · cases e
  · obtain rfl : g = b := by simpa [Value.ownBlock] using e
    exact cells_on hg hr hh rfl
theorem MSt.on {w A B : World} {b4 b5 : Nat} {Ar : Option Addr} {m cr : Nat} {out : List Int} {rest : List SlI} {Ds : List Nat} {row : Option Nat} {B0 : Nat} (h : MSt w A b4 b5 Ar m cr out rest Ds)
    (hg : A.grownBy B row) (hr : ∀ r, row = some r → B0 ≤ r ∧ ∃ o : Obj, A.heap[r]? = some o ∧ o.isCells = false) (hD : ∀ D ∈ Ds, D < B0) (h0 : w.heap.size ≤ B0) : MSt w B b4 b5 Ar m cr out rest Ds := by
  obtain ⟨vo, h5, ho, hn⟩ := h.box5
  refine ⟨h.box4.keep (cells_on hg hr h.box4 rfl), Own.on h.own hg hr, h.len, h.ok, ⟨vo, h5.keep (cells_on hg hr h5 rfl), Own.on ho hg hr, hn⟩, h.ne5, h.marks.keep fun D hDs => ?_, h.n4, h.n5, h.nr, h.bel.grown hg h.bel.size fun k e => by have := (hr k e).1; omega⟩
  exact hg.block D (h.marks.lt hDs) fun e => by have := (hr D e.symm).1; have := hD D hDs; omega
/-- .. and wherever nothing of it turns -/
theorem MSt.new {w A B : World} {b4 b5 : Nat} {Ar : Option Addr} {m cr : Nat} {out : List Int} {rest : List SlI} {Ds : List Nat} {S : Nat → Prop} (h : MSt w A b4 b5 Ar m cr out rest Ds)
    (hm : Mod S A B) (h4 : ¬ S b4) (h5 : ¬ S b5) (hr : ∀ b, (Value.slice Ar m cr).ownBlock = some b → ¬ S b) (ho : ∀ vo b, A.heap[b5]? = some (.cells #[vo] 25 (0, 0)) → vo.ownBlock = some b → ¬ S b) (hD : ∀ D ∈ Ds, ¬ S D) (hw : ∀ i, i < w.heap.size → ¬ S i) : MSt w B b4 b5 Ar m cr out rest Ds := by
  obtain ⟨vo, k5, ko, hn⟩ := h.box5
  exact ⟨h.box4.mod hm h4, Own.mod h.own hm hr, h.len, h.ok, ⟨vo, k5.mod hm h5, Own.mod ko hm fun b e => ho vo b k5 e, hn⟩, h.ne5, h.marks.keep fun D hDs => hm.block D (h.marks.lt hDs) (hD D hDs), h.n4, h.n5, h.nr, h.bel.trans (hm.below h.bel.size hw)⟩

/-- what the iterator over heads reads, wherever but the one box has turned -/
theorem MSt.iter {w W : World} {b4 b5 : Nat} {Ar : Option Addr} {m cr : Nat} {out : List Int} {rest : List SlI} {Ds : List Nat} {B e : Nat} (h : MSt w W b4 b5 Ar m cr out rest Ds)
    (hB : Blk W B 22 #[.slice Ar m cr]) (he : w.heap.size ≤ e) (hBe : B ≠ e) (hre : (Value.slice Ar m cr).ownBlock ≠ some e) :
    ∀ W', KeepsBut e W.heap.size W W' → W'.cell? ⟨B, 0, none⟩ = some (.slice Ar m cr) ∧ RdR W' Ar m cr rest ∧ AllOk W' rest := by
  intro W' hk
  have hz := h.bel.size
  refine ⟨(hB.keep (hk.2 B hB.lt hBe)).cell 0, ?_, fun s hs => ?_⟩
  · have ho : OwnR 25 W' (.slice Ar m cr) rest := Own.keep h.own fun b e' => hk.2 b (Own.lt h.own e') fun e2 => hre (by rw [e', e2])
    obtain ⟨_, _, _, e', hr, _⟩ := ho.rd
    cases e'
    exact hr
  · have h1 := h.ok s hs
    exact ⟨h1.1, h1.2.keep (Nat.le_trans hz hk.1) fun b o _ hb => (hk.2 b (by omega) (by omega)).trans (h.bel.block b hb)⟩
/-- one number more has been given -/
theorem MSt.push {w W Wn W6 : World} {b4 b5 : Nat} {Ar : Option Addr} {m cr : Nat} {out ys : List Int} {rest : List SlI} {Ds : List Nat} {vo v' : Value} (h : MSt w W b4 b5 Ar m cr out rest Ds)
    (hbn : Below W.heap.size W Wn) (k5 : Blk W b5 25 #[vo]) (ko : OwnI 2 W vo out) (hvo : ∀ b, vo.ownBlock = some b → w.heap.size ≤ b) (hv : OwnI 2 W6 v' ys) (hg : Wn.grownBy W6 vo.ownBlock) (ha : v'.ownBlock = vo.ownBlock ∨ v'.ownBlock = some Wn.heap.size) :
    b4 ≠ b5 ∧ W6.cell? ⟨b4, 0, none⟩ = some (.slice Ar m cr) ∧ MSt w (W6.setCell ⟨b5, 0, none⟩ v') b4 b5 Ar m cr ys rest Ds := by
  have h45 : b4 ≠ b5 := Blk.ne_ h.box4 k5 (by decide)
  have n4 : vo.ownBlock ≠ some b4 := own_blk_ne ko h.box4 (by decide)
  have n5 : vo.ownBlock ≠ some b5 := own_blk_ne ko k5 (by decide)
  have m6 : Mod (fun i => vo.ownBlock = some i) W W6 := (Mod.new hbn).grown hg fun k e _ => e
  have m7 : Mod (fun i => vo.ownBlock = some i ∨ i = b5) W (W6.setCell ⟨b5, 0, none⟩ v') := (m6.mono fun i _ h => .inl h).setCell (p := ⟨b5, 0, none⟩) (fun _ => .inr rfl) _
  have k6 : Blk W6 b5 25 #[vo] := k5.mod m6 n5
  refine ⟨h45, (h.box4.mod m6 n4).cell 0, h.box4.mod m7 (fun h => h.elim n4 h45), Own.mod h.own m7 (fun b e h' => ?_), h.len, h.ok, ⟨v', k6.set_ 0 v', hv.keep fun b e => Below.heap_setCell _ _ _ _ ?_, fun b e => ?_⟩, h.ne5, h.marks.keep fun D hD => m7.block D (h.marks.lt hD) fun h' => ?_, h.n4, h.n5, h.nr, h.bel.trans (m7.below h.bel.size fun i hi h' => ?_)⟩
  · rcases h' with h' | rfl
    · exact own_own_ne h.own ko (by decide) e h'
    · exact h.ne5 e
  · rintro rfl
    exact own_blk_ne hv k6 (by decide) e
  · rcases ha with e' | e' <;> rw [e'] at e
    · exact hvo b e
    · have := hbn.size
      have := h.bel.size
      simp at e
      omega
  · rcases h' with h' | rfl
    · rcases ko.2 with ⟨rfl, _⟩ | ⟨g, _, cur, rfl, hh, _⟩
      · cases h'
      · obtain rfl : g = D := by simpa [Value.ownBlock] using h'
        exact h.marks.ne_cells hh rfl hD
    · exact h.marks.ne_cells k5 rfl hD
  · have := h.n5
    rcases h' with h' | rfl
    · have := hvo i h'
      omega
    · omega
/-- append onto one's own row of numbers, in a round -/
theorem wpListIn_appendI {F : Fence} {n : Nat} {ops : Array Oper} {rest : List Oper} {o : Oper} {a : Act} {Q : Exit → Act → World → Prop} (w : World) (hgd : o.guard = none) (s x : Operand)
    (ho : o.op = .call { callee := .builtin .append, args := #[s, x], argTypes := #[25, 25] })
    (v : Value) (xs : List Int) (hs : a.eval s = v) (hown : OwnI 2 w v xs) (A : Option Addr) (m c : Nat) (ys : List Int) (hx : a.eval x = .slice A m c) (hr : RdI w A m c ys) (hbound : xs.length + m ≤ 4398046511104)
    (h : ∀ v' w', OwnI 2 w' v' (xs ++ ys) → w.grownBy w' v.ownBlock → (v'.ownBlock = v.ownBlock ∨ v'.ownBlock = some w.heap.size) → wpListIn F n Try.prog ops Q rest (a.put o.dst v') w') : wpListIn F n Try.prog ops Q (o :: rest) a w := by
  obtain ⟨i0, hi, hz0, hz1, hz2⟩ := info_parts info_I64
  refine wpListIn_plain hgd fun K hK' => ?_
  obtain ⟨v', w', hrun, h2, h3, h4⟩ := run_append_Own (P := Try.prog) w 25 o.type 2 i0 _ 1 8 Try.underlying25 hi hz0 hz1 hz2 rfl v xs.length (ics xs) hown A m c (ics ys) hr.2 (ics_oneCell ys) (by omega) (by omega)
  have h2' : OwnI 2 w' v' (xs ++ ys) := by
    unfold OwnI
    rw [List.length_append, ics_append, hr.1]
    exact h2
  unfold Oper.wpIn
  refine ⟨?_, ?_⟩
  · simp [Oper.about, ho, resolve, Target.leads, Sem.run_pure]
  · rw [Oper.semAt_plain F _ _ (by rw [ho]; intro c hc'; cases hc')]
    simp [execOp, ho, resolve, invoke, builtin, hs, hx, hrun, Result.andThen]
    exact hK' _ _ (h v' w' h2' h3 h4)
/-! the rows with a number taken off their fronts -/
/-- one row of them: row[1:] where the number stands first -/
def cutRow (x : Int) (s : SlI) : SlI := if s.xs.head? = some x then ⟨if s.c = 1 then s.A else s.A.map (·.add 1), s.n - 1, s.c - 1, s.xs.tail⟩ else s
/-- the first k of them are done -/
def cuts (x : Int) (rest : List SlI) (k : Nat) : List SlI := (rest.take k).map (cutRow x) ++ rest.drop k
theorem cuts_zero (x : Int) (rest : List SlI) : cuts x rest 0 = rest := by simp [cuts]
theorem cuts_all (x : Int) (rest : List SlI) : nums (cuts x rest rest.length) = Lin.strip x (nums rest) := by
  simp only [cuts, List.take_length, List.drop_length, List.append_nil, nums, Lin.strip, List.map_map]
  refine List.map_congr_left fun s _ => ?_
  simp only [Function.comp, cutRow]
  split <;> rfl
theorem cuts_length (x : Int) (rest : List SlI) (k : Nat) : (cuts x rest k).length = rest.length := by simp [cuts]; omega
theorem cuts_at (x : Int) (rest : List SlI) (k : Nat) (h : k < rest.length) : (cuts x rest k)[k]'(by rw [cuts_length]; exact h) = rest[k] := by
  simp only [cuts]
  rw [List.getElem_append_right (by simp; omega)]
  simp
  congr 1
  omega
theorem cuts_set (x : Int) (rest : List SlI) (k : Nat) (h : k < rest.length) : (cuts x rest k).set k (cutRow x rest[k]) = cuts x rest (k + 1) := by
  simp only [cuts]
  rw [List.set_append_right _ _ (by simp; omega), List.take_succ_eq_append_getElem h, List.map_append, List.drop_eq_getElem_cons h]
  have e : k - (List.map (cutRow x) (List.take k rest)).length = 0 := by simp; omega
  rw [e, List.set_cons_zero]
  simp only [List.map_cons, List.map_nil, List.append_assoc, List.cons_append, List.nil_append]
theorem cuts_same (x : Int) (rest : List SlI) (k : Nat) (h : k < rest.length) (hx : rest[k].xs.head? ≠ some x) : cuts x rest (k + 1) = cuts x rest k := by
  have e : cutRow x rest[k] = (cuts x rest k)[k]'(by rw [cuts_length]; exact h) := by
    rw [cuts_at x rest k h]
    simp [cutRow, hx]
  rw [← cuts_set x rest k h, e, List.set_getElem_self]
theorem SlI.Ok.cut {w : World} {s : SlI} (h : s.Ok w) (x : Int) : (cutRow x s).Ok w := by
  unfold cutRow
  split
  · rename_i hx
    have hn : 1 ≤ s.n := by
      have := h.1
      cases hs : s.xs with
      | nil => rw [hs] at hx; cases hx
      | cons => rw [hs] at this; simp at this; omega
    have hc : s.n ≤ s.c := h.2.1
    have := RdI.hi (h : RdI w s.A s.n s.c s.xs) hn (A' := if s.c = 1 then s.A else s.A.map (·.add 1)) (fun hlt => by rw [if_neg (by omega)])
    rw [List.drop_one] at this
    exact this
  · exact h
/-- the row at k is stored anew -/
theorem MSt.cut {w W : World} {b4 b5 b : Nat} {m cr : Nat} {out : List Int} {rest : List SlI} {Ds : List Nat} (h : MSt w W b4 b5 (some ⟨b, 0, none⟩) m cr out rest Ds) {k : Nat} (hk : k < m) (s' : SlI) (hs : s'.Ok w) :
    W.frozen? ⟨b, k, none⟩ = false ∧ Mod (fun i => i = b) W (W.setCell ⟨b, k, none⟩ s'.v) ∧ MSt w (W.setCell ⟨b, k, none⟩ s'.v) b4 b5 (some ⟨b, 0, none⟩) m cr out (rest.set k s') Ds := by
  have hl := h.len
  have ho := h.own
  unfold OwnR at ho
  have m4 : Mod (fun i => i = b) W (W.setCell ⟨b, k, none⟩ s'.v) := (Mod.refl (fun i => i = b) W).setCell (p := ⟨b, k, none⟩) (fun _ => rfl) _
  subst hl
  obtain ⟨_, h2, h3⟩ := Own.set_ ho (j := k) (by omega) s'.v
  obtain ⟨vo, k5, ko, hn⟩ := h.box5
  have hb4 : b4 ≠ b := fun e => own_blk_ne h.own h.box4 (by decide) (by rw [e]; rfl)
  have hb5 : b5 ≠ b := fun e => h.ne5 (by rw [e]; rfl)
  refine ⟨h2, m4, h.box4.mod m4 hb4, ?_, by simp, fun s hs' => ?_, ⟨vo, k5.mod m4 hb5, Own.mod ko m4 (fun b' e e' => ?_), hn⟩, h.ne5, h.marks.keep fun D hD => m4.block D (h.marks.lt hD) fun e => ?_, h.n4, h.n5, h.nr, h.bel.trans (m4.below h.bel.size fun i hi e => ?_)⟩
  · unfold OwnR
    rw [← rcs_set, List.length_set]
    exact h3
  · rcases List.mem_or_eq_of_mem_set hs' with hs' | rfl
    · exact h.ok s hs'
    · exact hs
  · subst e'
    exact own_own_ne h.own ko (by decide) rfl e
  · subst e
    rcases h.own.2 with ⟨e, _⟩ | ⟨g, _, cur, e, hh, _⟩
    · cases e
    · injection e with e1 _ _
      injection e1 with e1
      injection e1 with e1
      subst e1
      exact h.marks.ne_cells hh rfl hD
  · have := h.nr b rfl
    omega
theorem MSt.row {w W : World} {b4 b5 : Nat} {Ar : Option Addr} {m cr : Nat} {out : List Int} {rest : List SlI} {Ds : List Nat} (h : MSt w W b4 b5 Ar m cr out rest Ds) (hm : 0 < m) : ∃ b, Ar = some ⟨b, 0, none⟩ := by
  rcases h.own.2 with ⟨e, _⟩ | ⟨g, _, cur, e, hh, _⟩
  · injection e with _ e _
    omega
  · injection e with e1 _ _
    exact ⟨g, e1⟩
theorem heads_void {rows : List (List Int)} : Lin.heads rows = [] ↔ Lin.void rows = true := by
  unfold Lin.heads Lin.void
  rw [List.filterMap_eq_nil_iff, List.all_eq_true]
  refine forall_congr' fun r => forall_congr' fun _ => ?_
  cases r <;> simp
theorem pick_none_of {rows : List (List Int)} (h : ∀ x ∈ Lin.heads rows, tailI rows x = true) : Lin.pick rows = none := by
  unfold Lin.pick
  rw [List.find?_eq_none]
  intro x hx
  have := h x hx
  unfold tailI at this
  simp [this]
theorem pick_of {rows : List (List Int)} {pre : List Int} {x : Int} (hp : pre ++ [x] <+: Lin.heads rows) (h : ∀ y ∈ pre, tailI rows y = true) (hx : tailI rows x = false) : Lin.pick rows = some x := by
  obtain ⟨t, ht⟩ := hp
  unfold Lin.pick
  rw [← ht, List.append_assoc, List.find?_append]
  have : List.find? (fun h => !Lin.inTail rows h) pre = none := by
    rw [List.find?_eq_none]
    intro y hy
    have := h y hy
    unfold tailI at this
    simp [this]
  rw [this]
  unfold tailI at hx
  simp [hx]
theorem marks_end {w W W' : World} {Ds : List Nat} (hM : Marks w W Ds) (hb : Below w.heap.size w W) (hk : W'.heap.size = W.heap.size ∧ (∀ i, i ∉ Ds → W'.heap[i]? = W.heap[i]?) ∧ W'.os = W.os ∧ W'.tape = W.tape ∧ W'.output = W.output) {v : Value} {ys : List Int} (ho : OwnI 2 W v ys) (hv : ∀ b, v.ownBlock = some b → w.heap.size ≤ b) : NewI 2 w W' v ys := by
  obtain ⟨h1, h2, h3, h4, h5⟩ := hk
  refine ⟨Own.keep ho fun b e => h2 b ?_, hv, ⟨h3.trans hb.os, h4.trans hb.tape, h5.trans hb.output, by rw [h1]; exact hb.size, fun k hk => (h2 k fun hD => ?_).trans (hb.block k hk)⟩⟩
  · rcases ho.2 with ⟨rfl, _⟩ | ⟨g, _, cur, rfl, hh, _⟩
    · cases e
    · obtain rfl : g = b := by simpa [Value.ownBlock] using e
      exact hM.ne_cells hh rfl
  · have := hM.new k hD
    omega
end Go.Proofs.Ytbfjkjkanckcjaa
