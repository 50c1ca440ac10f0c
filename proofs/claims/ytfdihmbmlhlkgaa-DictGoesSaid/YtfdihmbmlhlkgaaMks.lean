/- Marks that a loop over a function leaves; what lies on where a block that is no cells turns; All; append in a round. -/
import Derived.Test.YtfdihmbmlhlkgaaAll
namespace Go.Proofs.Ytfdihmbmlhlkgaa
open Go.RowKit Go.Shelf
attribute [local go_sem] Oper.semAt_some

def mark (D : Nat) : Deferred := { target := .collected D, args := #[] }
/-- the marks' blocks: apart, made behind w0, each with no call in it -/
structure Marks (w0 W : World) (Ds : List Nat) : Prop where
  nodup : Ds.Nodup
  here : ∀ D ∈ Ds, W.heap[D]? = some (.deferred (some []))
  new : ∀ D ∈ Ds, w0.heap.size ≤ D
theorem Marks.nil (w0 W : World) : Marks w0 W [] := ⟨List.nodup_nil, fun _ h => by simp at h, fun _ h => by simp at h⟩
theorem Marks.one {w0 W : World} {D : Nat} (h : W.heap[D]? = some (.deferred (some []))) (hD : w0.heap.size ≤ D) : Marks w0 W [D] :=
  ⟨by simp, fun E hE => by obtain rfl := List.mem_singleton.1 hE; exact h, fun E hE => by obtain rfl := List.mem_singleton.1 hE; exact hD⟩
theorem Marks.lt {w0 W : World} {Ds : List Nat} (h : Marks w0 W Ds) {D : Nat} (hD : D ∈ Ds) : D < W.heap.size := (Array.getElem?_eq_some_iff.1 (h.here D hD)).1
theorem Marks.keep {w0 W W' : World} {Ds : List Nat} (h : Marks w0 W Ds) (hk : ∀ D ∈ Ds, W'.heap[D]? = W.heap[D]?) : Marks w0 W' Ds := ⟨h.nodup, fun D hD => (hk D hD).trans (h.here D hD), h.new⟩
theorem Marks.ne_cells {w0 W : World} {Ds : List Nat} (h : Marks w0 W Ds) {b : Nat} {o : Obj} (hb : W.heap[b]? = some o) (ho : ∀ x, o ≠ .deferred x) : b ∉ Ds := by
  intro hD
  have := h.here b hD
  rw [hb] at this
  injection this with this
  subst this
  exact ho _ rfl
/-- only the marks' blocks have turned -/
def Unmarked (Ds : List Nat) (W W' : World) : Prop := W'.heap.size = W.heap.size ∧ (∀ i, i ∉ Ds → W'.heap[i]? = W.heap[i]?) ∧ W'.os = W.os ∧ W'.tape = W.tape ∧ W'.output = W.output
theorem leaves_marks {F : Fence} {n : Nat} {P : Program} {fn : Func} {tmps : Array Value} {R : Ending → World → Prop} {w0 : World} {v : Value} : ∀ (Ds : List Nat) (W : World), Marks w0 W Ds →
    (∀ W', Unmarked Ds W W' → (results fn tmps).run P W' = .ok v W' ∧ R (.returned v) W') →
    LeavesInM F n P fn tmps R (Ds.map mark) .returning W
  | [], W, _, hR => by
    obtain ⟨h1, h2⟩ := hR W ⟨rfl, fun _ _ => rfl, rfl, rfl, rfl⟩
    exact ⟨v, h1, h2⟩
  | D :: Ds, W, hM, hR => by
    have hD := hM.here D (by simp)
    have hnd := List.nodup_cons.1 hM.nodup
    have hput : ∀ i, i ≠ D → (W.putObj D (.deferred none)).heap[i]? = W.heap[i]? := fun i hi => World.putObj_heap_other (fun e => hi (by first | exact e | exact e.symm))
    refine ⟨by simp, .inl ⟨D, _, rfl, run_takeDeferred hD, leaves_marks Ds _ ⟨hnd.2, fun E hE => ?_, fun E hE => hM.new E (by simp [hE])⟩ fun W' ⟨h1, h2, h3, h4, h5⟩ => hR W' ⟨?_, fun i hi => ?_, h3, h4, h5⟩⟩⟩
    · rw [hput E (fun e => hnd.1 (e ▸ hE))]
      exact hM.here E (by simp [hE])
    · rw [h1]
      simp [World.putObj]
    · simp only [List.mem_cons, not_or] at hi
      rw [h2 i hi.2, hput i hi.1]
section
variable {w W W' : World} {Ds : List Nat}
/-- the marks lie in no block that there was -/
theorem Unmarked.mod (h : Unmarked Ds W W') : Mod (· ∈ Ds) W W' := ⟨h.2.2.1, h.2.2.2.1, h.2.2.2.2, Nat.le_of_eq h.1.symm, fun k _ hk => h.2.1 k hk⟩
theorem Unmarked.below (h : Unmarked Ds W W') (hM : Marks w W Ds) (hb : Below w.heap.size w W) : Below w.heap.size w W' :=
  hb.trans (h.mod.below hb.size (fun i hi hD => by have := hM.new i hD; omega))
theorem Unmarked.own {t : TypeId} {sz n : Nat} {v : Value} {cs : List Value} (h : Unmarked Ds W W') (hM : Marks w W Ds) (ho : Own W t sz v n cs) : Own W' t sz v n cs := by
  refine Own.keep ho fun b e => h.2.1 b ?_
  rcases ho.2 with ⟨rfl, _⟩ | ⟨g, _, cur, rfl, hh, _⟩
  · cases e
  · obtain rfl : g = b := by simpa [Value.ownBlock] using e
    exact hM.ne_cells hh fun x e => by cases e
end

/-- blocks of cells lie on where a block that is none has turned -/
theorem cells_on {A B : World} {row : Option Nat} {B0 : Nat} (hg : A.grownBy B row) (hr : ∀ r, row = some r → B0 ≤ r ∧ ∃ o : Obj, A.heap[r]? = some o ∧ o.isCells = false) {b : Nat} {o : Obj} (hb : A.heap[b]? = some o) (ho : o.isCells = true) : B.heap[b]? = A.heap[b]? := by
  refine hg.block b (Array.getElem?_eq_some_iff.1 hb).1 fun e => ?_
  obtain ⟨_, o', h1, h2⟩ := hr b e.symm
  rw [hb] at h1
  injection h1 with h1
  subst h1
  rw [ho] at h2
  cases h2
theorem Blk.on {A B : World} {row : Option Nat} {B0 g : Nat} {t : TypeId} {cs : Array Value} (h : Blk A g t cs) (hg : A.grownBy B row) (hr : ∀ r, row = some r → B0 ≤ r ∧ ∃ o : Obj, A.heap[r]? = some o ∧ o.isCells = false) : Blk B g t cs := h.keep (cells_on hg hr h rfl)
theorem Own.on {A B : World} {row : Option Nat} {B0 : Nat} {t : TypeId} {sz n : Nat} {v : Value} {cs : List Value} (h : Own A t sz v n cs) (hg : A.grownBy B row) (hr : ∀ r, row = some r → B0 ≤ r ∧ ∃ o : Obj, A.heap[r]? = some o ∧ o.isCells = false) : Own B t sz v n cs := by
  refine h.keep fun b e => ?_
  rcases h.2 with ⟨rfl, _⟩ | ⟨g, c, cur, rfl, hh, _⟩
  · cases e
  · obtain rfl : g = b := by simpa [Value.ownBlock] using e
    exact cells_on hg hr hh rfl
theorem Mod.on {S : Nat → Prop} {a A B : World} {row : Option Nat} {B0 : Nat} (h : Mod S a A) (ha : a.heap.size ≤ B0) (hg : A.grownBy B row) (hr : ∀ r, row = some r → B0 ≤ r ∧ ∃ o : Obj, A.heap[r]? = some o ∧ o.isCells = false) : Mod S a B :=
  h.grown hg fun k e hlt => by have := (hr k e).1; omega
/-- .. and a dict that was made ahead -/
theorem IsDict.on {A B : World} {row : Option Nat} {B0 g : Nat} {S : Nat → Prop} {L : List (V × V)} (h : IsDict A S g L) (hB : g ≤ B0) (hg : A.grownBy B row) (hr : ∀ r, row = some r → B0 ≤ r ∧ ∃ o : Obj, A.heap[r]? = some o ∧ o.isCells = false) : IsDict B S g L := by
  obtain ⟨M, v, rs, f, h, h1, h2, h3, h4⟩ := h
  have hM : Mod (fun i => row = some i) A B := (Mod.refl _ A).grown hg fun k e _ => e
  refine ⟨M, v, rs, f, ⟨h.blk.on hg hr, h.map.mod hM (fun e => ?_), Own.on h.own hg hr, h.keys, h.live, h.ok, h.len, h.rows, h.lt⟩, h1, h2, h3, fun i hi => Nat.lt_of_lt_of_le (h4 i hi) hM.size⟩
  have := (hr M e).1
  have := h.lt
  omega
theorem below_grew {w W : World} (h : Below w.heap.size w W) (B : Nat) : KeepsFrom B w W := ⟨h.size, fun k _ _ hk _ => (h.block k (Array.getElem?_eq_some_iff.1 hk).1).trans hk⟩
/-- what turns is cells, or lies below -/
theorem Mod.from {S : Nat → Prop} {w W : World} (h : Mod S w W) (B : Nat) (hS : ∀ i o, S i → w.heap[i]? = some o → o.isCells = true ∨ i < B) : KeepsFrom B w W := ⟨h.size, fun k o hB hk ho => by
  rw [h.block k (Array.getElem?_eq_some_iff.1 hk).1 (fun e => by
    rcases hS k o e hk with h | h
    · rw [h] at ho; cases ho
    · omega)]
  exact hk⟩

/-- append onto one's own row, in a round -/
theorem wpListIn_append_Own {F : Fence} {m' : Nat} {P : Program} {ops : Array Oper} {rest : List Oper} {o : Oper} {a : Act} {Q : Exit → Act → World → Prop} (w : World) (hgd : o.guard = none) (s x : Operand) (t : TypeId)
    (ho : o.op = .call { callee := .builtin .append, args := #[s, x], argTypes := #[t, t] })
    (e : TypeId) (i : TypeInfo) (z : Value) (size bytes : Nat) (ht : P.underlying t = some (.slice e)) (hi : P.info? e = some i) (hz : i.zero = some z)
    (hsize : i.size = size) (hby : i.bytes = bytes) (hzs : z.cells.size = size)
    (v : Value) (n : Nat) (xs : List Value) (hs : a.eval s = v) (hown : Own w e size v n xs)
    (A : Option Addr) (m c : Nat) (news : List Value) (hx : a.eval x = .slice A m c) (hr : Rd w A m c size news) (h1 : ∀ u ∈ news, u.oneCell' = true)
    (hbytes : (n + m) * bytes ≤ 140737488355328) (h63 : n + m ≤ 9223372036854775807)
    (h : ∀ v' w', Own w' e size v' (n + m) (xs ++ news) → w.grownBy w' v.ownBlock → (v'.ownBlock = v.ownBlock ∨ v'.ownBlock = some w.heap.size) → wpListIn F m' P ops Q rest (a.put o.dst v') w') : wpListIn F m' P ops Q (o :: rest) a w := by
  refine wpListIn_plain hgd fun K hK' => ?_
  obtain ⟨v', w', hrun, h2, h3, h4⟩ := run_append_Own (P := P) w t o.type e i z size bytes ht hi hz hsize hby hzs v n xs hown A m c news hr h1 hbytes h63
  unfold Oper.wpIn
  refine ⟨?_, ?_⟩
  · simp [Oper.about, ho, resolve, Target.leads, Sem.run_pure]
  · rw [Oper.semAt_plain F _ _ (by rw [ho]; intro c hc'; cases hc')]
    simp [execOp, ho, resolve, invoke, builtin, hs, hx, hrun, Result.andThen]
    exact hK' _ _ (h v' w' h2 h3 h4)

set_option maxHeartbeats 400000 in
theorem all_any (g : Nat) (w : World) :
    Calls Try.prog 21 #[.pointer (some ⟨g, 0, none⟩)] w fun e w' => e = .returned (.func (.func 36) #[] #[.pointer (some ⟨w.heap.size, 0, none⟩)]) ∧ w' = w.alloc (.cells #[.pointer (some ⟨g, 0, none⟩)] 27) := by
  go_enter Try.func21, Try.ntmps21
  go_wp2
  go_ret
  exact ⟨rfl, rfl⟩
theorem IsDict.isD {w : World} {S : Nat → Prop} {g : Nat} {L : List (V × V)} (h : IsDict w S g L) : IsD w g := by
  obtain ⟨B, v, rs, f, hD, _⟩ := h
  exact ⟨_, _, hD.blk⟩
theorem IsDict.row {w : World} {S : Nat → Prop} {g : Nat} {L : List (V × V)} (h : IsDict w S g L) {b : Nat} (hb : RowOf w g b) : S b ∧ b < w.heap.size := by
  obtain ⟨B, v, rs, f, hD, h1, h2, h3, h4⟩ := h
  obtain ⟨m', v', hm, e⟩ := hb
  have h5 := hD.blk
  unfold Blk at h5 hm
  rw [h5] at hm
  cases hm
  exact ⟨h3 b e, h4 b (h3 b e)⟩
def encP (p : V × V) : Array Value := #[V.v p.1, V.v p.2]
theorem all_stopsA {α : Type} (dec : α → V × V) (n : Nat) (hn : 1 ≤ n) (e g g' : Nat) (S S' : Nat → Prop) (L L' : List (V × V)) (La : List α) (hLa : La.map dec = L) (w : World) (hD : IsDict w S g L) (hD' : IsDict w S' g' L') (hbox : Blk w e 27 #[.pointer (some ⟨g, 0, none⟩)]) :
    SeqStopsK Fence.wide n Try.prog 36 #[.pointer (some ⟨e, 0, none⟩)] (fun x => encP (dec x)) (KpRows g') (fun ys => ys = La) (fun pre => pre <+: La) L.length w := by
  intro l J Jx W hW hJ _ hY h0
  obtain ⟨B, v, rs, f, h, -⟩ := hD.new hW
  exact all1_in dec n hn l e g B g' v rs f L La hLa J Jx hY W h (hbox.new' hW) (hD'.new hW).isD (fun b hb => ((hD'.new hW).row hb).2) hJ h0
theorem all_stops (n : Nat) (hn : 1 ≤ n) (e g g' : Nat) (S S' : Nat → Prop) (L L' : List (V × V)) (w : World) (hD : IsDict w S g L) (hD' : IsDict w S' g' L') (hbox : Blk w e 27 #[.pointer (some ⟨g, 0, none⟩)]) :
    SeqStopsK Fence.wide n Try.prog 36 #[.pointer (some ⟨e, 0, none⟩)] encP (KpRows g') (fun ys => ys = L) (fun pre => pre <+: L) L.length w :=
  all_stopsA id n hn e g g' S S' L L' L (List.map_id L) w hD hD' hbox
end Go.Proofs.Ytfdihmbmlhlkgaa
