/- verify.effects: the invariant, step by step. -/
import Derived.Test.YtgnejkmojfhfpaaEff
namespace Go.Proofs.Ytgnejkmojfhfpaa
open Go.RowKit
set_option linter.unusedVariables false
set_option linter.unusedSimpArgs false

/-- an entry of the map -/
def Entry (w : World) (n : Int) (v : Value) : Prop := ∃ kd tk lv vm vt, effOf n = some (kd, tk, lv) ∧ v = .agg #[vm, vt, .int .i64 lv] ∧ KdIs w vm kd ∧ TkIs w vt tk
theorem Entry.keep {w w' : World} {n : Int} {v : Value} (h : Entry w n v) (hk : ∀ g t cs, Blk w g t cs → Blk w' g t cs) : Entry w' n v := by
  obtain ⟨kd, tk, lv, vm, vt, h1, h2, h3, h4⟩ := h
  exact ⟨kd, tk, lv, vm, vt, h1, h2, h3.keep hk, h4.keep hk⟩
/-- block g is the map so far -/
def MapIn (w0 w : World) (g : Nat) (listed : Array Bool) : Prop := w0.heap.size ≤ g ∧ ∃ es clock, w.heap[g]? = some (.map es clock) ∧
  (∀ e ∈ es.toList, ∃ n, e.key = .int .i64 n ∧ Entry w n e.val ∧ listed.getD (insF n) false = true) ∧
  (∀ n, listed.getD (insF n) false = true → 1 ≤ n → n ≤ 56 → ∃ e ∈ es.toList, e.key = .int .i64 n)
/-- the table of instructions, as memory holds it -/
def IsEff (w : World) (g : Nat) : Prop := ∃ es clock, w.heap[g]? = some (.map es clock) ∧
  (∀ e ∈ es.toList, ∃ n, e.key = .int .i64 n ∧ Entry w n e.val) ∧
  (∀ n, 1 ≤ n → n ≤ 56 → ∃ e ∈ es.toList, e.key = .int .i64 n)
structure J (ops : Array Oper) (df : List Deferred) (w0 : World) (listed : Array Bool) (a : Act) (w : World) : Prop where
  size : listed.size = ops.size
  tmps : a.tmps.size = 249
  defers : a.defers = df
  base : ∀ s vk, baseVK s = some vk → VOk w (a.eval (.tmp s)) vk
  nine : ∃ nb v, a.eval (.tmp 9) = .pointer (some ⟨nb, 0, none⟩) ∧ Blk w nb 73 #[v] ∧ KdIs w v .names
  vals : ∀ (i : Nat) (o : Oper) d vk, ops[i]? = some o → listed.getD i false = true → o.dst = some d → annF d = some vk → VOk w (a.eval (.tmp d)) vk
  mp : listed.getD 0 false = true → ∃ g, a.eval (.tmp 25) = .map (some g) ∧ MapIn w0 w g listed
  e1 : ∀ (i : Nat) (o : Oper), ops[i]? = some o → listed.getD i false = true → o.dst = some 248 → listed.getD 0 false = true ∧ a.eval (.tmp 248) = a.eval (.tmp 25)
  e0 : ∀ (i : Nat) (o : Oper), ops[i]? = some o → listed.getD i false = true → o.dst = some 0 → listed.getD 0 false = true ∧ a.eval (.tmp 0) = a.eval (.tmp 25)
  bel : Below w0.heap.size w0 w
  i0 : ∀ n, 1 ≤ n → n ≤ 56 → listed.getD (insF n) false = true → listed.getD 0 false = true

theorem eval_put_same {a : Act} {d : Nat} {v : Value} (h : d < a.tmps.size) : (a.put (some d) v).eval (.tmp d) = v := by
  simp [Act.put, Act.eval, h]
theorem eval_put_ne {a : Act} {d s : Nat} {v : Value} (h : d ≠ s) : (a.put (some d) v).eval (.tmp s) = a.eval (.tmp s) := by
  simp [Act.put, Act.eval, Array.getElem?_setIfInBounds_ne h]
theorem base_lt {s : Nat} {vk : VK} (h : baseVK s = some vk) : 1 ≤ s ∧ s < 16 := by
  unfold baseVK at h
  split at h <;> first | (cases h; done) | omega
theorem annF_none : annF 0 = none ∧ annF 25 = none ∧ annF 248 = none := by decide
theorem listed_lt {listed : Array Bool} {i : Nat} (h : listed.getD i false = true) : i < listed.size := by
  rcases Nat.lt_or_ge i listed.size with h1 | h1
  · exact h1
  · simp [Array.getElem?_eq_none h1] at h
theorem getD_set {listed : Array Bool} {i j : Nat} (h : (listed.setIfInBounds i true).getD j false = true) : j = i ∨ listed.getD j false = true := by
  by_cases e : i = j
  · exact .inl e.symm
  · right
    rwa [getD_set_ne false e] at h

section
variable {ops : Array Oper} {df : List Deferred} {w0 w : World} {listed : Array Bool} {a : Act} {i : Nat} {o : Oper}
/-- an operation that is checked, and ready -/
structure Rdy (ops : Array Oper) (listed : Array Bool) (i : Nat) (o : Oper) : Prop where
  at_ : ops[i]? = some o
  chk : chkOp ops i o = true
  deps : ∀ e ∈ o.after, listed.getD e.on false = true
  un : listed.getD i false = false
theorem rdy_of (hc : chkAll ops = true) (hs : listed.size = ops.size) (hi : i ∈ Region.ready .any ops listed) : ∃ o, Rdy ops listed i o := by
  obtain ⟨h0, o, ho, hd⟩ := mem_ready.1 hi
  have hlt := (Array.getElem?_eq_some_iff.1 ho).1
  have hco : chkOp ops i o = true := by
    unfold chkAll at hc
    simp only [Bool.and_eq_true] at hc
    have := List.all_eq_true.1 hc.1.1.1.1 i (List.mem_range.2 hlt)
    rw [ho] at this
    exact this
  refine ⟨o, ho, hco, fun e he => hd e he ?_, ?_⟩
  · unfold chkOp at hco
    simp only [Bool.and_eq_true] at hco
    have := Array.all_eq_true'.1 hco.1.1.2 e he
    simp only [Bool.and_eq_true] at this
    exact this.2
  · have h1 : i < listed.size := by omega
    simp [h1] at h0 ⊢
    exact h0
theorem Rdy.guard (h : Rdy ops listed i o) : o.guard = none := by
  have := h.chk
  unfold chkOp at this
  simp only [Bool.and_eq_true] at this
  simpa using this.1.1.1
theorem Rdy.dst (h : Rdy ops listed i o) {d : Nat} (hd : o.dst = some d) : (d = 0 ∨ 16 ≤ d) ∧ d < 249 ∧ outF d = i := by
  have := h.chk
  unfold chkOp at this
  simp only [Bool.and_eq_true] at this
  have := this.1.2.1
  rw [hd] at this
  simpa [chkDst, and_assoc] using this
theorem Rdy.zero (h : Rdy ops listed i o) (e : i = 0) : o.dst = some 25 := by
  have := h.chk
  unfold chkOp at this
  simp only [Bool.and_eq_true, decide_eq_true_eq] at this
  exact this.1.2.2 e
theorem out_of (hc : chkAll ops = true) {j : Nat} {o' : Oper} (hj : ops[j]? = some o') {d : Nat} (hd : o'.dst = some d) : outF d = j := by
  have hlt := (Array.getElem?_eq_some_iff.1 hj).1
  unfold chkAll at hc
  simp only [Bool.and_eq_true] at hc
  have := List.all_eq_true.1 hc.1.1.1.1 j (List.mem_range.2 hlt)
  rw [hj] at this
  unfold chkOp at this
  simp only [Bool.and_eq_true] at this
  have := this.1.2.1
  rw [hd] at this
  have h3 : (d = 0 ∨ 16 ≤ d) ∧ d < 249 ∧ outF d = j := by simpa [chkDst, and_assoc] using this
  exact h3.2.2
theorem Rdy.dep_ (h : Rdy ops listed i o) {s : Nat} (hd : dep ops o s = true) : ∃ j o', ops[j]? = some o' ∧ o'.dst = some s ∧ listed.getD j false = true := by
  obtain ⟨e, he, h1⟩ := Array.any_eq_true'.1 hd
  split at h1
  · rename_i o' ho'
    exact ⟨e.on, o', ho', by simpa using h1, h.deps e he⟩
  · cases h1
theorem J.got_ (hJ : J ops df w0 listed a w) (h : Rdy ops listed i o) {s : Nat} {vk : VK} (hg : got ops o s = true) (ha : annF s = some vk) : VOk w (a.eval (.tmp s)) vk := by
  unfold got at hg
  rw [Bool.or_eq_true] at hg
  rcases hg with hg | hg
  · cases hb : baseVK s with
    | none => rw [hb] at hg; cases hg
    | some v =>
      have : annF s = some v := by unfold annF; rw [hb]
      rw [this] at ha
      cases ha
      exact hJ.base s _ hb
  · obtain ⟨j, o', h1, h2, h3⟩ := h.dep_ hg
    exact hJ.vals j o' s vk h1 h3 h2 ha
theorem ins_of (hc : chkAll ops = true) {n : Int} (h1 : 1 ≤ n) (h2 : n ≤ 56) : ∃ o', ops[insF n]? = some o' ∧ o'.dst = none := by
  unfold chkAll at hc
  simp only [Bool.and_eq_true] at hc
  have := List.all_eq_true.1 hc.1.1.1.2 (n - 1).toNat (List.mem_range.2 (by omega))
  rw [show (((n - 1).toNat : Nat) : Int) + 1 = n by omega] at this
  split at this
  · rename_i o' ho'
    exact ⟨o', ho', by simpa using this⟩
  · cases this
/-- a new value in its slot; the world may have grown -/
theorem J.put_ (hc : chkAll ops = true) (hJ : J ops df w0 listed a w) (h : Rdy ops listed i o) {d : Nat} (hd : o.dst = some d) {v : Value} {w' : World} (hk : ∀ g t cs, Blk w g t cs → Blk w' g t cs) (hb : Below w0.heap.size w0 w')
    (hm : ∀ g, MapIn w0 w g listed → MapIn w0 w' g (listed.setIfInBounds i true)) (hv : ∀ vk, annF d = some vk → VOk w' v vk)
    (hmp : d = 25 → i = 0 ∧ ∃ g, v = .map (some g) ∧ MapIn w0 w' g (listed.setIfInBounds i true))
    (h1 : d = 248 → listed.getD 0 false = true ∧ v = a.eval (.tmp 25)) (h2 : d = 0 → listed.getD 0 false = true ∧ v = a.eval (.tmp 25)) :
    J ops df w0 (listed.setIfInBounds i true) (a.put o.dst v) w' := by
  obtain ⟨hd0, hdl, hout⟩ := h.dst hd
  have hts := hJ.tmps
  rw [hd]
  refine ⟨by simpa using hJ.size, by simpa [Act.put] using hJ.tmps, hJ.defers, fun s vk hs => ?_, ?_, fun j o' d' vk hj hl hd' ha => ?_, fun hl => ?_, fun j o' hj hl hd' => ?_, fun j o' hj hl hd' => ?_, hb, fun n n1 n2 hl => ?_⟩
  · have := base_lt hs
    rw [eval_put_ne (by omega)]
    exact (hJ.base s vk hs).keep hk
  · obtain ⟨nb, v9, e1, e2, e3⟩ := hJ.nine
    exact ⟨nb, v9, by rw [eval_put_ne (by omega)]; exact e1, hk _ _ _ e2, e3.keep hk⟩
  · by_cases e : d = d'
    · subst e
      rw [eval_put_same (by omega)]
      exact hv vk ha
    · rw [eval_put_ne e]
      rcases getD_set hl with rfl | hl'
      · rw [h.at_] at hj
        cases hj
        rw [hd] at hd'
        cases hd'
        exact absurd rfl e
      · exact (hJ.vals j o' d' vk hj hl' hd' ha).keep hk
  · by_cases e : d = 25
    · subst e
      rw [eval_put_same (by omega)]
      exact (hmp rfl).2
    · rw [eval_put_ne e]
      rcases getD_set hl with e' | hl'
      · have := h.zero e'.symm
        rw [hd] at this
        cases this
        exact absurd rfl e
      · obtain ⟨g, e1, e2⟩ := hJ.mp hl'
        exact ⟨g, e1, hm g e2⟩
  · by_cases e : d = 248
    · subst e
      rw [eval_put_same (by omega), eval_put_ne (by decide)]
      exact ⟨getD_set_true (h1 rfl).1, (h1 rfl).2⟩
    · rcases getD_set hl with rfl | hl'
      · rw [h.at_] at hj
        cases hj
        rw [hd] at hd'
        cases hd'
        exact absurd rfl e
      · obtain ⟨l0, l1⟩ := hJ.e1 j o' hj hl' hd'
        by_cases e2 : d = 25
        · have := h.un
          rw [(hmp e2).1, l0] at this
          cases this
        · rw [eval_put_ne e, eval_put_ne e2]
          exact ⟨getD_set_true l0, l1⟩
  · by_cases e : d = 0
    · subst e
      rw [eval_put_same (by omega), eval_put_ne (by decide)]
      exact ⟨getD_set_true (h2 rfl).1, (h2 rfl).2⟩
    · rcases getD_set hl with rfl | hl'
      · rw [h.at_] at hj
        cases hj
        rw [hd] at hd'
        cases hd'
        exact absurd rfl e
      · obtain ⟨l0, l1⟩ := hJ.e0 j o' hj hl' hd'
        by_cases e2 : d = 25
        · have := h.un
          rw [(hmp e2).1, l0] at this
          cases this
        · rw [eval_put_ne e, eval_put_ne e2]
          exact ⟨getD_set_true l0, l1⟩
  · rcases getD_set hl with e | hl'
    · obtain ⟨o', h5, h6⟩ := ins_of hc n1 n2
      rw [e, h.at_] at h5
      cases h5
      rw [hd] at h6
      cases h6
    · exact getD_set_true (hJ.i0 n n1 n2 hl')
/-- where an operation writes a slot, the map's entries stay -/
theorem MapIn.more (hc : chkAll ops = true) {g : Nat} (h : MapIn w0 w g listed) (hr : Rdy ops listed i o) {d : Nat} (hd : o.dst = some d) {w' : World} (hg : w'.heap[g]? = w.heap[g]?) (hk : ∀ g t cs, Blk w g t cs → Blk w' g t cs) : MapIn w0 w' g (listed.setIfInBounds i true) := by
  obtain ⟨h1, es, clock, h2, h3, h4⟩ := h
  refine ⟨h1, es, clock, hg.trans h2, fun e he => ?_, fun n hl n1 n2 => ?_⟩
  · obtain ⟨n, e1, e2, e3⟩ := h3 e he
    exact ⟨n, e1, e2.keep hk, getD_set_true e3⟩
  · rcases getD_set hl with e | hl'
    · obtain ⟨o', h5, h6⟩ := ins_of hc n1 n2
      rw [e, hr.at_] at h5
      cases h5
      rw [hd] at h6
      cases h6
    · exact h4 n hl' n1 n2
/-- one more entry -/
theorem MapIn.ins_ (hc : chkAll ops = true) {g : Nat} (h : MapIn w0 w g listed) (hr : Rdy ops listed i o) {n : Int} (hn : insF n = i) (n1 : 1 ≤ n ∧ n ≤ 56) {v : Value} (hv : Entry w n v) (hs : i < listed.size) :
    ∃ w', (Instr.mapUpdate 60 (.map (some g)) (.int .i64 n) v).run Try.prog w = .ok () w' ∧ MapIn w0 w' g (listed.setIfInBounds i true) ∧ (∀ g t cs, Blk w g t cs → Blk w' g t cs) ∧ (Below w0.heap.size w0 w → Below w0.heap.size w0 w') := by
  obtain ⟨h1, es, clock, h2, h3, h4⟩ := h
  have hkey : MapKept.IsKey (.int .i64) (.int .i64 n) := rfl
  have hkeys : ∀ x ∈ es.toList, MapKept.IsKey (.int .i64) x.key := fun x hx => by
    obtain ⟨m, e1, _⟩ := h3 x hx
    rw [e1]
    rfl
  have hno : Instr.findNow (.int .i64) (.int .i64 n) es.toList 0 = some none := by
    rcases MapKept.findNow_spec hkey es.toList 0 hkeys with ⟨e1, _⟩ | ⟨j, e, _, e2, e3⟩
    · exact e1
    · exfalso
      obtain ⟨m, e4, _, e5⟩ := h3 e (List.mem_of_getElem? e2)
      rw [e4] at e3
      cases e3
      rw [hn, hr.un] at e5
      cases e5
  have hset := MapKept.run_setObj_map (P := Try.prog) (w := w) (.map (es.push { key := .int .i64 n, val := v, born := clock }) (clock + 1)) h2
  have hk : ∀ b t cs, Blk w b t cs → Blk { w with heap := w.heap.setIfInBounds g (.map (es.push { key := .int .i64 n, val := v, born := clock }) (clock + 1)) } b t cs := by
    intro b t cs hb
    unfold Blk at hb ⊢
    have hne : b ≠ g := by
      rintro rfl
      rw [h2] at hb
      cases hb
    exact ((MapKept.heap_set h2).2 b hne).trans hb
  refine ⟨{ w with heap := w.heap.setIfInBounds g (.map (es.push { key := .int .i64 n, val := v, born := clock }) (clock + 1)) }, ?_, ⟨h1, _, _, (MapKept.heap_set h2).1, fun e he => ?_, fun m hl m1 m2 => ?_⟩, hk, fun hb => ?_⟩
  · simp only [Instr.mapUpdate, Sem.run_bind, run_underlying Try.underlying60, Result.andThen_ok, MapKept.run_getObj_map h2, MapKept.run_checkKey Try.underlying3 hkey, MapKept.run_findKey Try.underlying3 hno, hset]
  · simp only [Array.toList_push, List.mem_append, List.mem_singleton] at he
    rcases he with he | rfl
    · obtain ⟨m, e1, e2, e3⟩ := h3 e he
      exact ⟨m, e1, e2.keep hk, getD_set_true e3⟩
    · exact ⟨n, rfl, hv.keep hk, by rw [hn]; simp [hs]⟩
  · simp only [Array.toList_push, List.mem_append, List.mem_singleton]
    rcases getD_set hl with e | hl'
    · have : m = n := by
        have := (by decide : ∀ x < 57, ∀ y < 57, 1 ≤ x → 1 ≤ y → insL.getD x 999 = insL.getD y 999 → x = y) m.toNat (by omega) n.toNat (by omega) (by omega) (by omega) (by rw [show insL.getD m.toNat 999 = insF m from rfl, show insL.getD n.toNat 999 = insF n from rfl, e, hn])
        omega
      subst this
      exact ⟨_, .inr rfl, rfl⟩
    · obtain ⟨e, he, e1⟩ := h4 m hl' m1 m2
      exact ⟨e, .inl he, e1⟩
  · exact ⟨hb.os, hb.tape, hb.output, by simpa using hb.size, fun k hk' => ((MapKept.heap_set h2).2 k (by omega)).trans (hb.block k hk')⟩
end
end Go.Proofs.Ytgnejkmojfhfpaa
