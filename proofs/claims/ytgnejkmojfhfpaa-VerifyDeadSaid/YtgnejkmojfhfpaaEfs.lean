/- verify.effects: the invariant holds on. -/
import Derived.Test.YtgnejkmojfhfpaaEfj
namespace Go.Proofs.Ytgnejkmojfhfpaa
open Go.RowKit
set_option linter.unusedVariables false
set_option linter.unusedSimpArgs false

section
variable {ops : Array Oper} {df : List Deferred} {w0 w : World} {listed : Array Bool} {a : Act} {i : Nat} {o : Oper} {Q : Exit → Act → World → Prop}
theorem load_names {w : World} {nb : Nat} {v : Value} (h : Blk w nb 73 #[v]) : (Instr.loadAt 73 (.pointer (some ⟨nb, 0, none⟩))).run Try.prog w = .ok v w := by
  have h0 := h.cell 0
  simp only [List.getElem?_toArray, List.getElem?_cons_zero] at h0
  go_simp
theorem call_args {c : Call} {l : List Int} (h : c.args.toList.map argI = l.map some) (a : Act) : c.args.map a.eval = (l.map fun n => Value.int .i64 n).toArray := by
  have : ∀ (xs : List Operand) (l : List Int), xs.map argI = l.map some → xs.map a.eval = l.map fun n => Value.int .i64 n := by
    intro xs
    induction xs with
    | nil => intro l h; cases l with
      | nil => rfl
      | cons y l => cases h
    | cons x xs ih =>
      intro l h
      cases l with
      | nil => cases h
      | cons y l =>
        simp only [List.map_cons, List.cons.injEq] at h ⊢
        refine ⟨?_, ih l h.2⟩
        have h1 := h.1
        unfold argI at h1
        split at h1
        · cases h1; rfl
        · cases h1
  have h2 := this _ _ h
  rw [← h2]
  apply Array.ext'
  rw [Array.toList_map]
theorem makes_some {g : Nat} {l : List (Option Int)} {t : Tk} (h : makes g l = some t) : (g = 35 ∧ ∃ n, l = [n].map some ∧ t = .just n) ∨ (g = 37 ∧ ∃ n m, l = [n, m].map some ∧ t = .each n m) := by
  unfold makes at h
  split at h
  · cases h; exact .inl ⟨rfl, _, rfl, rfl⟩
  · cases h; exact .inr ⟨rfl, _, _, rfl, rfl⟩
  · cases h
theorem old_heap {g : Nat} (h : MapIn w0 w g listed) : g < w.heap.size := by
  obtain ⟨_, es, clock, h2, _⟩ := h
  exact (Array.getElem?_eq_some_iff.1 h2).1
def IsFn (v : Value) : Prop := ∃ f x y, v = .func f x y
theorem KdIs.func {w : World} {v : Value} {kd : Kd} (h : KdIs w v kd) : IsFn v := by
  cases kd <;> simp only [KdIs] at h <;> first
    | exact ⟨_, _, _, h⟩
    | (obtain ⟨b, e, _⟩ := h; exact ⟨_, _, _, e⟩)
    | (obtain ⟨g, b, e, _⟩ := h; exact ⟨_, _, _, e⟩)
theorem TkIs.func {w : World} {v : Value} {tk : Tk} (h : TkIs w v tk) : IsFn v := by
  cases tk <;> simp only [TkIs] at h <;> first
    | exact ⟨_, _, _, h⟩
    | (obtain ⟨b, e, _⟩ := h; exact ⟨_, _, _, e⟩)
    | (obtain ⟨g, b, e, _⟩ := h; exact ⟨_, _, _, e⟩)
theorem build_eff (w : World) {v1 v2 : Value} (h1 : IsFn v1) (h2 : IsFn v2) (lv : Int) : (Instr.build 76 #[(0, v1), (1, v2), (2, .int .i64 lv)]).run Try.prog w = .ok (.agg #[v1, v2, .int .i64 lv]) w := by
  obtain ⟨f1, x1, y1, rfl⟩ := h1
  obtain ⟨f2, x2, y2, rfl⟩ := h2
  go_simp
set_option maxHeartbeats 1000000 in
theorem eff_step (hc : chkAll ops = true) (hJ : J ops df w0 listed a w) (hi : i ∈ Region.ready .any ops listed) : wpOp Try.prog ops Q i (fun a' w' => J ops df w0 (listed.setIfInBounds i true) a' w') a w := by
  obtain ⟨o, hr⟩ := rdy_of hc hJ.size hi
  have hlt : i < listed.size := by rw [hJ.size]; exact (Array.getElem?_eq_some_iff.1 hr.at_).1
  refine wpOp_step hr.at_ fun K' hK => ?_
  have hw : Region.wanted o (yielded ops a.tmps) = true := by simp [Region.wanted, hr.guard]
  rw [if_pos hw]
  have hm := hr.chk
  unfold chkOp at hm
  rw [Bool.and_eq_true] at hm
  have hm := hm.2
  have same : ∀ g, MapIn w0 w g listed → ∀ d, o.dst = some d → MapIn w0 w g (listed.setIfInBounds i true) := fun g hg d hd => hg.more hc hr hd rfl (fun _ _ _ h => h)
  split at hm
  · rename_i t d hop hd
    obtain ⟨rfl, rfl⟩ : i = 0 ∧ d = 25 := by simpa using hm
    unfold Oper.wp execOp
    simp only [hop, Option.map_none, Sem.run_bind, run_makeMap, Result.andThen_ok, Sem.run_pure, Oper.upon]
    refine hK _ _ (hJ.put_ hc hr hd (fun g t cs hb => hb.alloc _) (hJ.bel.alloc hJ.bel.size _) (fun g hg => hg.more hc hr hd (heap_alloc_old w _ (old_heap hg)) fun g t cs hb => hb.alloc _) (fun vk hv => by rw [annF_none.2.1] at hv; cases hv)
      (fun _ => ⟨rfl, _, rfl, hJ.bel.size, #[], 0, heap_alloc_new w _, fun e he => by simp at he, fun n hl n1 n2 => ?_⟩) (fun e => by cases e) (fun e => by cases e))
    exfalso
    rcases getD_set hl with e | hl'
    · obtain ⟨o', h5, h6⟩ := ins_of hc n1 n2
      rw [e, hr.at_] at h5
      cases h5
      rw [hd] at h6
      cases h6
    · have := hJ.i0 n n1 n2 hl'
      rw [hr.un] at this
      cases this
  · rename_i s d hop hd
    unfold Oper.wp execOp
    simp only [hop, Sem.run_pure, Oper.upon]
    unfold chkMove at hm
    split at hm
    · rename_i e
      subst e
      simp only [Bool.and_eq_true, decide_eq_true_eq] at hm
      obtain ⟨rfl, hdep⟩ := hm
      obtain ⟨j, o', hj, hd', hl⟩ := hr.dep_ hdep
      have h0 : listed.getD 0 false = true := by
        have : outF 25 = j := out_of hc hj hd'
        rw [show outF 25 = 0 from rfl] at this
        rw [this]
        exact hl
      exact hK _ _ (hJ.put_ hc hr hd (fun _ _ _ h => h) hJ.bel (fun g hg => same g hg _ hd) (fun vk hv => by rw [annF_none.2.2] at hv; cases hv) (fun e => by cases e) (fun _ => ⟨h0, rfl⟩) (fun e => by cases e))
    · rename_i e
      simp only [Bool.and_eq_true, decide_eq_true_eq] at hm
      obtain ⟨⟨⟨⟨h1, h2⟩, hg⟩, hs⟩, ha⟩ := hm
      exact hK _ _ (hJ.put_ hc hr hd (fun _ _ _ h => h) hJ.bel (fun g hg => same g hg _ hd) (fun vk hv => hJ.got_ hr hg (ha ▸ hv)) (fun e => absurd e h2) (fun e' => absurd e' e) (fun e => absurd e h1))
  · rename_i s d hop hd
    unfold Oper.wp execOp
    simp only [hop, Sem.run_pure, Oper.upon]
    simp only [Bool.and_eq_true, decide_eq_true_eq] at hm
    obtain ⟨⟨rfl, rfl⟩, hdep⟩ := hm
    obtain ⟨j, o', hj, hd', hl⟩ := hr.dep_ hdep
    obtain ⟨l0, l1⟩ := hJ.e1 j o' hj hl hd'
    exact hK _ _ (hJ.put_ hc hr hd (fun _ _ _ h => h) hJ.bel (fun g hg => same g hg _ hd) (fun vk hv => by rw [annF_none.1] at hv; cases hv) (fun e => by cases e) (fun e => by cases e) (fun _ => ⟨l0, l1⟩))
  · rename_i t s d hop hd
    obtain ⟨rfl, rfl, ha⟩ : t = 73 ∧ s = 9 ∧ annF d = some (.may .names) := by simpa using hm
    obtain ⟨nb, v, e1, e2, e3⟩ := hJ.nine
    unfold Oper.wp execOp
    simp only [hop, e1, Sem.run_bind, load_names e2, Result.andThen_ok, Sem.run_pure, Oper.upon]
    refine hK _ _ (hJ.put_ hc hr hd (fun _ _ _ h => h) hJ.bel (fun g hg => same g hg _ hd) (fun vk hv => ?_) (fun e => ?_) (fun e => ?_) (fun e => ?_))
    · rw [ha] at hv
      cases hv
      exact e3
    · rw [e, annF_none.2.1] at ha; cases ha
    · rw [e, annF_none.2.2] at ha; cases ha
    · rw [e, annF_none.1] at ha; cases ha
  · rename_i c d hop hd
    split at hm
    · rename_i f hf
      unfold chkCall at hm
      rw [Bool.and_eq_true] at hm
      obtain ⟨hg, hm⟩ := hm
      split at hm
      · rename_i g hag
        split at hm
        · rename_i t hmk
          have ha : annF d = some (.tk t) := by simpa using hm
          have hv : a.eval (.tmp f) = .func (.func g) #[] #[] := hJ.got_ hr hg hag
          have fin : ∀ (v : Value) (w' : World), TkIs w' v t → Below w.heap.size w w' → J ops df w0 (listed.setIfInBounds i true) (a.put o.dst v) w' := by
            intro v w' ht hb
            refine hJ.put_ hc hr hd (fun g t cs h => h.new' hb) (hJ.bel.trans (hb.mono hJ.bel.size)) (fun g hg => hg.more hc hr hd (hb.block g (old_heap hg)) fun g t cs h => h.new' hb) (fun vk hv => ?_) (fun e => ?_) (fun e => ?_) (fun e => ?_)
            · rw [ha] at hv
              cases hv
              exact ht
            · rw [e, annF_none.2.1] at ha; cases ha
            · rw [e, annF_none.2.2] at ha; cases ha
            · rw [e, annF_none.1] at ha; cases ha
          rcases makes_some hmk with ⟨rfl, n, hl, rfl⟩ | ⟨rfl, n, m, hl, rfl⟩
          · have hargs := call_args hl a
            unfold Oper.wp execOp
            simp only [hop, resolve, hf, hv, hargs, Deferred.ofValue, invoke]
            go_simp
            refine (just_made n w).mono ?_
            rintro e w' ⟨⟨v, rfl, ht⟩, hb⟩
            have := hK _ _ (fin v w' ht hb)
            rw [hd] at this
            exact this
          · have hargs := call_args hl a
            unfold Oper.wp execOp
            simp only [hop, resolve, hf, hv, hargs, Deferred.ofValue, invoke]
            go_simp
            refine (each_made n m w).mono ?_
            rintro e w' ⟨⟨v, rfl, ht⟩, hb⟩
            have := hK _ _ (fin v w' ht hb)
            rw [hd] at this
            exact this
        · cases hm
      · cases hm
    · cases hm
  · rename_i t parts d hop hd
    split at hm
    · rename_i m k lv hp
      rw [Bool.and_eq_true, decide_eq_true_eq] at hm
      obtain ⟨rfl, hm⟩ := hm
      unfold chkBuild at hm
      rw [Bool.and_eq_true, Bool.and_eq_true] at hm
      obtain ⟨⟨hg1, hg2⟩, hm⟩ := hm
      split at hm
      · rename_i kd tk ha1 ha2
        have ha : annF d = some (.eff kd tk lv) := by simpa using hm
        have v1 : KdIs w (a.eval (.tmp m)) kd := hJ.got_ hr hg1 ha1
        have v2 : TkIs w (a.eval (.tmp k)) tk := hJ.got_ hr hg2 ha2
        have hpa : parts = #[(0, .tmp m), (1, .tmp k), (2, .const (.int .i64 lv))] := by
          apply Array.ext'
          rw [hp]
        have hb := build_eff w (v1.func) (v2.func) lv
        unfold Oper.wp execOp
        simp only [hop, hpa, List.map_toArray, List.map_cons, List.map_nil, show a.eval (.const (.int .i64 lv)) = .int .i64 lv from rfl, Sem.run_bind, hb, Result.andThen_ok, Sem.run_pure, Oper.upon]
        refine hK _ _ (hJ.put_ hc hr hd (fun _ _ _ h => h) hJ.bel (fun g hg => same g hg _ hd) (fun vk hv => ?_) (fun e => ?_) (fun e => ?_) (fun e => ?_))
        · rw [ha] at hv
          cases hv
          exact ⟨_, _, rfl, v1, v2⟩
        · rw [e, annF_none.2.1] at ha; cases ha
        · rw [e, annF_none.2.2] at ha; cases ha
        · rw [e, annF_none.1] at ha; cases ha
      · cases hm
    · cases hm
  · rename_i t m n s hop hd
    rw [Bool.and_eq_true, decide_eq_true_eq] at hm
    obtain ⟨⟨rfl, rfl⟩, hm⟩ := hm
    unfold chkIns at hm
    simp only [Bool.and_eq_true, decide_eq_true_eq] at hm
    obtain ⟨⟨⟨hd1, hd2⟩, hin⟩, hm⟩ := hm
    split at hm
    · rename_i kd tk lv heff
      have ha : annF s = some (.eff kd tk lv) := by simpa using hm
      obtain ⟨vm, vt, e1, e2, e3⟩ : VOk w (a.eval (.tmp s)) (.eff kd tk lv) := hJ.got_ hr (by unfold got; rw [hd2, Bool.or_true]) ha
      obtain ⟨j, o', hj, hd', hl⟩ := hr.dep_ hd1
      have h0 : listed.getD 0 false = true := by
        have : outF 25 = j := out_of hc hj hd'
        rw [show outF 25 = 0 from rfl] at this
        rw [this]
        exact hl
      obtain ⟨g, g1, g2⟩ := hJ.mp h0
      have hn := effOf_le heff
      obtain ⟨w', h1, h2, h3, h4⟩ := g2.ins_ hc hr hin ⟨hn.2.2.1, hn.2.2.2⟩ (⟨kd, tk, lv, vm, vt, heff, rfl, e2, e3⟩ : Entry w n _) hlt
      unfold Oper.wp execOp
      simp only [hop, g1, e1, show a.eval (.const (.int .i64 n)) = .int .i64 n from rfl, Sem.run_bind, h1, Result.andThen_ok, Sem.run_pure, Oper.upon]
      refine hK _ _ ?_
      rw [hd]
      show J ops df w0 (listed.setIfInBounds i true) a w'
      refine ⟨by simpa using hJ.size, hJ.tmps, hJ.defers, fun s vk hs => (hJ.base s vk hs).keep h3, ?_, fun j o' d' vk hj hl hd'' ha => ?_, fun hl => ⟨g, g1, h2⟩, fun j o' hj hl hd'' => ?_, fun j o' hj hl hd'' => ?_, h4 hJ.bel, fun n n1 n2 hl => getD_set_true h0⟩
      · obtain ⟨nb, v9, f1, f2, f3⟩ := hJ.nine
        exact ⟨nb, v9, f1, h3 _ _ _ f2, f3.keep h3⟩
      · rcases getD_set hl with rfl | hl'
        · rw [hr.at_] at hj
          cases hj
          rw [hd] at hd''
          cases hd''
        · exact (hJ.vals j o' d' vk hj hl' hd'' ha).keep h3
      · rcases getD_set hl with rfl | hl'
        · rw [hr.at_] at hj
          cases hj
          rw [hd] at hd''
          cases hd''
        · obtain ⟨l0, l1⟩ := hJ.e1 j o' hj hl' hd''
          exact ⟨getD_set_true l0, l1⟩
      · rcases getD_set hl with rfl | hl'
        · rw [hr.at_] at hj
          cases hj
          rw [hd] at hd''
          cases hd''
        · obtain ⟨l0, l1⟩ := hJ.e0 j o' hj hl' hd''
          exact ⟨getD_set_true l0, l1⟩
    · cases hm
  · cases hm
/-- the end -/
structure Made (w0 : World) (df : List Deferred) (a : Act) (w : World) : Prop where
  map : ∃ g, a.eval (.tmp 0) = .map (some g) ∧ IsEff w g
  defers : a.defers = df
  bel : Below w0.heap.size w0 w
theorem eff_end (hc : chkAll ops = true) (hJ : J ops df w0 listed a w) (hl : ∀ i, i < ops.size → listed.getD i false = true) : Made w0 df a w := by
  have hc' := hc
  unfold chkAll at hc'
  simp only [Bool.and_eq_true, decide_eq_true_eq] at hc'
  obtain ⟨⟨⟨_, h1⟩, h2⟩, h3⟩ := hc'
  split at h3
  · rename_i o ho
    have hd : o.dst = some 0 := by simpa using h3
    obtain ⟨l0, e0⟩ := hJ.e0 _ o ho (hl _ h2) hd
    obtain ⟨g, e1, e2, es, clock, e3, e4, e5⟩ := hJ.mp l0
    refine ⟨⟨g, e0.trans e1, es, clock, e3, fun e he => ?_, fun n n1 n2 => e5 n ?_ n1 n2⟩, hJ.defers, hJ.bel⟩
    · obtain ⟨n, f1, f2, _⟩ := e4 e he
      exact ⟨n, f1, f2⟩
    · obtain ⟨o', h5, _⟩ := ins_of hc n1 n2
      exact hl _ (Array.getElem?_eq_some_iff.1 h5).1
  · cases h3
theorem eff_region {id : Nat} (hc : chkAll ops = true) (h : J ops a.defers w0 (Array.replicate ops.size false) a w.drew) (hQ : ∀ a' w', Made w0 a.defers a' w' → Q .normal a' w') : (Code.region id ops true).wp Try.prog Q a w := by
  refine wp_region_inv (by kernel_rfl) (J ops a.defers w0) (fun i o ho e he => ?_) (fun _ _ _ h => h.size) (fun _ _ _ _ hJ hi => eff_step hc hJ hi) (fun _ _ _ hJ hl => hQ _ _ (eff_end hc hJ hl)) h
  have hlt := (Array.getElem?_eq_some_iff.1 ho).1
  unfold chkAll at hc
  simp only [Bool.and_eq_true] at hc
  have := List.all_eq_true.1 hc.1.1.1.1 i (List.mem_range.2 hlt)
  rw [ho] at this
  unfold chkOp at this
  simp only [Bool.and_eq_true] at this
  have := Array.all_eq_true'.1 this.1.1.2 e he
  simp only [Bool.and_eq_true, decide_eq_true_eq] at this
  exact this.1
end
end Go.Proofs.Ytgnejkmojfhfpaa
