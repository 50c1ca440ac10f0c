/- The reference's flow: what is known so far, as memory holds it. -/
import Derived.Test.YtgnejkmojfhfpaaRle
import Derived.Test.YtgnejkmojfhfpaaRfx
import Derived.Test.YtgnejkmojfhfpaaFst
namespace Go.Proofs.Ytgnejkmojfhfpaa
open Go.RowKit
set_option linter.unusedVariables false
set_option linter.unusedSimpArgs false

/-- a state's cells: how high, and its slice of blocks -/
abbrev StC := Int × Option Addr × Nat × Nat
def stCs (q : StC) : List Value := [.int .i64 q.1, .slice q.2.1 q.2.2.1 q.2.2.2]
theorem flat_set : ∀ (l : List StC) (i : Nat) (q : StC), i < l.length → (l.set i q).flatMap stCs = ((l.flatMap stCs).set (i * 2) (.int .i64 q.1)).set (i * 2 + 1) (.slice q.2.1 q.2.2.1 q.2.2.2)
  | [], i, q, h => by cases h
  | x :: l, 0, q, h => by simp [stCs]
  | x :: l, i + 1, q, h => by
    have h' : i < l.length := by simpa using h
    rw [List.set_cons_succ, List.flatMap_cons, flat_set l i q h', List.flatMap_cons]
    have e1 : (i + 1) * 2 = (stCs x).length + i * 2 := by simp [stCs]; omega
    rw [e1, List.set_append_right _ _ (by omega), show (stCs x).length + i * 2 + 1 = (stCs x).length + (i * 2 + 1) by omega, List.set_append_right _ _ (by omega)]
    simp
theorem flat_len : ∀ l : List StC, (l.flatMap stCs).length = l.length * 2
  | [] => rfl
  | x :: l => by rw [List.flatMap_cons, List.length_append, flat_len l]; simp [stCs]; omega
theorem BlAt.set_ {W : World} {A : Option Addr} {n c : Nat} {bl : List (Int × Int)} (h : BlAt W A n c bl) {p : Addr} (hp : ∀ b o, A = some ⟨b, o, none⟩ → b ≠ p.block) (v : Value) : BlAt (W.setCell p v) A n c bl :=
  BlAt.mod (S := fun b => b = p.block) h (Mod.setCell (S := fun b => b = p.block) (Mod.refl _ _) (fun _ => rfl) _) (fun b o e => hp b o e)
/-- it lies in none of the three rows -/
def Far (sb kb db : Nat) (A : Option Addr) : Prop := ∀ b o, A = some ⟨b, o, none⟩ → b ≠ sb ∧ b ≠ kb ∧ b ≠ db
def RfO (W : World) (sb kb db : Nat) (kn dn op : Bool) (q : StC) : Option St → Prop
  | none => kn = false ∧ dn = false ∧ op = false
  | some s => kn = true ∧ op = !dn ∧ q.1 = s.h ∧ BlAt W q.2.1 q.2.2.1 q.2.2.2 s.bl ∧ Far sb kb db q.2.1
/-- what is known so far, as memory holds it -/
structure RfAt (W0 : World) (n sb kb db : Nat) (W : World) (f : Fl) (kn dn : List Bool) (ss : List StC) : Prop where
  bel : Below W0.heap.size W0 W
  sb_ : W0.heap.size ≤ sb
  kb_ : W0.heap.size ≤ kb
  db_ : W0.heap.size ≤ db
  kd : kb ≠ db
  ln : f.st.length = n
  lo : f.op.length = n
  lk : kn.length = n
  ld : dn.length = n
  ls : ss.length = n
  kn_ : Blk W kb 4 (bvs kn).toArray
  dn_ : Blk W db 4 (bvs dn).toArray
  ss_ : Blk W sb 41 (ss.flatMap stCs).toArray
  at_ : ∀ (i : Nat) o b d p q, f.st[i]? = some o → kn[i]? = some b → dn[i]? = some d → f.op[i]? = some p → ss[i]? = some q → RfO W sb kb db b d p q o
theorem RfO.new {W W' : World} {sb kb db : Nat} {b d p : Bool} {q : StC} {o : Option St} (h : RfO W sb kb db b d p q o) (hb : Below W.heap.size W W') : RfO W' sb kb db b d p q o := by
  cases o with
  | none => exact h
  | some s => exact ⟨h.1, h.2.1, h.2.2.1, h.2.2.2.1.new hb, h.2.2.2.2⟩
theorem RfO.set_ {W : World} {sb kb db : Nat} {b d p : Bool} {q : StC} {o : Option St} (h : RfO W sb kb db b d p q o) {g i : Nat} (hg : g = sb ∨ g = kb ∨ g = db) (v : Value) : RfO (W.setCell ⟨g, i, none⟩ v) sb kb db b d p q o := by
  cases o with
  | none => exact h
  | some s =>
    obtain ⟨h1, h2, h3, h4, h5⟩ := h
    refine ⟨h1, h2, h3, h4.set_ (fun b' o' e => ?_) v, h5⟩
    obtain ⟨f1, f2, f3⟩ := h5 b' o' e
    rcases hg with rfl | rfl | rfl <;> assumption
section
variable {W0 W W' : World} {n sb kb db : Nat} {f : Fl} {kn dn : List Bool} {ss : List StC}
theorem RfAt.sk (h : RfAt W0 n sb kb db W f kn dn ss) : sb ≠ kb := Blk.ne_ h.ss_ h.kn_ (by decide)
theorem RfAt.sd (h : RfAt W0 n sb kb db W f kn dn ss) : sb ≠ db := Blk.ne_ h.ss_ h.dn_ (by decide)
theorem RfAt.new (h : RfAt W0 n sb kb db W f kn dn ss) (hb : Below W.heap.size W W') : RfAt W0 n sb kb db W' f kn dn ss :=
  ⟨h.bel.trans (hb.mono h.bel.size), h.sb_, h.kb_, h.db_, h.kd, h.ln, h.lo, h.lk, h.ld, h.ls, h.kn_.new' hb, h.dn_.new' hb, h.ss_.new' hb, fun i o b d p q h1 h2 h3 h4 h5 => (h.at_ i o b d p q h1 h2 h3 h4 h5).new hb⟩
theorem bvs_set (l : List Bool) (i : Nat) (v : Bool) : (bvs (l.set i v)).toArray = (bvs l).toArray.setIfInBounds i (.bool v) := by simp [bvs, List.map_set]
/-- one is looked at -/
theorem RfAt.done (h : RfAt W0 n sb kb db W f kn dn ss) {i : Nat} {s : St} (hk : Kn f i s) (ho : f.op[i]? = some true) : RfAt W0 n sb kb db (W.setCell ⟨db, i, none⟩ (.bool true)) ⟨f.st, f.op.set i false⟩ kn (dn.set i true) ss := by
  refine ⟨h.bel.setCell h.db_ _, h.sb_, h.kb_, h.db_, h.kd, h.ln, by simpa using h.lo, h.lk, by simpa using h.ld, h.ls, h.kn_.far h.kd _, ?_, h.ss_.far h.sd _, fun j o b d p q h1 h2 h3 h4 h5 => ?_⟩
  · rw [bvs_set]
    exact h.dn_.set_ i _
  · by_cases e : i = j
    · subst e
      have hil := (List.getElem?_eq_some_iff.1 ho).1
      have hil' : i < dn.length := by rw [h.ld, ← h.lo]; exact hil
      simp only [List.getElem?_set, hil, hil', if_true] at h3 h4
      cases h3
      cases h4
      unfold Kn at hk
      simp only at h1
      rw [hk] at h1
      cases h1
      have hdl := List.getElem?_eq_getElem hil'
      obtain ⟨h6, h7, h8, h9, h10⟩ := h.at_ i _ _ _ _ _ hk h2 hdl ho h5
      exact RfO.set_ (o := some s) ⟨h6, rfl, h8, h9, h10⟩ (.inr (.inr rfl)) _
    · simp only at h4
      rw [List.getElem?_set_ne e] at h3 h4
      exact (h.at_ j o b d p q h1 h2 h3 h4 h5).set_ (.inr (.inr rfl)) _
/-- a state is written -/
theorem RfAt.put (h : RfAt W0 n sb kb db W f kn dn ss) {i : Nat} (hi : i < n) {s : St} {A : Option Addr} {m c : Nat} (hs : BlAt W A m c s.bl) (hA : Far sb kb db A)
    {f' : Fl} (hf : (f.st[i]? = some none ∧ f' = ⟨f.st.set i (some s), f.op.set i true⟩) ∨ (f.st[i]? = some (some s) ∧ f' = f)) :
    RfAt W0 n sb kb db (((W.setCell ⟨kb, i, none⟩ (.bool true)).setCell ⟨sb, i * 2, none⟩ (.int .i64 s.h)).setCell ⟨sb, i * 2 + 1, none⟩ (.slice A m c)) f' (kn.set i true) dn (ss.set i (s.h, A, m, c)) := by
  have hlen : f'.st.length = n ∧ f'.op.length = n := by
    rcases hf with ⟨_, rfl⟩ | ⟨_, rfl⟩
    · exact ⟨by simpa using h.ln, by simpa using h.lo⟩
    · exact ⟨h.ln, h.lo⟩
  have far3 : ∀ {p : Addr}, (p.block = sb ∨ p.block = kb ∨ p.block = db) → ∀ b o, A = some ⟨b, o, none⟩ → b ≠ p.block := fun hp b o e => by
    obtain ⟨f1, f2, f3⟩ := hA b o e
    rcases hp with h | h | h <;> rw [h] <;> assumption
  refine ⟨((h.bel.setCell h.kb_ _).setCell h.sb_ _).setCell h.sb_ _, h.sb_, h.kb_, h.db_, h.kd, hlen.1, hlen.2, by simpa using h.lk, h.ld, by simpa using h.ls, ?_, ?_, ?_, fun j o b d p q h1 h2 h3 h4 h5 => ?_⟩
  · rw [bvs_set]
    exact ((h.kn_.set_ i _).far (Ne.symm h.sk) _).far (Ne.symm h.sk) _
  · exact ((h.dn_.far (Ne.symm h.kd) _).far (Ne.symm h.sd) _).far (Ne.symm h.sd) _
  · rw [flat_set _ _ _ (by rw [h.ls]; exact hi)]
    have := ((h.ss_.far h.sk (p := ⟨kb, i, none⟩) (.bool true)).set_ (i * 2) (.int .i64 s.h)).set_ (i * 2 + 1) (.slice A m c)
    simpa [List.setIfInBounds_toArray] using this
  · by_cases e : i = j
    · subst e
      have l1 : i < kn.length := by rw [h.lk]; exact hi
      have l2 : i < ss.length := by rw [h.ls]; exact hi
      have l3 : i < f.op.length := by rw [h.lo]; exact hi
      have l4 : i < f.st.length := by rw [h.ln]; exact hi
      simp only [List.getElem?_set, l1, l2, if_true] at h2 h5
      cases h2
      cases h5
      have hbl : BlAt (((W.setCell ⟨kb, i, none⟩ (.bool true)).setCell ⟨sb, i * 2, none⟩ (.int .i64 s.h)).setCell ⟨sb, i * 2 + 1, none⟩ (.slice A m c)) A m c s.bl :=
        ((hs.set_ (far3 (.inr (.inl rfl))) _).set_ (far3 (.inl rfl)) _).set_ (far3 (.inl rfl)) _
      have hkn := List.getElem?_eq_getElem l1
      have hsn := List.getElem?_eq_getElem l2
      have hon := List.getElem?_eq_getElem l3
      rcases hf with ⟨h6, rfl⟩ | ⟨h6, rfl⟩
      · simp only [List.getElem?_set, l3, l4, if_true] at h1 h4
        cases h1
        cases h4
        obtain ⟨_, h7, _⟩ := h.at_ i _ _ _ _ _ h6 hkn h3 hon hsn
        exact ⟨rfl, by rw [h7]; rfl, rfl, hbl, hA⟩
      · rw [h6] at h1
        cases h1
        obtain ⟨_, h7, _⟩ := h.at_ i _ _ _ _ _ h6 hkn h3 h4 hsn
        exact ⟨rfl, h7, rfl, hbl, hA⟩
    · rw [List.getElem?_set_ne e] at h2 h5
      have h14 : f.st[j]? = some o ∧ f.op[j]? = some p := by
        rcases hf with ⟨_, rfl⟩ | ⟨_, rfl⟩
        · simp only at h1 h4
          rw [List.getElem?_set_ne e] at h1 h4
          exact ⟨h1, h4⟩
        · exact ⟨h1, h4⟩
      exact (((h.at_ j o b d p q h14.1 h2 h3 h14.2 h5).set_ (.inr (.inl rfl)) _).set_ (.inl rfl) _).set_ (.inl rfl) _
/-- what lies at a place -/
theorem RfAt.get (h : RfAt W0 n sb kb db W f kn dn ss) {i : Nat} (hi : i < n) : ∃ o b d p q, f.st[i]? = some o ∧ kn[i]? = some b ∧ dn[i]? = some d ∧ f.op[i]? = some p ∧ ss[i]? = some q ∧ RfO W sb kb db b d p q o ∧
    W.cell? ⟨kb, i, none⟩ = some (.bool b) ∧ W.cell? ⟨db, i, none⟩ = some (.bool d) ∧ W.cell? ⟨sb, i * 2, none⟩ = some (.int .i64 q.1) ∧ W.cell? ⟨sb, i * 2 + 1, none⟩ = some (.slice q.2.1 q.2.2.1 q.2.2.2) := by
  have l1 : i < kn.length := by rw [h.lk]; exact hi
  have l2 : i < ss.length := by rw [h.ls]; exact hi
  have l3 : i < f.op.length := by rw [h.lo]; exact hi
  have l4 : i < f.st.length := by rw [h.ln]; exact hi
  have l5 : i < dn.length := by rw [h.ld]; exact hi
  have e1 := List.getElem?_eq_getElem l1
  have e2 := List.getElem?_eq_getElem l2
  have e3 := List.getElem?_eq_getElem l3
  have e4 := List.getElem?_eq_getElem l4
  have e5 := List.getElem?_eq_getElem l5
  refine ⟨_, _, _, _, _, e4, e1, e5, e3, e2, h.at_ i _ _ _ _ _ e4 e1 e5 e3 e2, ?_, ?_, ?_, ?_⟩
  · rw [h.kn_.cell i]
    simp [bvs, e1]
  · rw [h.dn_.cell i]
    simp [bvs, e5]
  · rw [h.ss_.cell (i * 2)]
    have := flat_at (f := stCs) (m := 2) ss i 0 _ _ (fun _ _ => rfl) e2 rfl
    simpa using this
  · rw [h.ss_.cell (i * 2 + 1)]
    have := flat_at (f := stCs) (m := 2) ss i 1 _ _ (fun _ _ => rfl) e2 rfl
    simpa using this
end
end Go.Proofs.Ytgnejkmojfhfpaa
