/- The reference's counts, and its ways: plain Lean. The steps, run to their end; how deep the blocks are: plain Lean. Takes: what it is to answer. -/
import Derived.Test.YtgnejkmojfhfpaaVfl
import Derived.Test.YtgnejkmojfhfpaaPrg
namespace Go.Proofs.Ytgnejkmojfhfpaa
set_option linter.unusedVariables false
set_option linter.unusedSimpArgs false
open Go.RowKit

/-- what is told of a number, where a stack has h values -/
def capE (a h : Int) : Int := if h < a then h + 1 else a
def Tk.takesR (p : ProgD) (h : Int) : Tk → Int → Int
  | .just n, _ => n
  | .each b m, a => b * capE a h + m
  | .given, a => match codeAt p a 2 with
    | some c => capE c.defaults h + c.free.length
    | none => 0
  | .around, a => match codeAt p a 3 with
    | some c => c.free.length
    | none => 0
/-- what it takes and leaves -/
def takesE (p : ProgD) (x : Int × Int) (h : Int) : Int × Int :=
  match effOf x.1 with
  | none => (0, 0)
  | some (_, tk, lv) => (tk.takesR p h x.2, lv)
def waysR (p : ProgD) (x : Int × Int) (i : Nat) (s : St) : Option (List (Int × St)) := lookE (takesE p x s.h).1 (takesE p x s.h).2 x.1 x.2 i s
theorem cap_or {a h : Int} (h0 : 0 ≤ h) (hm : h < many) : capE a h = min a many ∨ (h < capE a h ∧ h < min a many) := by
  unfold capE
  split
  · right
    omega
  · left
    omega
theorem takes_or {p : ProgD} {c : CodeD} {op a h : Int} {kd : Kd} {tk : Tk} {lv : Int} (he : effOf op = some (kd, tk, lv)) (hm : kd.may p c a = true) (h0 : 0 ≤ h) (hh : h < many) :
    tk.takesR p h a = tk.takes p a ∨ (h < tk.takesR p h a ∧ h < tk.takes p a) := by
  have hok : tkOk (kd, tk, lv) = true := by
    unfold effOf at he
    split at he
    · exact effs_ok _ (List.mem_of_getElem? he)
    · cases he
  cases tk with
  | just n => exact .inl rfl
  | each b m =>
    simp only [tkOk, decide_eq_true_eq] at hok
    obtain ⟨rfl, h2, h3, h4, h5⟩ := hok
    simp only [Tk.takesR, Tk.takes]
    rcases cap_or (a := a) h0 hh with h1 | ⟨h1, h6⟩
    · left
      rw [h1]
    · have hb : b = 0 ∨ b = 1 ∨ b = 2 := by omega
      rcases hb with rfl | rfl | rfl
      · left
        simp
      · right
        omega
      · right
        omega
  | given =>
    simp only [Tk.takesR, Tk.takes]
    cases codeAt p a 2 with
    | some c' =>
      rcases cap_or (a := c'.defaults) h0 hh with h1 | ⟨h1, h6⟩
      · left
        simp only [h1]
      · right
        simp only
        omega
    | none => exact .inl rfl
  | around => exact .inl rfl
theorem look_or {t t' lv op a : Int} {i : Nat} {s : St} (h : t = t' ∨ (s.h < t ∧ s.h < t')) : lookE t lv op a i s = lookE t' lv op a i s := by
  rcases h with rfl | ⟨h1, h2⟩
  · rfl
  · unfold lookE
    rw [if_pos (.inl (by omega)), if_pos (.inl (by omega))]
theorem ways_same {p : ProgD} {c : CodeD} {x : Int × Int} {i : Nat} {s : St} (hx : wrongE p c x = 0) (h0 : 0 ≤ s.h) (hm : s.h < many) : waysR p x i s = waysE p x i s := by
  obtain ⟨kd, tk, lv, he, hmay, _⟩ := right_parts hx
  unfold waysR waysE takesE
  rw [he]
  exact look_or (takes_or he hmay h0 hm)
/-- where an instruction has a number of another code, there is one -/
theorem func_at {p : ProgD} {a kind : Int} (h : (codeAt p a kind).isSome = true) : ∃ (k : Nat) (c : CodeD), a = k ∧ p[k]? = some c ∧ codeAt p a kind = some c := by
  cases hc : codeAt p a kind with
  | none => rw [hc] at h; cases h
  | some c =>
    unfold codeAt at hc
    split at hc
    · cases hc
    rename_i h0
    split at hc
    · cases hc
    rename_i c' hc'
    split at hc
    · cases hc
      exact ⟨a.toNat, c, by omega, hc', rfl⟩
    · cases hc

theorem goE_fuel {p : ProgD} {c : CodeD} (hr : AllRight p c) : ∀ {m m' k : Nat} {f : Fl}, Good p c.ins k f → undone f < m → undone f < m' → goE p c.ins m f = goE p c.ins m' f
  | 0, _, _, _, _, h, _ => by omega
  | _ + 1, 0, _, _, _, _, h => by omega
  | m + 1, m' + 1, k, f, hg, h, h' => by
    unfold goE
    cases hf : firstE f.op with
    | none => rfl
    | some i =>
      simp only
      cases hs : stepE p c.ins f i with
      | inr e => rfl
      | inl f' =>
        simp only
        obtain ⟨h3, h4, _⟩ := good_step hr hg (firstE_some hf).1 hs
        exact goE_fuel hr h3 (by omega) (by omega)
/-- all steps from there on -/
def runE (p : ProgD) (ins : List (Int × Int)) (f : Fl) : List (Option St) ⊕ (Int × Nat) := goE p ins (undone f + 1) f
theorem run_step {p : ProgD} {c : CodeD} (hr : AllRight p c) {k i : Nat} {f f' : Fl} (hg : Good p c.ins k f) (hf : firstE f.op = some i) (hs : stepE p c.ins f i = .inl f') : runE p c.ins f = runE p c.ins f' := by
  obtain ⟨h3, h4, _⟩ := good_step hr hg (firstE_some hf).1 hs
  unfold runE
  have : goE p c.ins (undone f + 1) f = goE p c.ins (undone f) f' := by
    conv => lhs; unfold goE
    simp only [hf, hs]
  rw [this]
  exact goE_fuel hr h3 (by omega) (by omega)
theorem run_bad {p : ProgD} {ins : List (Int × Int)} {i : Nat} {f : Fl} {e : Int} (hf : firstE f.op = some i) (hs : stepE p ins f i = .inr e) : runE p ins f = .inr (e, i) := by
  unfold runE goE
  simp only [hf, hs]
theorem run_end {p : ProgD} {ins : List (Int × Int)} {f : Fl} (hf : firstE f.op = none) : runE p ins f = .inl f.st := by
  unfold runE goE
  simp only [hf]
theorem flow_run {p : ProgD} {c : CodeD} (hr : AllRight p c) (hn : 0 < c.ins.length) : flowE p c.ins = match runE p c.ins (startF c.ins.length) with
    | .inl st => (st.map heightOf, 0, 0)
    | .inr (e, i) => ([], e, i) := by
  obtain ⟨g0, _, u0⟩ := start_good p c.ins hn
  unfold flowE runE
  rw [if_neg (by omega), goE_fuel hr g0 u0 (Nat.lt_succ_self _)]
  rfl
theorem first_of {l : List Bool} {i : Nat} (h : l[i]? = some true) (h0 : ∀ j, j < i → l[j]? ≠ some true) : firstE l = some i := by
  unfold firstE
  rw [List.findIdx?_eq_some_iff_getElem]
  obtain ⟨h1, h2⟩ := List.getElem?_eq_some_iff.1 h
  refine ⟨h1, by simpa using h2, fun j hj => ?_⟩
  have := h0 j hj
  rw [List.getElem?_eq_getElem (by omega)] at this
  simpa using this
theorem first_no {l : List Bool} (h0 : ∀ j : Nat, l[j]? ≠ some true) : firstE l = none := by
  unfold firstE
  rw [List.findIdx?_eq_none_iff]
  intro x hx
  obtain ⟨j, hj, rfl⟩ := List.mem_iff_getElem.1 hx
  have := h0 j
  rw [List.getElem?_eq_getElem hj] at this
  simpa using this
/-- no blocks but k are round it -/
def Deep (f : Fl) (k : Nat) : Prop := ∀ i s, Kn f i s → s.bl.length ≤ k
theorem deep_step {p : ProgD} {c : CodeD} {k i : Nat} {f f' : Fl} (hr : AllRight p c) (hg : Good p c.ins k f) (hd : Deep f k) (hs : stepE p c.ins f i = .inl f') : Deep f' (k + 1) := by
  unfold stepE at hs
  split at hs
  case h_2 => cases hs
  rename_i x s hx hk
  have hk : Kn f i s := hk
  split at hs
  · cases hs
  rename_i ways hw
  have hways := ways_of (hr x (List.mem_of_getElem? hx)) hw (hg.low i s hk)
  obtain ⟨he, -⟩ := pushE_ok (n := c.ins.length) (f := ⟨f.st, f.op.set i false⟩) hg.st (by simpa using hg.op) (fun q hq => (hways q hq).1) hs
  intro j t ht
  rcases he.new j t ht with h1 | ⟨_, q, hq, rfl, rfl⟩
  · have := hd j t h1
    omega
  · have h1 := hd i s hk
    rcases (hways q hq).2.2.2 with h2 | h2 | ⟨h2, _, _⟩
    · rw [h2]; omega
    · rw [h2, List.length_tail]; omega
    · rw [h2, List.length_cons]; omega
theorem goE_deep {p : ProgD} {c : CodeD} (hr : AllRight p c) : ∀ {m k : Nat} {f : Fl} {st : List (Option St)}, Good p c.ins k f → Deep f k → goE p c.ins m f = .inl st →
    ∀ (i : Nat) s, st[i]? = some (some s) → s.h ≤ 3 * ((k + m : Nat) : Int) ∧ s.bl.length ≤ k + m
  | 0, k, f, st, hg, hd, h, i, s, hi => by
    cases h
    have h1 := hg.high i s hi
    have h2 := hd i s hi
    exact ⟨by omega, by omega⟩
  | m + 1, k, f, st, hg, hd, h, i, s, hi => by
    unfold goE at h
    split at h
    · cases h
      have h1 := hg.high i s hi
      have h2 := hd i s hi
      exact ⟨by omega, by omega⟩
    · rename_i j hf
      split at h
      · cases h
      · rename_i f' hs
        obtain ⟨h3, _, _⟩ := good_step hr hg (firstE_some hf).1 hs
        have h4 := deep_step hr hg hd hs
        obtain ⟨h5, h6⟩ := goE_deep hr h3 h4 h i s hi
        exact ⟨by omega, by omega⟩
theorem start_deep (n : Nat) : Deep (startF n) 0 := by
  intro i s h
  unfold Kn startF at h
  simp only [List.getElem?_set, List.length_replicate] at h
  split at h
  · split at h
    · cases h
      simp
    · cases h
  · simp [List.getElem?_replicate] at h
theorem wrong_tell {p : ProgD} {c : CodeD} : ∀ {l : List (Int × Int)} {j i : Nat}, wrongs p c l j ≠ some (0, i)
  | [], j, i, h => by cases h
  | x :: l, j, i, h => by
    unfold wrongs at h
    split at h
    · exact wrong_tell h
    · rename_i hne
      injection h with h
      injection h with h4 h5
      exact hne h4
theorem push_tell {n : Nat} : ∀ {w : List (Int × St)} {g : Fl} {e : Int}, pushE n g w = .inr e → e = 51 ∨ e = 52
  | [], g, e, h => by cases h
  | q :: w, g, e, h => by
    unfold pushE at h
    repeat' split at h
    all_goals first | (injection h with h; subst h; simp; done) | exact push_tell h
theorem go_tell {p : ProgD} {ins : List (Int × Int)} : ∀ {m : Nat} {f : Fl} {e : Int} {i : Nat}, goE p ins m f = .inr (e, i) → f.op.length = ins.length → (e = 51 ∨ e = 52) ∧ i < ins.length
  | 0, f, e, i, h, _ => by cases h
  | m + 1, f, e, i, h, hl => by
    unfold goE at h
    split at h
    · cases h
    · rename_i j hj
      have hjl : j < ins.length := by
        have := (List.getElem?_eq_some_iff.1 (firstE_some hj).1).1
        omega
      split at h
      · rename_i e' hs
        injection h with h
        injection h with h1 h2
        subst h1 h2
        refine ⟨?_, hjl⟩
        unfold stepE at hs
        repeat' split at hs
        all_goals first | (injection hs with hs; subst hs; simp; done) | exact push_tell hs
      · rename_i f' hs
        refine go_tell h ?_
        unfold stepE at hs
        split at hs
        · split at hs
          · cases hs
          · rename_i x s _ _ _ ways _
            have : ∀ {w : List (Int × St)} {g g' : Fl}, pushE ins.length g w = .inl g' → g'.op.length = g.op.length := by
              intro w
              induction w with
              | nil => intro g g' h; cases h; rfl
              | cons q w ih =>
                intro g g' h
                unfold pushE at h
                repeat' split at h
                all_goals first | (cases h; done) | (rw [ih h]; simp; done) | exact ih h
            rw [this hs]
            simpa using hl
        · cases hs
/-- of a code that is right: what is known at the end; how high, and how deep -/
theorem fixed_small {p : ProgD} {c : CodeD} {l : List Int} {k : Int} (h : heightsC p c = (l, 0, k)) : ∃ st, Fixed p c l st ∧ ∀ (i : Nat) s, st[i]? = some (some s) → s.h ≤ 3 * ((c.ins.length + 1 : Nat) : Int) ∧ s.bl.length ≤ c.ins.length + 1 := by
  unfold heightsC at h
  split at h
  · cases h
  split at h
  · rename_i e i hw
    injection h with _ h2
    injection h2 with h2 _
    subst h2
    exact absurd hw wrong_tell
  · rename_i hw
    have hr : AllRight p c := wrongs_none.1 hw
    unfold flowE at h
    split at h
    · cases h
    rename_i hn
    obtain ⟨g0, k0, u0⟩ := start_good p c.ins (by omega)
    split at h
    · rename_i st hst
      cases h
      have hb := goE_deep hr g0 (start_deep _) hst
      obtain ⟨f', ⟨⟨k', hg⟩, hsh⟩, rfl, hk⟩ := goE_ok hr g0 u0 hst
      have hop : ∀ (i : Nat) s, f'.st[i]? = some (some s) → f'.op[i]? = some false := by
        intro i s hi
        have h1 := (List.getElem?_eq_some_iff.1 hi).1
        have h2 : i < f'.op.length := by have := hg.st; have := hg.op; omega
        have h3 := List.getElem?_eq_getElem h2
        cases h4 : f'.op[i] with
        | false => rw [h3, h4]
        | true => rw [h4] at h3; exact absurd h3 (hsh i)
      refine ⟨f'.st, ⟨hg.st, by omega, rfl, hk _ _ k0, hr, hg.low, fun i s hi b r e => ?_, fun i s hi => ?_⟩, fun i s hi => by simpa using hb i s hi⟩
      · obtain ⟨h1, _, h2⟩ := hg.blocks i s hi [] (b :: r) b r (by simpa using e) rfl
        exact ⟨h1, h2⟩
      · obtain ⟨x, ways, h1, h2, h3⟩ := hg.closed i s hi (hop i s hi)
        refine ⟨x, ways, h1, h2, fun q hq => ⟨?_, (h3 q hq).1, (h3 q hq).2⟩⟩
        exact (ways_of (hr x (List.mem_of_getElem? h1)) h2 (hg.low i s hi) q hq).1
    · rename_i e i hst
      injection h with h1 h2
      injection h2 with h2 h3
      subst h2
      have := (go_tell hst g0.op).1
      omega
theorem rstep_none {p : ProgD} {ins : List (Int × Int)} {i : Nat} {f : Fl} {x : Int × Int} {s : St} (hx : ins[i]? = some x) (hs : Kn f i s) (hw : waysE p x i s = none) : stepE p ins f i = .inr 52 := by
  unfold Kn at hs
  unfold stepE
  simp only [hx, hs, hw]
theorem rstep_some {p : ProgD} {ins : List (Int × Int)} {i : Nat} {f : Fl} {x : Int × Int} {s : St} {ways : List (Int × St)} (hx : ins[i]? = some x) (hs : Kn f i s) (hw : waysE p x i s = some ways) : stepE p ins f i = pushE ins.length ⟨f.st, f.op.set i false⟩ ways := by
  unfold Kn at hs
  unfold stepE
  simp only [hx, hs, hw]
theorem rpush_at {n jj : Nat} {f : Fl} {ways : List (Int × St)} {q : Int × St} (h : ways[jj]? = some q) : pushE n f (ways.drop jj) = pushE n f (q :: ways.drop (jj + 1)) := by
  rw [List.drop_eq_getElem?_toList_append, h]
  rfl
theorem rpush_ge {n : Nat} {f : Fl} {to : Int} {s : St} {r : List (Int × St)} (h : (n : Int) ≤ to) : pushE n f ((to, s) :: r) = .inr 51 := by
  unfold pushE
  rw [if_pos h]
theorem rpush_new {n t : Nat} {f : Fl} {s : St} {r : List (Int × St)} (h : t < n) (hs : f.st[t]? = some none) : pushE n f (((t : Int), s) :: r) = pushE n ⟨f.st.set t (some s), f.op.set t true⟩ r := by
  rw [pushE, if_neg (by omega)]
  simp only [Int.toNat_natCast, hs]
theorem rpush_same {n t : Nat} {f : Fl} {s : St} {r : List (Int × St)} (h : t < n) (hs : f.st[t]? = some (some s)) : pushE n f (((t : Int), s) :: r) = pushE n f r := by
  rw [pushE, if_neg (by omega)]
  simp only [Int.toNat_natCast, hs, if_true]
theorem rpush_no {n t : Nat} {f : Fl} {s u : St} {r : List (Int × St)} (h : t < n) (hs : f.st[t]? = some (some u)) (hne : u ≠ s) : pushE n f (((t : Int), s) :: r) = .inr 52 := by
  rw [pushE, if_neg (by omega)]
  simp only [Int.toNat_natCast, hs, if_neg hne]

/-- it answers two numbers, and leaves all as it was -/
def TkR (w : World) (t l : Int) (e : Ending) (w' : World) : Prop := e = .returned (.tuple #[.int .i64 t, .int .i64 l]) ∧ Below w.heap.size w w'

end Go.Proofs.Ytgnejkmojfhfpaa
