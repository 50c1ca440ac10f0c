/- Laws of the steps: plain Lean. -/
import Derived.Test.YtgnejkmojfhfpaaVfy
namespace Go.Proofs.Ytgnejkmojfhfpaa
set_option linter.unusedVariables false
set_option linter.unusedSimpArgs false

/-- known at i -/
def Kn (f : Fl) (i : Nat) (s : St) : Prop := f.st[i]? = some (some s)
/-- looked at -/
def doneB (f : Fl) (i : Nat) : Bool := f.op[i]? == some false && (f.st[i]?.join).isSome
def undone (f : Fl) : Nat := (List.range f.st.length).countP fun i => !doneB f i
/-- what there was stays, and the ways are there -/
structure Ext (f f' : Fl) (ways : List (Int × St)) : Prop where
  st : f'.st.length = f.st.length
  op : f'.op.length = f.op.length
  keep : ∀ i s, Kn f i s → Kn f' i s ∧ f'.op[i]? = f.op[i]?
  new : ∀ i s, Kn f' i s → Kn f i s ∨ (f'.op[i]? = some true ∧ ∃ q ∈ ways, q.1.toNat = i ∧ q.2 = s)
  same : ∀ i : Nat, f.st[i]? = some none → f'.st[i]? = some none → f'.op[i]? = f.op[i]?
theorem Ext.refl (f : Fl) (ways : List (Int × St)) : Ext f f ways := ⟨rfl, rfl, fun _ _ h => ⟨h, rfl⟩, fun _ _ h => .inl h, fun _ _ _ => rfl⟩
theorem pushE_ok {n : Nat} : ∀ {ways : List (Int × St)} {f f' : Fl}, f.st.length = n → f.op.length = n → (∀ q ∈ ways, 0 ≤ q.1) → pushE n f ways = .inl f' →
    Ext f f' ways ∧ ∀ q ∈ ways, q.1 < n ∧ Kn f' q.1.toNat q.2
  | [], f, f', _, _, _, h => by
    cases h
    exact ⟨Ext.refl _ _, fun q hq => by cases hq⟩
  | (to, s) :: r, f, f', hl, ho, h0, h => by
    have h00 := h0 (to, s) (by simp)
    have h0' : ∀ q ∈ r, 0 ≤ q.1 := fun q hq => h0 q (by simp [hq])
    simp only at h00
    unfold pushE at h
    split at h
    · cases h
    rename_i hlt
    split at h
    · rename_i hn
      obtain ⟨h1, h2⟩ := pushE_ok (by simpa using hl) (by simpa using ho) h0' h
      have hto : to.toNat < f.st.length := (List.getElem?_eq_some_iff.1 hn).1
      have hk : Kn f' to.toNat s := (h1.keep to.toNat s (by simp [Kn, hto])).1
      refine ⟨⟨by simpa using h1.st, by simpa using h1.op, fun i t hi => ?_, fun i t hi => ?_, fun i hi hi' => ?_⟩, fun q hq => ?_⟩
      · have hne : to.toNat ≠ i := by
          rintro rfl
          unfold Kn at hi
          rw [hn] at hi
          cases hi
        have := h1.keep i t (by unfold Kn at hi ⊢; simp only; rw [List.getElem?_set_ne hne]; exact hi)
        refine ⟨this.1, this.2.trans ?_⟩
        simp only
        rw [List.getElem?_set_ne hne]
      · by_cases hne : to.toNat = i
        · subst hne
          refine .inr ⟨?_, (to, s), by simp, rfl, ?_⟩
          · rw [(h1.keep to.toNat s (by simp [Kn, hto])).2]
            simp [ho, ← hl, hto]
          · unfold Kn at hk hi
            rw [hk] at hi
            cases hi
            rfl
        · rcases h1.new i t hi with h3 | ⟨h3, q, hq, h4, h5⟩
          · left
            unfold Kn at h3 ⊢
            simp only at h3
            rwa [List.getElem?_set_ne hne] at h3
          · exact .inr ⟨h3, q, by simp [hq], h4, h5⟩
      · have hne : to.toNat ≠ i := by
          rintro rfl
          unfold Kn at hk
          rw [hk] at hi'
          cases hi'
        have := h1.same i (by simp only; rw [List.getElem?_set_ne hne]; exact hi) hi'
        rw [this]
        simp only
        rw [List.getElem?_set_ne hne]
      · rcases List.mem_cons.1 hq with rfl | hq
        · exact ⟨by omega, hk⟩
        · exact h2 q hq
    · rename_i t ht
      split at h
      · rename_i hts
        subst hts
        obtain ⟨h1, h2⟩ := pushE_ok hl ho h0' h
        refine ⟨⟨h1.st, h1.op, h1.keep, fun i t hi => ?_, h1.same⟩, fun q hq => ?_⟩
        · rcases h1.new i t hi with h3 | ⟨h3, q, hq, h4, h5⟩
          · exact .inl h3
          · exact .inr ⟨h3, q, by simp [hq], h4, h5⟩
        · rcases List.mem_cons.1 hq with rfl | hq
          · exact ⟨by omega, (h1.keep _ _ ht).1⟩
          · exact h2 q hq
      · cases h
    · cases h

/-- what holds of what is known, all the time -/
structure Good (p : ProgD) (ins : List (Int × Int)) (k : Nat) (f : Fl) : Prop where
  st : f.st.length = ins.length
  op : f.op.length = ins.length
  open_ : ∀ i : Nat, f.op[i]? = some true → ∃ s, Kn f i s
  low : ∀ i s, Kn f i s → 0 ≤ s.h
  high : ∀ i s, Kn f i s → s.h ≤ 3 * (k : Int)
  blocks : ∀ i s, Kn f i s → ∀ a l b r, s.bl = a ++ l → l = b :: r → 0 ≤ b.1 ∧ b.2 ≤ 3 * (k : Int) ∧ Kn f b.1.toNat ⟨b.2 + 1, r⟩
  closed : ∀ i s, Kn f i s → f.op[i]? = some false → ∃ x ways, ins[i]? = some x ∧ waysE p x i s = some ways ∧ ∀ q ∈ ways, q.1 < ins.length ∧ Kn f q.1.toNat q.2
theorem Good.mono {p : ProgD} {ins : List (Int × Int)} {k m : Nat} {f : Fl} (h : Good p ins k f) (hkm : k ≤ m) : Good p ins m f :=
  ⟨h.st, h.op, h.open_, h.low, fun i s hk => by have := h.high i s hk; omega, fun i s hk a l b r e e' => by
    obtain ⟨h1, h2, h3⟩ := h.blocks i s hk a l b r e e'
    exact ⟨h1, by omega, h3⟩, h.closed⟩

/-- all instructions are right by themselves -/
def AllRight (p : ProgD) (c : CodeD) : Prop := ∀ x ∈ c.ins, wrongE p c x = 0
theorem wrongs_none {p : ProgD} {c : CodeD} : ∀ {l : List (Int × Int)} {i : Nat}, wrongs p c l i = none ↔ ∀ x ∈ l, wrongE p c x = 0
  | [], i => by simp [wrongs]
  | x :: l, i => by
    unfold wrongs
    split
    · rename_i h
      rw [wrongs_none]
      simp [h]
    · rename_i h
      simp [h]
theorem effs_le : ∀ x ∈ effs, 0 ≤ x.2.2 ∧ x.2.2 ≤ 3 := by decide
theorem effOf_le {op : Int} {kd : Kd} {tk : Tk} {lv : Int} (h : effOf op = some (kd, tk, lv)) : 0 ≤ lv ∧ lv ≤ 3 ∧ 1 ≤ op ∧ op ≤ 56 := by
  unfold effOf at h
  split at h
  · have h1 := effs_le _ (List.mem_of_getElem? h)
    have h2 := (List.getElem?_eq_some_iff.1 h).1
    have h3 : effs.length = 56 := rfl
    exact ⟨h1.1, h1.2, by omega, by omega⟩
  · cases h
/-- the instruction's argument is no negative number, where it counts; and it takes no negative number -/
def tkOk : Kd × Tk × Int → Bool
  | (_, .just n, _) => decide (0 ≤ n ∧ n ≤ 3)
  | (kd, .each b m, _) => decide (kd = .count ∧ 0 ≤ b ∧ b ≤ 2 ∧ 0 ≤ m ∧ m ≤ 1)
  | (kd, .given, _) => decide (kd = .func)
  | (kd, .around, _) => decide (kd = .body)
theorem effs_ok : ∀ x ∈ effs, tkOk x = true := by decide
theorem codeAt_def {p : ProgD} {a : Int} {c : CodeD} (h : codeAt p a 2 = some c) : 0 ≤ c.defaults := by
  unfold codeAt at h
  split at h
  · cases h
  · split at h
    · cases h
    · split at h
      · rename_i h1
        cases h
        omega
      · cases h
theorem takes_nonneg {p : ProgD} {c : CodeD} {op a : Int} {kd : Kd} {tk : Tk} {lv : Int} (h : effOf op = some (kd, tk, lv)) (hm : kd.may p c a = true) : 0 ≤ tk.takes p a := by
  unfold effOf at h
  split at h
  · have h1 := effs_ok _ (List.mem_of_getElem? h)
    cases tk with
    | just n =>
      simp only [tkOk, decide_eq_true_eq] at h1
      exact h1.1
    | each b m =>
      simp only [tkOk, decide_eq_true_eq] at h1
      obtain ⟨rfl, h2, h3, h4, h5⟩ := h1
      have ha : 0 ≤ a := by simpa [Kd.may] using hm
      have : 0 ≤ min a many := by unfold many; omega
      have := Int.mul_nonneg h2 this
      simp only [Tk.takes]
      omega
    | given =>
      simp only [Tk.takes]
      split
      · rename_i c' hc
        have := codeAt_def hc
        have : 0 ≤ min c'.defaults many := by unfold many; omega
        omega
      · omega
    | around =>
      simp only [Tk.takes]
      split <;> omega
  · cases h
/-- where an instruction jumps, its argument is no negative number -/
theorem effs_jump : ∀ i : Nat, i < 56 → jumpsB ((i : Int) + 1) = true → (effs[i]?).map (·.1) = some Kd.count := by decide

theorem effs_next : ∀ x ∈ effs[41]?, x.2.1 = .just 1 := by decide
theorem look_ways {takes leaves op a : Int} {i : Nat} {s : St} {ways : List (Int × St)} (h : lookE takes leaves op a i s = some ways) (ht : 0 ≤ takes) (hl : 0 ≤ leaves ∧ leaves ≤ 3) (hs : 0 ≤ s.h)
    (hj : jumpsB op = true → 0 ≤ a) (h42 : op = 42 → 1 ≤ takes) :
    ∀ q ∈ ways, 0 ≤ q.1 ∧ 0 ≤ q.2.h ∧ q.2.h ≤ s.h + 3 ∧ (q.2.bl = s.bl ∨ q.2.bl = s.bl.tail ∨ (q.2.bl = (a, s.h) :: s.bl ∧ 0 ≤ a ∧ (a, St.mk (s.h + 1) s.bl) ∈ ways)) := by
  have hj' : op = 36 ∨ op = 37 ∨ op = 38 ∨ op = 39 ∨ op = 40 ∨ op = 42 ∨ op = 47 → 0 ≤ a := by
    intro h1
    refine hj ?_
    unfold jumpsB
    simp only [decide_eq_true_eq]
    omega
  unfold lookE at h
  split at h
  · cases h
  rename_i hno
  have hr : 0 ≤ s.h - takes := by
    rcases Int.lt_or_le (s.h - takes) 0 with h1 | h1
    · exact absurd (.inl h1) hno
    · exact h1
  clear hno
  have hi : (0 : Int) ≤ (i : Int) + 1 := by omega
  split at h
  · rename_i e
    cases h
    intro q hq
    obtain rfl : q = (a, s) := by simpa using hq
    exact ⟨hj' (by omega), hs, by show s.h ≤ s.h + 3; omega, .inl rfl⟩
  split at h
  · cases h
    intro q hq
    cases hq
  split at h
  · rename_i e
    cases h
    intro q hq
    have ha := hj' (by omega)
    simp only [List.mem_cons, List.not_mem_nil, or_false] at hq
    rcases hq with rfl | rfl
    · exact ⟨hi, by simp only; omega, by simp only; omega, .inl rfl⟩
    · exact ⟨ha, by simp only; omega, by simp only; omega, .inl rfl⟩
  split at h
  · rename_i e
    cases h
    intro q hq
    have ha := hj' (by omega)
    simp only [List.mem_cons, List.not_mem_nil, or_false] at hq
    rcases hq with rfl | rfl
    · exact ⟨hi, by simp only; omega, by simp only; omega, .inl rfl⟩
    · exact ⟨ha, by simp only; omega, by simp only; omega, .inl rfl⟩
  split at h
  · rename_i e
    cases h
    intro q hq
    have ha := hj' (by omega)
    have := h42 e
    simp only [List.mem_cons, List.not_mem_nil, or_false] at hq
    rcases hq with rfl | rfl
    · exact ⟨hi, by simp only; omega, by simp only; omega, .inl rfl⟩
    · exact ⟨ha, by simp only; omega, by simp only; omega, .inl rfl⟩
  split at h
  · rename_i e
    cases h
    intro q hq
    have ha := hj' (by omega)
    simp only [List.mem_cons, List.not_mem_nil, or_false] at hq
    rcases hq with rfl | rfl
    · exact ⟨hi, by simp only; omega, by simp only; omega, .inr (.inr ⟨rfl, ha, by simp⟩)⟩
    · exact ⟨ha, by simp only; omega, by simp only; omega, .inl rfl⟩
  split at h
  · cases h
    intro q hq
    obtain rfl : q = _ := by simpa using hq
    exact ⟨hi, by simp only; omega, by simp only; omega, .inr (.inl rfl)⟩
  · cases h
    intro q hq
    obtain rfl : q = _ := by simpa using hq
    exact ⟨hi, by simp only; omega, by simp only; omega, .inl rfl⟩

/-- an instruction that is right by itself -/
theorem right_parts {p : ProgD} {c : CodeD} {x : Int × Int} (h : wrongE p c x = 0) : ∃ kd tk lv, effOf x.1 = some (kd, tk, lv) ∧ kd.may p c x.2 = true ∧ (jumpsB x.1 = true → x.2 < c.ins.length) := by
  unfold wrongE at h
  split at h
  · cases h
  · rename_i kd tk lv he
    split at h
    · cases h
    rename_i hm
    split at h
    · cases h
    rename_i hj
    exact ⟨kd, tk, lv, he, by simpa using hm, fun h1 => by
      rcases Int.lt_or_le x.2 c.ins.length with h2 | h2
      · exact h2
      · exact absurd ⟨h1, h2⟩ hj⟩
theorem jump_pos {p : ProgD} {c : CodeD} {x : Int × Int} {kd : Kd} {tk : Tk} {lv : Int} (h : effOf x.1 = some (kd, tk, lv)) (hm : kd.may p c x.2 = true) (hj : jumpsB x.1 = true) : 0 ≤ x.2 := by
  obtain ⟨_, _, h1, h2⟩ := effOf_le h
  unfold effOf at h
  rw [if_pos h1] at h
  have h3 := effs_jump (x.1 - 1).toNat (by omega) (by rw [← hj]; congr 1; omega)
  rw [h] at h3
  obtain rfl : kd = .count := by simpa using h3
  simpa [Kd.may] using hm
theorem next_one {p : ProgD} {a op : Int} {kd : Kd} {tk : Tk} {lv : Int} (h : effOf op = some (kd, tk, lv)) (e : op = 42) : 1 ≤ tk.takes p a := by
  subst e
  have h1 : effs[41]? = some (kd, tk, lv) := h
  have := effs_next _ h1
  simp only at this
  subst this
  exact Int.le_refl _
theorem ways_of {p : ProgD} {c : CodeD} {x : Int × Int} {i : Nat} {s : St} {ways : List (Int × St)} (hx : wrongE p c x = 0) (h : waysE p x i s = some ways) (hs : 0 ≤ s.h) :
    ∀ q ∈ ways, 0 ≤ q.1 ∧ 0 ≤ q.2.h ∧ q.2.h ≤ s.h + 3 ∧ (q.2.bl = s.bl ∨ q.2.bl = s.bl.tail ∨ (q.2.bl = (x.2, s.h) :: s.bl ∧ 0 ≤ x.2 ∧ (x.2, St.mk (s.h + 1) s.bl) ∈ ways)) := by
  obtain ⟨kd, tk, lv, he, hm, _⟩ := right_parts hx
  unfold waysE at h
  rw [he] at h
  have hl := effOf_le he
  exact look_ways h (takes_nonneg he hm) ⟨hl.1, hl.2.1⟩ hs (jump_pos he hm) (next_one he)

theorem firstE_some {l : List Bool} {i : Nat} (h : firstE l = some i) : l[i]? = some true ∧ ∀ j, j < i → l[j]? = some false := by
  unfold firstE at h
  obtain ⟨h1, h2, h3⟩ := List.findIdx?_eq_some_iff_getElem.1 h
  refine ⟨by rw [List.getElem?_eq_getElem h1]; simpa using h2, fun j hj => ?_⟩
  have := h3 j hj
  rw [List.getElem?_eq_getElem (by omega)]
  simpa using this
theorem firstE_none {l : List Bool} (h : firstE l = none) (i : Nat) : l[i]? ≠ some true := by
  unfold firstE at h
  rw [List.findIdx?_eq_none_iff] at h
  intro h1
  have := h _ (List.mem_of_getElem? h1)
  cases this
theorem countP_lt {α : Type} {l : List α} {a b : α → Bool} (h : ∀ x ∈ l, b x = true → a x = true) {x : α} (hx : x ∈ l) (ha : a x = true) (hb : b x = false) : l.countP b < l.countP a := by
  induction l with
  | nil => cases hx
  | cons y l ih =>
    simp only [List.countP_cons]
    rcases List.mem_cons.1 hx with rfl | hx
    · have := List.countP_mono_left (l := l) (p := b) (q := a) fun z hz hz' => h z (by simp [hz]) hz'
      simp [ha, hb]
      omega
    · have h1 := ih (fun z hz => h z (by simp [hz])) hx
      have h2 := h y (by simp)
      cases hby : b y <;> cases hay : a y <;> simp_all <;> omega

theorem good_step {p : ProgD} {c : CodeD} {k i : Nat} {f f' : Fl} (hr : AllRight p c) (hg : Good p c.ins k f) (hi : f.op[i]? = some true) (hs : stepE p c.ins f i = .inl f') :
    Good p c.ins (k + 1) f' ∧ undone f' < undone f ∧ ∀ j s, Kn f j s → Kn f' j s := by
  unfold stepE at hs
  split at hs
  case h_2 => cases hs
  rename_i x s hx hk
  have hk : Kn f i s := hk
  split at hs
  · cases hs
  rename_i ways hw
  have hxr := hr x (List.mem_of_getElem? hx)
  have hways := ways_of hxr hw (hg.low i s hk)
  obtain ⟨he, hall⟩ := pushE_ok (n := c.ins.length) (f := ⟨f.st, f.op.set i false⟩) hg.st (by simpa using hg.op) (fun q hq => (hways q hq).1) hs
  have hop : ∀ j, i ≠ j → (f.op.set i false)[j]? = f.op[j]? := fun j hj => List.getElem?_set_ne hj
  have hil : i < f.op.length := (List.getElem?_eq_some_iff.1 hi).1
  have hopi : (f.op.set i false)[i]? = some false := by simp [hil]
  have hkeep : ∀ j t, Kn f j t → Kn f' j t := fun j t h => (he.keep j t h).1
  have hnew : ∀ j t, Kn f' j t → Kn f j t ∨ (f'.op[j]? = some true ∧ ∃ q ∈ ways, q.1.toNat = j ∧ q.2 = t) := he.new
  refine ⟨⟨he.st.trans hg.st, by simpa using he.op.trans (by simpa using hg.op), fun j hj => ?_, fun j t ht => ?_, fun j t ht => ?_, fun j t ht a l b r e1 e2 => ?_, fun j t ht hf => ?_⟩, ?_, hkeep⟩
  · have hjl : j < f'.st.length := by
      have := (List.getElem?_eq_some_iff.1 hj).1
      have h1 := he.op
      have h2 := he.st
      have h3 := hg.op
      have h4 := hg.st
      simp only [List.length_set] at h1
      simp only at h2
      omega
    have hst := List.getElem?_eq_getElem hjl
    cases hst2 : f'.st[j] with
    | some t => exact ⟨t, by unfold Kn; rw [hst, hst2]⟩
    | none =>
      exfalso
      rw [hst2] at hst
      have hold : f.st[j]? = some none := by
        have hjl' : j < f.st.length := by have := he.st; simp only at this; omega
        have h1 := List.getElem?_eq_getElem hjl'
        cases h2 : f.st[j] with
        | none => rw [h1, h2]
        | some t =>
          rw [h2] at h1
          have := hkeep j t h1
          unfold Kn at this
          rw [hst] at this
          cases this
      have h3 := he.same j hold hst
      rw [hj] at h3
      have hij : i ≠ j := by
        rintro rfl
        unfold Kn at hk
        rw [hk] at hold
        cases hold
      simp only at h3
      rw [hop j hij] at h3
      obtain ⟨t, ht⟩ := hg.open_ j h3.symm
      unfold Kn at ht
      rw [hold] at ht
      cases ht
  · rcases hnew j t ht with h1 | ⟨_, q, hq, rfl, rfl⟩
    · exact hg.low j t h1
    · exact (hways q hq).2.1
  · rcases hnew j t ht with h1 | ⟨_, q, hq, rfl, rfl⟩
    · have := hg.high j t h1
      omega
    · have := (hways q hq).2.2.1
      have := hg.high i s hk
      omega
  · have old : ∀ (a l : List (Int × Int)) b r, s.bl = a ++ l → l = b :: r → 0 ≤ b.1 ∧ b.2 ≤ 3 * ((k + 1 : Nat) : Int) ∧ Kn f' b.1.toNat ⟨b.2 + 1, r⟩ := by
      intro a l b r e1 e2
      obtain ⟨h1, h2, h3⟩ := hg.blocks i s hk a l b r e1 e2
      exact ⟨h1, by omega, hkeep _ _ h3⟩
    rcases hnew j t ht with h1 | ⟨_, q, hq, rfl, rfl⟩
    · obtain ⟨h2, h3, h4⟩ := hg.blocks j t h1 a l b r e1 e2
      exact ⟨h2, by omega, hkeep _ _ h4⟩
    · rcases (hways q hq).2.2.2 with h1 | h1 | ⟨h1, h2, h3⟩
      · exact old a l b r (h1 ▸ e1) e2
      · rw [h1] at e1
        cases hb : s.bl with
        | nil =>
          rw [hb] at e1
          simp at e1
          rw [e1.2] at e2
          cases e2
        | cons y z =>
          rw [hb] at e1
          exact old (y :: a) l b r (by rw [hb]; simpa using e1) e2
      · rw [h1] at e1
        cases a with
        | nil =>
          simp at e1
          rw [← e1] at e2
          injection e2 with e2 e3
          subst e2 e3
          refine ⟨h2, ?_, (hall _ h3).2⟩
          have := hg.high i s hk
          simp only
          omega
        | cons y a =>
          simp at e1
          exact old a l b r e1.2 e2
  · by_cases hij : i = j
    · subst hij
      have h1 := hkeep i s hk
      obtain rfl : s = t := by
        unfold Kn at h1 ht
        rw [h1] at ht
        cases ht
        rfl
      exact ⟨x, ways, hx, hw, hall⟩
    · rcases hnew j t ht with h1 | ⟨h1, _⟩
      · have h2 := (he.keep j t h1).2
        rw [hf] at h2
        simp only at h2
        rw [hop j hij] at h2
        obtain ⟨y, ways', h3, h4, h5⟩ := hg.closed j t h1 h2.symm
        exact ⟨y, ways', h3, h4, fun q hq => ⟨(h5 q hq).1, hkeep _ _ (h5 q hq).2⟩⟩
      · rw [hf] at h1
        cases h1
  · unfold undone
    rw [show f'.st.length = f.st.length from he.st]
    have hjoin : ∀ (g : Fl) j, (g.st[j]?.join).isSome = true → ∃ t, Kn g j t := by
      intro g j h
      cases h1 : g.st[j]? with
      | none => rw [h1] at h; cases h
      | some o =>
        cases o with
        | none => rw [h1] at h; cases h
        | some t => exact ⟨t, h1⟩
    refine countP_lt (x := i) (fun j _ hj => ?_) ?_ ?_ ?_
    · cases hd : doneB f j with
      | false => rfl
      | true =>
        exfalso
        unfold doneB at hd
        simp only [Bool.and_eq_true, beq_iff_eq] at hd
        obtain ⟨t, ht⟩ := hjoin f j hd.2
        obtain ⟨h1, h2⟩ := he.keep j t ht
        have hij : i ≠ j := by
          rintro rfl
          rw [hi] at hd
          cases hd.1
        simp only at h2
        rw [hop j hij, hd.1] at h2
        unfold Kn at h1
        simp [doneB, h1, h2] at hj
    · simp
      have := hg.st
      have := hg.op
      omega
    · simp [doneB, hi]
    · obtain ⟨h1, h2⟩ := he.keep i s hk
      simp only at h2
      rw [hopi] at h2
      unfold Kn at h1
      simp [doneB, h1, h2]

/-- how it ends well -/
structure Ended (p : ProgD) (ins : List (Int × Int)) (f : Fl) : Prop where
  good : ∃ k, Good p ins k f
  shut : ∀ i : Nat, f.op[i]? ≠ some true
theorem goE_ok {p : ProgD} {c : CodeD} (hr : AllRight p c) : ∀ {m k : Nat} {f : Fl} {st : List (Option St)}, Good p c.ins k f → undone f < m → goE p c.ins m f = .inl st → ∃ f', Ended p c.ins f' ∧ f'.st = st ∧ ∀ j s, Kn f j s → Kn f' j s
  | 0, k, f, st, _, h, _ => by omega
  | m + 1, k, f, st, hg, hu, h => by
    unfold goE at h
    split at h
    · rename_i h1
      cases h
      exact ⟨f, ⟨⟨k, hg⟩, firstE_none h1⟩, rfl, fun _ _ h => h⟩
    · rename_i i h1
      split at h
      · cases h
      · rename_i f' h2
        obtain ⟨h3, h4, h5⟩ := good_step hr hg (firstE_some h1).1 h2
        obtain ⟨f'', h6, h7, h8⟩ := goE_ok hr h3 (by omega) h
        exact ⟨f'', h6, h7, fun j s h => h8 j s (h5 j s h)⟩
theorem start_good (p : ProgD) (ins : List (Int × Int)) (hn : 0 < ins.length) : Good p ins 0 (startF ins.length) ∧ Kn (startF ins.length) 0 ⟨0, []⟩ ∧ undone (startF ins.length) < ins.length + 1 := by
  have hk : ∀ i s, Kn (startF ins.length) i s → i = 0 ∧ s = ⟨0, []⟩ := by
    intro i s h
    unfold Kn startF at h
    simp only [List.getElem?_set, List.length_replicate] at h
    split at h
    · rename_i e
      subst e
      simp [hn] at h
      exact ⟨rfl, h.symm⟩
    · simp [List.getElem?_replicate] at h
  have h0 : Kn (startF ins.length) 0 ⟨0, []⟩ := by simp [Kn, startF, hn]
  refine ⟨⟨by simp [startF], by simp [startF], fun i hi => ?_, fun i s h => ?_, fun i s h => ?_, fun i s h a l b r e1 e2 => ?_, fun i s h hf => ?_⟩, h0, ?_⟩
  · refine ⟨⟨0, []⟩, ?_⟩
    simp only [startF, List.getElem?_set, List.length_replicate] at hi
    split at hi
    · rename_i e
      subst e
      exact h0
    · simp [List.getElem?_replicate] at hi
  · rw [(hk i s h).2]
    exact Int.le_refl _
  · rw [(hk i s h).2]
    simp
  · rw [(hk i s h).2] at e1
    simp at e1
    rw [e1.2] at e2
    cases e2
  · rw [(hk i s h).1] at hf
    simp [startF, hn] at hf
  · unfold undone
    have := List.countP_le_length (p := fun i => !doneB (startF ins.length) i) (l := List.range (startF ins.length).st.length)
    simp only [startF, List.length_range, List.length_set, List.length_replicate] at this ⊢
    omega
/-- a code that is right: what is known at the end -/
structure Fixed (p : ProgD) (c : CodeD) (l : List Int) (st : List (Option St)) : Prop where
  len : st.length = c.ins.length
  pos : 0 < c.ins.length
  heights : l = st.map heightOf
  first : st[0]? = some (some ⟨0, []⟩)
  right : AllRight p c
  low : ∀ (i : Nat) s, st[i]? = some (some s) → 0 ≤ s.h
  blocks : ∀ (i : Nat) s, st[i]? = some (some s) → ∀ b r, s.bl = b :: r → 0 ≤ b.1 ∧ st[b.1.toNat]? = some (some ⟨b.2 + 1, r⟩)
  closed : ∀ (i : Nat) s, st[i]? = some (some s) → ∃ x ways, c.ins[i]? = some x ∧ waysE p x i s = some ways ∧ ∀ q ∈ ways, 0 ≤ q.1 ∧ q.1 < c.ins.length ∧ st[q.1.toNat]? = some (some q.2)
theorem fixed_of {p : ProgD} {c : CodeD} {l : List Int} {k : Int} (h : heightsC p c = (l, 0, k)) : k = 0 ∧ ∃ st, Fixed p c l st := by
  unfold heightsC at h
  split at h
  · cases h
  split at h
  · rename_i e i hw
    exfalso
    injection h with h1 h2
    injection h2 with h2 h3
    have : ∀ (m : List (Int × Int)) (j : Nat), wrongs p c m j ≠ some (0, i) := by
      intro m
      induction m with
      | nil => intro j h; cases h
      | cons x m ih =>
        intro j h
        unfold wrongs at h
        split at h
        · exact ih _ h
        · rename_i hne
          injection h with h
          injection h with h4 h5
          exact hne h4
    subst h2
    exact this _ _ hw
  · rename_i hw
    have hr : AllRight p c := wrongs_none.1 hw
    unfold flowE at h
    split at h
    · cases h
    rename_i hn
    obtain ⟨g0, k0, u0⟩ := start_good p c.ins (by omega)
    split at h
    · rename_i st hst
      cases h
      obtain ⟨f', ⟨⟨k', hg⟩, hsh⟩, rfl, hk⟩ := goE_ok hr g0 u0 hst
      have hop : ∀ (i : Nat) s, f'.st[i]? = some (some s) → f'.op[i]? = some false := by
        intro i s hi
        have h1 := (List.getElem?_eq_some_iff.1 hi).1
        have h2 : i < f'.op.length := by have := hg.st; have := hg.op; omega
        have h3 := List.getElem?_eq_getElem h2
        cases h4 : f'.op[i] with
        | false => rw [h3, h4]
        | true => rw [h4] at h3; exact absurd h3 (hsh i)
      refine ⟨rfl, f'.st, hg.st, by omega, rfl, hk _ _ k0, hr, hg.low, fun i s hi b r e => ?_, fun i s hi => ?_⟩
      · obtain ⟨h1, _, h2⟩ := hg.blocks i s hi [] (b :: r) b r (by simpa using e) rfl
        exact ⟨h1, h2⟩
      · obtain ⟨x, ways, h1, h2, h3⟩ := hg.closed i s hi (hop i s hi)
        refine ⟨x, ways, h1, h2, fun q hq => ⟨?_, (h3 q hq).1, (h3 q hq).2⟩⟩
        exact (ways_of (hr x (List.mem_of_getElem? h1)) h2 (hg.low i s hi) q hq).1
    · rename_i e i hst
      exfalso
      injection h with h1 h2
      injection h2 with h2 h3
      subst h2
      have hpush : ∀ (n : Nat) (w : List (Int × St)) (g : Fl), pushE n g w ≠ .inr 0 := by
        intro n w
        induction w with
        | nil => intro g h; cases h
        | cons q w ih =>
          intro g h
          unfold pushE at h
          repeat' split at h
          all_goals first | cases h | exact ih _ h
      have hstep : ∀ (g : Fl) i, stepE p c.ins g i ≠ .inr 0 := by
        intro g i h
        unfold stepE at h
        repeat' split at h
        all_goals first | cases h | exact hpush _ _ _ h
      have hgo : ∀ (m : Nat) (g : Fl), goE p c.ins m g ≠ .inr (0, i) := by
        intro m
        induction m with
        | zero => intro g h; cases h
        | succ m ih =>
          intro g h
          unfold goE at h
          repeat' split at h
          · cases h
          · rename_i e' he
            injection h with h
            injection h with h4 h5
            subst h4
            exact hstep _ _ he
          · exact ih _ h
      exact hgo _ _ hst
end Go.Proofs.Ytgnejkmojfhfpaa
