/- When rows can be merged at all: just if their numbers, each behind the one ahead of it, go round nowhere. In plain words. -/
import Derived.Test.YtbfjkjkanckcjaaLin
namespace Go.Proofs.Ytbfjkjkanckcjaa.Lin

/-- y stands just ahead of x in one of the rows -/
def Edge (rows : List (List Int)) (y x : Int) : Prop := ∃ r ∈ rows, ∃ a b, r = a ++ y :: x :: b
theorem Edge.suffix {rows rest : List (List Int)} (h : ∀ r ∈ rest, ∃ r' ∈ rows, ∃ p, r' = p ++ r) {y x : Int} (he : Edge rest y x) : Edge rows y x := by
  obtain ⟨r, hr, a, b, e⟩ := he
  obtain ⟨r', hr', p, e'⟩ := h r hr
  exact ⟨_, hr', p ++ a, b, by rw [e', e]; simp⟩
theorem Steps.suffix {rows : List (List Int)} {out : List Int} {rest : List (List Int)} (h : Steps rows out rest) : ∀ r ∈ rest, ∃ r' ∈ rows, ∃ p, r' = p ++ r := by
  induction h with
  | refl => exact fun r hr => ⟨r, hr, [], rfl⟩
  | snoc _ _ ih =>
    intro r hr
    obtain ⟨s, hs, rfl⟩ := strip_mem hr
    obtain ⟨r', hr', p, e⟩ := ih s hs
    split
    · cases s with
      | nil => exact ⟨r', hr', p, e⟩
      | cons a t => exact ⟨r', hr', p ++ [a], by rw [e]; simp⟩
    · exact ⟨r', hr', p, e⟩
theorem ahead {rows : List (List Int)} : ∀ (c : List Int) (r a b : List Int) (y x : Int), r ∈ rows → r = a ++ y :: (c ++ x :: b) → Relation.TransGen (Edge rows) y x := by
  intro c
  induction c with
  | nil => exact fun r a b y x hr e => .single ⟨r, hr, a, b, e⟩
  | cons d c ih =>
    intro r a b y x hr e
    exact Relation.TransGen.trans (.single ⟨r, hr, a, c ++ x :: b, by rw [e]; simp⟩) (ih r (a ++ [y]) b d x hr (by rw [e]; simp))
/-- a merge that stops in the midst: a number that goes round -/
theorem stuck {rows : List (List Int)} (h : merge rows = none) : ∃ r ∈ rows, ∃ x ∈ r, ¬ Acc (Edge rows) x := by
  have key : ∀ (n : Nat) (out : List Int) (rest : List (List Int)), Steps rows out rest → weight rest < n → mergeN n rest = none → ∃ rest' out', Steps rows out' rest' ∧ pick rest' = none ∧ void rest' = false := by
    intro n
    induction n with
    | zero => intro _ _ _ h; omega
    | succ n ih =>
      intro out rest hs hw hm
      unfold mergeN at hm
      cases hp : pick rest with
      | none =>
        rw [hp] at hm
        refine ⟨rest, out, hs, hp, ?_⟩
        cases hv : void rest with
        | false => rfl
        | true => simp [hv] at hm
      | some x =>
        rw [hp] at hm
        have := pick_weight hp
        refine ih _ _ (hs.snoc hp) (by omega) ?_
        cases hh : mergeN n (strip x rest) with
        | none => rfl
        | some l => simp [hh] at hm
  obtain ⟨rest, out, hs, hp, hv⟩ := key _ _ _ .refl (Nat.lt_succ_self _) h
  have hhead : ∀ x ∈ heads rest, ∃ y ∈ heads rest, Relation.TransGen (Edge rest) y x := by
    intro x hx
    have h1 := List.find?_eq_none.1 hp x hx
    simp only [inTail, Bool.not_eq_true', Bool.not_eq_false, List.any_eq_true] at h1
    obtain ⟨r, hr, hxr⟩ := h1
    have hxr : x ∈ r.tail := by simpa using hxr
    cases r with
    | nil => simp at hxr
    | cons y t =>
      obtain ⟨c, b, e⟩ := List.append_of_mem (by simpa using hxr : x ∈ t)
      exact ⟨y, by simp only [heads, List.mem_filterMap]; exact ⟨_, hr, rfl⟩, ahead c _ [] b y x hr (by rw [e]; simp)⟩
  have hno : ∀ x, Acc (Relation.TransGen (Edge rest)) x → x ∉ heads rest := by
    intro x hx
    induction hx with
    | intro x _ ih =>
      intro hm
      obtain ⟨y, hy, hyx⟩ := hhead x hm
      exact ih y hyx hy
  have hsub := hs.suffix
  have hmono : ∀ x, Acc (Edge rows) x → Acc (Edge rest) x := by
    intro x hx
    induction hx with
    | intro x _ ih => exact ⟨_, fun y hy => ih y (hy.suffix hsub)⟩
  have : ∃ r ∈ rest, r ≠ [] := by
    simp only [void, List.all_eq_false] at hv
    obtain ⟨r, hr, h⟩ := hv
    exact ⟨r, hr, by simpa using h⟩
  obtain ⟨r, hr, hne⟩ := this
  cases r with
  | nil => exact absurd rfl hne
  | cons x t =>
    obtain ⟨r', hr', p, e⟩ := hsub _ hr
    refine ⟨r', hr', x, by rw [e]; simp, fun hx => ?_⟩
    exact hno x (hmono x hx).transGen (by simp only [heads, List.mem_filterMap]; exact ⟨_, hr, rfl⟩)
/-- where there is an answer, no number goes round -/
theorem runs {rows : List (List Int)} {l : List Int} (h : merge rows = some l) (x : Int) : Acc (Edge rows) x := by
  have hk := merge_keeps h
  have hn := merge_nodup h
  have hlt : ∀ y x, Edge rows y x → ∃ a b c, l = a ++ y :: (b ++ x :: c) := by
    rintro y x ⟨r, hr, a, b, rfl⟩
    have h1 := hk _ hr
    have h2 : [y, x].Sublist l := List.Sublist.trans (by
      refine List.Sublist.trans ?_ (List.sublist_append_right a _)
      exact .cons_cons _ (.cons_cons _ (List.nil_sublist _))) h1
    obtain ⟨l1, l2, rfl, h3, h4⟩ := List.cons_sublist_iff.1 h2
    obtain ⟨a1, b1, e1⟩ := List.append_of_mem h3
    obtain ⟨a2, b2, e2⟩ := List.append_of_mem (List.singleton_sublist.1 h4)
    exact ⟨a1, b1 ++ a2, b2, by rw [e1, e2]; simp⟩
  have hidx : ∀ y x, Edge rows y x → l.idxOf y < l.idxOf x := by
    intro y x he
    obtain ⟨a, b, c, e⟩ := hlt y x he
    rw [e] at hn ⊢
    have hn' := List.nodup_append.1 hn
    have hxa : x ∉ a := fun h => hn'.2.2 x h x (by simp) rfl
    have hya : y ∉ a := fun h => hn'.2.2 y h y (by simp) rfl
    have hyx : y ≠ x := by
      have := hn'.2.1
      rintro rfl
      simp at this
    rw [List.idxOf_append, List.idxOf_append, if_neg hya, if_neg hxa, List.idxOf_cons_self, List.idxOf_cons, show (y == x) = false by simpa using hyx]
    simp only [cond_false]
    omega
  have : ∀ n x, l.idxOf x < n → Acc (Edge rows) x := by
    intro n
    induction n with
    | zero => intro x h; omega
    | succ n ih => exact fun x hx => ⟨_, fun y hy => ih y (by have := hidx y x hy; omega)⟩
  exact this _ x (Nat.lt_succ_self _)
theorem merge_iff (rows : List (List Int)) : (merge rows).isSome = true ↔ ∀ r ∈ rows, ∀ x ∈ r, Acc (Edge rows) x := by
  constructor
  · intro h r _ x _
    obtain ⟨l, e⟩ := Option.isSome_iff_exists.1 h
    exact runs e x
  · intro h
    cases hm : merge rows with
    | some => rfl
    | none =>
      obtain ⟨r, hr, x, hx, hn⟩ := stuck hm
      exact absurd (h r hr x hx) hn

/-! the numbers, one after the other, as each stands there first; what was taken away -/
def addOne (l : List Int) (x : Int) : List Int := if l.contains x then l else l ++ [x]
def collect (xs : List Int) : List Int := xs.foldl addOne []
theorem foldl_mem : ∀ (xs l : List Int) (x : Int), x ∈ xs.foldl addOne l ↔ x ∈ l ∨ x ∈ xs
  | [], l, x => by simp
  | a :: xs, l, x => by
    rw [List.foldl_cons, foldl_mem xs]
    unfold addOne
    split
    · rename_i h
      have h : a ∈ l := by simpa using h
      constructor
      · rintro (h1 | h1)
        · exact .inl h1
        · exact .inr (List.mem_cons_of_mem _ h1)
      · rintro (h1 | h1)
        · exact .inl h1
        · rcases List.mem_cons.1 h1 with rfl | h1
          · exact .inl h
          · exact .inr h1
    · simp [or_assoc]
theorem collect_mem (xs : List Int) (x : Int) : x ∈ collect xs ↔ x ∈ xs := by simp [collect, foldl_mem]
theorem foldl_nodup : ∀ (xs l : List Int), l.Nodup → (xs.foldl addOne l).Nodup
  | [], l, h => h
  | a :: xs, l, h => by
    rw [List.foldl_cons]
    refine foldl_nodup xs _ ?_
    unfold addOne
    split
    · exact h
    · rename_i hx
      have hx : a ∉ l := by simpa using hx
      rw [List.nodup_append]
      refine ⟨h, by simp, fun b hb c hc => ?_⟩
      rw [List.mem_singleton] at hc
      subst hc
      rintro rfl
      exact hx hb
theorem collect_nodup (xs : List Int) : (collect xs).Nodup := foldl_nodup xs [] List.nodup_nil
theorem foldl_length : ∀ (xs l : List Int), (xs.foldl addOne l).length ≤ l.length + xs.length
  | [], l => by simp
  | a :: xs, l => by
    rw [List.foldl_cons]
    have := foldl_length xs (addOne l a)
    have h2 : (addOne l a).length ≤ l.length + 1 := by unfold addOne; split <;> simp
    simp only [List.length_cons]
    omega
theorem collect_length (xs : List Int) : (collect xs).length ≤ xs.length := by have := foldl_length xs []; unfold collect; simpa using this
theorem collect_snoc (xs : List Int) (x : Int) : collect (xs ++ [x]) = addOne (collect xs) x := by simp [collect]

/-- was x taken away? (true, where it is none of them) -/
def gone : List Int → List Bool → Int → Bool
  | [], _, _ => true
  | a :: l, g, x => if a = x then g.headD false else gone l g.tail x
/-- may x be taken away: is all that stands just ahead of it away? -/
def first (rows : List (List Int)) (l : List Int) (g : List Bool) (x : Int) : Bool := rows.all fun r => (r.zip r.tail).all fun p => !(p.2 == x) || gone l g p.1
/-- the first j of a turn -/
def sweep (rows : List (List Int)) (l : List Int) (g : List Bool) : Nat → List Bool
  | 0 => g
  | j + 1 => (sweep rows l g j).set j ((sweep rows l g j).getD j false || first rows l (sweep rows l g j) (l.getD j 0))
def turns (rows : List (List Int)) (l : List Int) : Nat → List Bool
  | 0 => List.replicate l.length false
  | t + 1 => sweep rows l (turns rows l t) l.length
def round (rows : List (List Int)) : Bool := !((turns rows (collect rows.flatten) (collect rows.flatten).length).all id)

theorem sweep_length (rows : List (List Int)) (l : List Int) (g : List Bool) : ∀ j, (sweep rows l g j).length = g.length
  | 0 => rfl
  | j + 1 => by rw [sweep, List.length_set, sweep_length rows l g j]
theorem turns_length (rows : List (List Int)) (l : List Int) : ∀ t, (turns rows l t).length = l.length
  | 0 => by simp [turns]
  | t + 1 => by rw [turns, sweep_length, turns_length rows l t]
theorem gone_at : ∀ {l : List Int} {g : List Bool} (i : Nat) (hi : i < l.length), l.Nodup → gone l g l[i] = g.getD i false
  | a :: l, g, 0, _, _ => by cases g <;> simp [gone]
  | a :: l, g, i + 1, hi, hn => by
    have h : a ≠ l[i]'(by simpa using hi) := fun e => (List.nodup_cons.1 hn).1 (e ▸ List.getElem_mem _)
    simp only [List.getElem_cons_succ, gone, if_neg h]
    rw [gone_at i (by simpa using hi) (List.nodup_cons.1 hn).2]
    cases g <;> simp
theorem gone_none : ∀ {l : List Int} {g : List Bool} {x : Int}, x ∉ l → gone l g x = true
  | [], _, _, _ => rfl
  | a :: l, g, x, h => by
    have h1 : a ≠ x := fun e => h (by simp [e])
    rw [gone, if_neg h1, gone_none (fun h2 => h (List.mem_cons_of_mem _ h2))]
theorem edge_zip {rows : List (List Int)} {y x : Int} : Edge rows y x ↔ ∃ r ∈ rows, (y, x) ∈ r.zip r.tail := by
  have h : ∀ r : List Int, (∃ a b, r = a ++ y :: x :: b) ↔ (y, x) ∈ r.zip r.tail := by
    intro r
    induction r with
    | nil => simp
    | cons c t ih =>
      cases t with
      | nil =>
        constructor
        · rintro ⟨a, b, e⟩
          have := congrArg List.length e
          simp at this
          omega
        · simp
      | cons d t =>
        simp only [List.tail_cons, List.zip_cons_cons, List.mem_cons] at ih ⊢
        rw [← ih]
        constructor
        · rintro ⟨a, b, e⟩
          cases a with
          | nil => injection e with e1 e2; injection e2 with e2 e3; exact .inl (by rw [e1, e2])
          | cons a0 a => injection e with e1 e2; exact .inr ⟨a, b, e2⟩
        · rintro (e | ⟨a, b, e⟩)
          · injection e with e1 e2
            subst e1 e2
            exact ⟨[], t, rfl⟩
          · exact ⟨c :: a, b, by rw [e]; rfl⟩
  exact ⟨fun ⟨r, hr, h1⟩ => ⟨r, hr, (h r).1 h1⟩, fun ⟨r, hr, h1⟩ => ⟨r, hr, (h r).2 h1⟩⟩
theorem first_iff {rows : List (List Int)} {l : List Int} {g : List Bool} {x : Int} : first rows l g x = true ↔ ∀ y, Edge rows y x → gone l g y = true := by
  unfold first
  simp only [List.all_eq_true, Bool.or_eq_true, Bool.not_eq_true', beq_eq_false_iff_ne]
  constructor
  · intro h y he
    obtain ⟨r, hr, hm⟩ := edge_zip.1 he
    rcases h r hr _ hm with h1 | h1
    · exact absurd rfl h1
    · exact h1
  · intro h r hr p hp
    by_cases e : p.2 = x
    · subst e
      exact .inr (h _ (edge_zip.2 ⟨r, hr, hp⟩))
    · exact .inl e
/-- the marks say no more than is so -/
def Fine (rows : List (List Int)) (l : List Int) (g : List Bool) : Prop := g.length = l.length ∧ ∀ i (h : i < l.length), g.getD i false = true → Acc (Edge rows) l[i]
/-- all marks of g stand in g' -/
def More (g g' : List Bool) : Prop := g.length = g'.length ∧ ∀ i, g.getD i false = true → g'.getD i false = true
theorem More.refl (g : List Bool) : More g g := ⟨rfl, fun _ h => h⟩
theorem More.trans {a b c : List Bool} (h : More a b) (k : More b c) : More a c := ⟨h.1.trans k.1, fun i hi => k.2 i (h.2 i hi)⟩
theorem getD_set_bool (g : List Bool) (j i : Nat) (b : Bool) : (g.set j b).getD i false = if j = i ∧ i < g.length then b else g.getD i false := by
  simp only [List.getD_eq_getElem?_getD, List.getElem?_set]
  by_cases e : j = i
  · subst e
    rw [if_pos rfl]
    by_cases h : j < g.length
    · simp [h]
    · simp [h]
  · simp [e]
section
variable {rows : List (List Int)} {l : List Int} (hn : l.Nodup) (hall : ∀ r ∈ rows, ∀ x ∈ r, x ∈ l)
include hn hall
theorem Fine.sweep {g : List Bool} (h : Fine rows l g) : ∀ j, j ≤ l.length → Fine rows l (sweep rows l g j) ∧ More g (Lin.sweep rows l g j)
  | 0, _ => ⟨h, More.refl _⟩
  | j + 1, hj => by
    obtain ⟨h1, h2⟩ := Fine.sweep h j (by omega)
    rw [Lin.sweep]
    refine ⟨⟨by rw [List.length_set]; exact h1.1, fun i hi hg => ?_⟩, h2.trans ⟨by simp, fun i hi => ?_⟩⟩
    · rw [getD_set_bool] at hg
      split at hg
      · rename_i e
        obtain ⟨rfl, _⟩ := e
        rw [Bool.or_eq_true] at hg
        rcases hg with hg | hg
        · exact h1.2 j hi hg
        · rw [first_iff] at hg
          refine ⟨_, fun y hy => ?_⟩
          have e : l.getD j 0 = l[j] := by simp [List.getD_eq_getElem?_getD, hi]
          have h3 := hg y (by rw [e]; exact hy)
          obtain ⟨r, hr, a, b, er⟩ := hy
          obtain ⟨k, hk, ek⟩ := List.getElem_of_mem (hall r hr y (by rw [er]; simp))
          rw [← ek, gone_at k hk hn] at h3
          rw [← ek]
          exact h1.2 k hk h3
      · exact h1.2 i hi hg
    · rw [getD_set_bool]
      split
      · rename_i e
        obtain ⟨rfl, _⟩ := e
        rw [hi]
        rfl
      · exact hi
/-- one that may be taken away is, in the turn -/
theorem sweep_takes {g : List Bool} (h : Fine rows l g) {i : Nat} (hi : i < l.length) (hp : ∀ y, Edge rows y l[i] → gone l g y = true) : ∀ j, i < j → j ≤ l.length → (sweep rows l g j).getD i false = true
  | 0, hj, _ => by omega
  | j + 1, hj, hl => by
    obtain ⟨h1, h2⟩ := Fine.sweep hn hall h j (by omega)
    rw [Lin.sweep, getD_set_bool]
    by_cases e : j = i
    · subst e
      rw [if_pos ⟨rfl, by rw [sweep_length, h.1]; exact hi⟩]
      have : first rows l (Lin.sweep rows l g j) (l.getD j 0) = true := by
        rw [first_iff]
        have e : l.getD j 0 = l[j] := by simp [List.getD_eq_getElem?_getD, hi]
        rw [e]
        intro y hy
        have h3 := hp y hy
        obtain ⟨r, hr, a, b, er⟩ := hy
        obtain ⟨k, hk, ek⟩ := List.getElem_of_mem (hall r hr y (by rw [er]; simp))
        rw [← ek, gone_at k hk hn] at h3 ⊢
        exact h2.2 k h3
      rw [this, Bool.or_true]
    · rw [if_neg (fun h => e h.1)]
      exact sweep_takes h hi hp j (by omega) (by omega)
theorem all_or_more (t : Nat) : Fine rows l (turns rows l t) ∧ ((∀ i (h : i < l.length), Acc (Edge rows) l[i] → (turns rows l t).getD i false = true) ∨ t ≤ (turns rows l t).countP id) := by
  induction t with
  | zero =>
    refine ⟨⟨by simp [turns], fun i h hg => ?_⟩, .inr (Nat.zero_le _)⟩
    simp [turns, List.getD_eq_getElem?_getD, List.getElem?_replicate] at hg
    split at hg <;> simp at hg
  | succ t ih =>
    obtain ⟨hf, h⟩ := ih
    obtain ⟨hf', hm⟩ := Fine.sweep hn hall hf l.length (Nat.le_refl _)
    refine ⟨hf', ?_⟩
    by_cases ha : ∀ i (h : i < l.length), Acc (Edge rows) l[i] → (turns rows l t).getD i false = true
    · exact .inl fun i hi hac => hm.2 i (ha i hi hac)
    · have ht : t ≤ (turns rows l t).countP id := by
        rcases h with h | h
        · exact absurd h ha
        · exact h
      -- one that is good, not marked, and all ahead of it is marked
      have hex : ∀ x, Acc (Edge rows) x → ∀ i (h : i < l.length), l[i] = x → (turns rows l t).getD i false = false → ∃ k, ∃ h : k < l.length, (turns rows l t).getD k false = false ∧ ∀ y, Edge rows y l[k] → gone l (turns rows l t) y = true := by
        intro x hx
        induction hx with
        | intro x _ ih =>
          intro i hi ei hfalse
          by_cases hp : ∀ y, Edge rows y l[i] → gone l (turns rows l t) y = true
          · exact ⟨i, hi, hfalse, hp⟩
          · simp only [Classical.not_forall, Bool.not_eq_true] at hp
            obtain ⟨y, hy, hgy⟩ := hp
            have hy' := hy
            obtain ⟨r, hr, a, b, er⟩ := hy'
            obtain ⟨k, hk, ek⟩ := List.getElem_of_mem (hall r hr y (by rw [er]; simp))
            rw [← ek, gone_at k hk hn] at hgy
            exact ih y (by rw [← ei]; exact hy) k hk ek hgy
      simp only [Classical.not_forall, Bool.not_eq_true] at ha
      obtain ⟨i, hi, hac, hfalse⟩ := ha
      obtain ⟨k, hk, hkf, hp⟩ := hex _ hac i hi rfl hfalse
      have hkt := sweep_takes hn hall hf hk hp l.length hk (Nat.le_refl _)
      refine .inr ?_
      have hcount : ∀ (g g' : List Bool) (k : Nat), More g g' → g.getD k false = false → g'.getD k false = true → g.countP id < g'.countP id := by
        intro g
        induction g with
        | nil =>
          intro g' k hm _ h2
          have : g' = [] := List.eq_nil_of_length_eq_zero hm.1.symm
          subst this
          simp at h2
        | cons b g ih =>
          intro g' k hm h1 h2
          cases g' with
          | nil => have := hm.1; simp at this
          | cons b' g' =>
            have hm0 := hm.2 0
            have hm' : More g g' := ⟨by have := hm.1; simpa using this, fun i hi => by simpa using hm.2 (i + 1) (by simpa using hi)⟩
            have hle : ∀ (g g' : List Bool), More g g' → g.countP id ≤ g'.countP id := by
              intro g
              induction g with
              | nil => intro g' _; simp
              | cons b g ih =>
                intro g' hm
                cases g' with
                | nil => have := hm.1; simp at this
                | cons b' g' =>
                  have h0 := hm.2 0
                  have := ih g' ⟨by have := hm.1; simpa using this, fun i hi => by simpa using hm.2 (i + 1) (by simpa using hi)⟩
                  simp only [List.countP_cons, id]
                  simp only [List.getD_cons_zero] at h0
                  cases b <;> cases b' <;> simp_all <;> omega
            have hle' := hle g g' hm'
            simp only [List.countP_cons, id]
            simp only [List.getD_cons_zero] at hm0
            cases k with
            | zero =>
              simp only [List.getD_cons_zero] at h1 h2
              subst h1 h2
              simp
              omega
            | succ k =>
              simp only [List.getD_cons_succ] at h1 h2
              have := ih g' k hm' h1 h2
              cases b <;> cases b' <;> simp_all <;> omega
      have := hcount _ _ k hm hkf hkt
      rw [turns]
      omega
end
theorem merge_round (rows : List (List Int)) : (merge rows).isSome = !round rows := by
  have hn := collect_nodup rows.flatten
  have hall : ∀ r ∈ rows, ∀ x ∈ r, x ∈ collect rows.flatten := fun r hr x hx => (collect_mem _ _).2 (List.mem_flatten.2 ⟨r, hr, hx⟩)
  obtain ⟨hf, h⟩ := all_or_more hn hall (collect rows.flatten).length
  have hl := turns_length rows (collect rows.flatten) (collect rows.flatten).length
  rw [Bool.eq_iff_iff, merge_iff]
  unfold round
  rw [Bool.not_not]
  generalize hg : turns rows (collect rows.flatten) (collect rows.flatten).length = g at *
  generalize hc : collect rows.flatten = l at *
  constructor
  · intro ha
    rcases h with h | h
    · rw [List.all_eq_true]
      intro b hb
      obtain ⟨i, hi, e⟩ := List.getElem_of_mem hb
      have hil : i < l.length := by omega
      have := h i hil (by
        have hm : l[i] ∈ collect rows.flatten := by rw [hc]; exact List.getElem_mem hil
        rw [collect_mem, List.mem_flatten] at hm
        obtain ⟨r, hr, hx⟩ := hm
        exact ha r hr _ hx)
      rw [List.getD_eq_getElem?_getD, List.getElem?_eq_getElem hi, Option.getD_some, e] at this
      exact this
    · have h2 := List.countP_le_length (p := id) (l := g)
      have h3 : g.countP id = g.length := by omega
      rw [List.countP_eq_length] at h3
      rw [List.all_eq_true]
      exact h3
  · intro ha r hr x hx
    obtain ⟨i, hi, e⟩ := List.getElem_of_mem (hall r hr x hx)
    rw [← e]
    refine hf.2 i hi ?_
    rw [List.getD_eq_getElem?_getD, List.getElem?_eq_getElem (by omega), Option.getD_some]
    exact List.all_eq_true.1 ha _ (List.getElem_mem _)
end Go.Proofs.Ytbfjkjkanckcjaa.Lin
