/- C3's merge of rows, in plain words, and what holds of it. -/
namespace Go.Proofs.Ytbfjkjkanckcjaa.Lin

def inTail (rows : List (List Int)) (x : Int) : Bool := rows.any fun r => r.tail.contains x
def heads (rows : List (List Int)) : List Int := rows.filterMap List.head?
def pick (rows : List (List Int)) : Option Int := (heads rows).find? fun h => !inTail rows h
def strip (x : Int) (rows : List (List Int)) : List (List Int) := rows.map fun r => if r.head? = some x then r.tail else r
def weight (rows : List (List Int)) : Nat := (rows.map List.length).sum
def void (rows : List (List Int)) : Bool := rows.all List.isEmpty

theorem pick_mem {rows : List (List Int)} {x : Int} (h : pick rows = some x) : (∃ r ∈ rows, r.head? = some x) ∧ ∀ r ∈ rows, x ∉ r.tail := by
  unfold pick at h
  have h1 := List.find?_some h
  have h2 := List.mem_of_find?_eq_some h
  refine ⟨by simpa [heads] using h2, fun r hr hx => ?_⟩
  simp only [inTail, Bool.not_eq_true', List.any_eq_false] at h1
  exact h1 r hr (by simpa using hx)
theorem strip_weight_le (x : Int) (rows : List (List Int)) : weight (strip x rows) ≤ weight rows := by
  induction rows with
  | nil => simp [strip, weight]
  | cons r rows ih =>
    simp only [strip, weight, List.map_cons, List.sum_cons] at ih ⊢
    split
    · have := List.length_tail (l := r)
      omega
    · omega
theorem strip_weight {x : Int} {rows : List (List Int)} (h : ∃ r ∈ rows, r.head? = some x) : weight (strip x rows) < weight rows := by
  induction rows with
  | nil => obtain ⟨r, hr, _⟩ := h; simp at hr
  | cons r rows ih =>
    have hle := strip_weight_le x rows
    simp only [strip, weight, List.map_cons, List.sum_cons] at ih hle ⊢
    by_cases e : r.head? = some x
    · rw [if_pos e]
      cases r with
      | nil => cases e
      | cons a t =>
        simp only [List.tail_cons, List.length_cons]
        omega
    · rw [if_neg e]
      obtain ⟨r', hr', e'⟩ := h
      rcases List.mem_cons.1 hr' with rfl | hr'
      · exact absurd e' e
      · have := ih ⟨r', hr', e'⟩
        omega
theorem pick_weight {rows : List (List Int)} {x : Int} (h : pick rows = some x) : weight (strip x rows) < weight rows := strip_weight (pick_mem h).1

def mergeN : Nat → List (List Int) → Option (List Int)
  | 0, _ => none
  | n + 1, rows => match pick rows with
    | some x => (mergeN n (strip x rows)).map (x :: ·)
    | none => if void rows then some [] else none
def merge (rows : List (List Int)) : Option (List Int) := mergeN (weight rows + 1) rows
theorem mergeN_more : ∀ (n m : Nat) (rows : List (List Int)), weight rows < n → weight rows < m → mergeN n rows = mergeN m rows
  | 0, _, _, h, _ => by omega
  | _, 0, _, _, h => by omega
  | n + 1, m + 1, rows, h1, h2 => by
    unfold mergeN
    cases hp : pick rows with
    | none => rfl
    | some x =>
      have := pick_weight hp
      simp only
      rw [mergeN_more n m (strip x rows) (by omega) (by omega)]
theorem merge_some {rows : List (List Int)} {x : Int} (h : pick rows = some x) : merge rows = (merge (strip x rows)).map (x :: ·) := by
  have := pick_weight h
  unfold merge
  rw [mergeN]
  simp only [h]
  rw [mergeN_more (weight rows) (weight (strip x rows) + 1) _ (by omega) (by omega)]
theorem merge_none {rows : List (List Int)} (h : pick rows = none) : merge rows = if void rows then some [] else none := by
  unfold merge
  rw [mergeN]
  simp only [h]

/-- out has been given, rest is left -/
inductive Steps (rows : List (List Int)) : List Int → List (List Int) → Prop
  | refl : Steps rows [] rows
  | snoc {out : List Int} {rest : List (List Int)} {x : Int} : Steps rows out rest → pick rest = some x → Steps rows (out ++ [x]) (strip x rest)
theorem Steps.merge {rows : List (List Int)} {out : List Int} {rest : List (List Int)} (h : Steps rows out rest) : merge rows = (Lin.merge rest).map (out ++ ·) := by
  induction h with
  | refl => cases Lin.merge rows <;> rfl
  | snoc _ hp ih =>
    rw [ih, merge_some hp]
    cases Lin.merge (strip _ _) <;> simp
theorem Steps.weight {rows : List (List Int)} {out : List Int} {rest : List (List Int)} (h : Steps rows out rest) : out.length + weight rest ≤ weight rows := by
  induction h with
  | refl => simp
  | snoc _ hp ih => have := pick_weight hp; simp; omega
theorem Steps.length {rows : List (List Int)} {out : List Int} {rest : List (List Int)} (h : Steps rows out rest) : rest.length = rows.length := by
  induction h with
  | refl => rfl
  | snoc _ _ ih => simp [strip, ih]

/-- a way to show what holds of an answer -/
theorem merge_ind {P : List (List Int) → List Int → Prop} (h0 : ∀ rows, pick rows = none → void rows = true → P rows []) (h1 : ∀ rows x l, pick rows = some x → P (strip x rows) l → P rows (x :: l)) :
    ∀ (n : Nat) (rows : List (List Int)) (l : List Int), mergeN n rows = some l → P rows l
  | 0, _, _, h => by simp [mergeN] at h
  | n + 1, rows, l, h => by
    unfold mergeN at h
    cases hp : pick rows with
    | none =>
      simp only [hp] at h
      split at h
      · rename_i hv
        injection h with h
        subst h
        exact h0 rows hp hv
      · cases h
    | some x =>
      simp only [hp] at h
      cases hm : mergeN n (strip x rows) with
      | none => rw [hm] at h; cases h
      | some l' =>
        rw [hm] at h
        injection h with h
        subst h
        exact h1 rows x l' hp (merge_ind h0 h1 n _ _ hm)
theorem strip_mem {x : Int} {rows : List (List Int)} {s : List Int} (h : s ∈ strip x rows) : ∃ r ∈ rows, s = if r.head? = some x then r.tail else r := by
  simp only [strip, List.mem_map] at h
  obtain ⟨r, hr, e⟩ := h
  exact ⟨r, hr, e.symm⟩
theorem strip_sub {x : Int} {rows : List (List Int)} {s : List Int} (h : s ∈ strip x rows) : ∃ r ∈ rows, ∀ y ∈ s, y ∈ r := by
  obtain ⟨r, hr, rfl⟩ := strip_mem h
  refine ⟨r, hr, fun y hy => ?_⟩
  split at hy
  · exact List.mem_of_mem_tail hy
  · exact hy
/-- what was given is nowhere any more -/
theorem strip_gone {x : Int} {rows : List (List Int)} (h : pick rows = some x) {s : List Int} (hs : s ∈ strip x rows) : x ∉ s := by
  obtain ⟨r, hr, rfl⟩ := strip_mem hs
  have ht := (pick_mem h).2 r hr
  split
  · exact ht
  · rename_i hne
    intro hx
    cases r with
    | nil => simp at hx
    | cons a t =>
      rcases List.mem_cons.1 hx with rfl | hx
      · exact hne rfl
      · exact ht hx

/-- an answer keeps each row -/
theorem merge_keeps {rows : List (List Int)} {l : List Int} (h : merge rows = some l) : ∀ r ∈ rows, r.Sublist l :=
  merge_ind (P := fun rows l => ∀ r ∈ rows, r.Sublist l) (fun rows _ hv r hr => by
      have := List.all_eq_true.1 hv r hr
      cases r with
      | nil => exact List.nil_sublist _
      | cons => simp at this)
    (fun rows x l _ ih r hr => by
      have hs : (if r.head? = some x then r.tail else r) ∈ strip x rows := by
        simp only [strip, List.mem_map]
        exact ⟨r, hr, rfl⟩
      have := ih _ hs
      split at this
      · rename_i e
        cases r with
        | nil => cases e
        | cons a t =>
          injection e with e
          subst e
          exact List.Sublist.cons_cons _ this
      · exact List.Sublist.cons _ this) _ _ _ h
/-- and has no other number -/
theorem merge_from {rows : List (List Int)} {l : List Int} (h : merge rows = some l) : ∀ x ∈ l, ∃ r ∈ rows, x ∈ r :=
  merge_ind (P := fun rows l => ∀ x ∈ l, ∃ r ∈ rows, x ∈ r) (fun _ _ _ x hx => by simp at hx)
    (fun rows x l hp ih y hy => by
      rcases List.mem_cons.1 hy with rfl | hy
      · obtain ⟨r, hr, e⟩ := (pick_mem hp).1
        exact ⟨r, hr, List.mem_of_mem_head? e⟩
      · obtain ⟨s, hs, hy⟩ := ih y hy
        obtain ⟨r, hr, hsub⟩ := strip_sub hs
        exact ⟨r, hr, hsub y hy⟩) _ _ _ h
/-- each once -/
theorem merge_nodup {rows : List (List Int)} {l : List Int} (h : merge rows = some l) : l.Nodup :=
  (merge_ind (P := fun rows l => l.Nodup ∧ ∀ x ∈ l, ∃ r ∈ rows, x ∈ r) (fun _ _ _ => ⟨List.nodup_nil, fun x hx => by simp at hx⟩)
    (fun rows x l hp ⟨ih, hf⟩ => by
      refine ⟨List.nodup_cons.2 ⟨fun hx => ?_, ih⟩, fun y hy => ?_⟩
      · obtain ⟨s, hs, hxs⟩ := hf x hx
        exact strip_gone hp hs hxs
      · rcases List.mem_cons.1 hy with rfl | hy
        · obtain ⟨r, hr, e⟩ := (pick_mem hp).1
          exact ⟨r, hr, List.mem_of_mem_head? e⟩
        · obtain ⟨s, hs, hy⟩ := hf y hy
          obtain ⟨r, hr, hsub⟩ := strip_sub hs
          exact ⟨r, hr, hsub y hy⟩) _ _ _ h).1

/-! with other numbers, unlike for unlike ones -/
theorem inTail_map {f : Int → Int} (hf : ∀ a b, f a = f b → a = b) (rows : List (List Int)) (x : Int) : inTail (rows.map (List.map f)) (f x) = inTail rows x := by
  unfold inTail
  rw [List.any_map]
  congr 1
  funext r
  simp only [Function.comp_apply]
  rw [Bool.eq_iff_iff]
  rw [List.contains_iff_mem, List.contains_iff_mem, ← List.map_tail, List.mem_map]
  exact ⟨fun ⟨a, ha, e⟩ => hf _ _ e ▸ ha, fun h => ⟨x, h, rfl⟩⟩
theorem heads_map (f : Int → Int) (rows : List (List Int)) : heads (rows.map (List.map f)) = (heads rows).map f := by
  induction rows with
  | nil => rfl
  | cons r rows ih =>
    cases r with
    | nil =>
      simp only [heads, List.map_cons, List.map_nil, List.filterMap_cons, List.head?_nil] at ih ⊢
      exact ih
    | cons a t =>
      simp only [heads, List.map_cons, List.filterMap_cons, List.head?_cons] at ih ⊢
      rw [ih]
theorem pick_map {f : Int → Int} (hf : ∀ a b, f a = f b → a = b) (rows : List (List Int)) : pick (rows.map (List.map f)) = (pick rows).map f := by
  unfold pick
  rw [heads_map, List.find?_map]
  congr 1
  congr 1
  funext x
  simp only [Function.comp_apply, inTail_map hf]
theorem strip_map {f : Int → Int} (hf : ∀ a b, f a = f b → a = b) (rows : List (List Int)) (x : Int) : strip (f x) (rows.map (List.map f)) = (strip x rows).map (List.map f) := by
  unfold strip
  rw [List.map_map, List.map_map]
  congr 1
  funext r
  simp only [Function.comp_apply]
  cases r with
  | nil => simp
  | cons a t =>
    by_cases e : a = x
    · subst e
      simp
    · have : f a ≠ f x := fun h => e (hf _ _ h)
      simp [e, this]
theorem void_map (f : Int → Int) (rows : List (List Int)) : void (rows.map (List.map f)) = void rows := by
  unfold void
  rw [List.all_map]
  congr 1
  funext r
  cases r <;> rfl
theorem weight_map (f : Int → Int) (rows : List (List Int)) : weight (rows.map (List.map f)) = weight rows := by
  unfold weight
  rw [List.map_map]
  congr 2
  funext r
  simp
theorem mergeN_map {f : Int → Int} (hf : ∀ a b, f a = f b → a = b) : ∀ (n : Nat) (rows : List (List Int)), mergeN n (rows.map (List.map f)) = (mergeN n rows).map (List.map f)
  | 0, _ => rfl
  | n + 1, rows => by
    unfold mergeN
    rw [pick_map hf, void_map]
    cases pick rows with
    | none => simp only [Option.map_none]; split <;> rfl
    | some x =>
      simp only [Option.map_some]
      rw [strip_map hf, mergeN_map hf n]
      cases mergeN n (strip x rows) <;> simp
theorem merge_map {f : Int → Int} (hf : ∀ a b, f a = f b → a = b) (rows : List (List Int)) : merge (rows.map (List.map f)) = (merge rows).map (List.map f) := by
  unfold merge
  rw [weight_map, mergeN_map hf]

/-! rows that hold the same: an empty one anywhere, one again behind -/
/-- what the merge sees of rows: the same heads in order but for repetition, the same tails -/
theorem pick_nil (a b : List (List Int)) : pick (a ++ [] :: b) = pick (a ++ b) := by
  have h1 : heads (a ++ [] :: b) = heads (a ++ b) := by simp [heads, List.filterMap_cons]
  have h2 : ∀ x, inTail (a ++ [] :: b) x = inTail (a ++ b) x := fun x => by simp [inTail]
  unfold pick
  rw [h1]
  congr 1
  funext x
  rw [h2]
theorem strip_nil (a b : List (List Int)) (x : Int) : strip x (a ++ [] :: b) = strip x a ++ [] :: strip x b := by simp [strip]
theorem strip_append (a b : List (List Int)) (x : Int) : strip x (a ++ b) = strip x a ++ strip x b := by simp [strip]
theorem mergeN_nil : ∀ (n : Nat) (a b : List (List Int)), mergeN n (a ++ [] :: b) = mergeN n (a ++ b)
  | 0, _, _ => rfl
  | n + 1, a, b => by
    unfold mergeN
    have hv : void (a ++ [] :: b) = void (a ++ b) := by simp [void]
    rw [pick_nil, hv]
    cases pick (a ++ b) with
    | none => rfl
    | some x =>
      simp only
      rw [strip_nil, strip_append, mergeN_nil n]
theorem merge_nil (a b : List (List Int)) : merge (a ++ [] :: b) = merge (a ++ b) := by
  have hw : weight (a ++ [] :: b) = weight (a ++ b) := by simp [weight]
  unfold merge
  rw [hw, mergeN_nil]
theorem find?_append_mem {l : List Int} {p : Int → Bool} {x : Int} (h : x ∈ l) : (l ++ [x]).find? p = l.find? p := by
  rw [List.find?_append]
  cases hf : l.find? p with
  | some => rfl
  | none =>
    have := List.find?_eq_none.1 hf x h
    simp [this]
theorem pick_again (rows : List (List Int)) (r : List Int) (h : r ∈ rows) : pick (rows ++ [r]) = pick rows := by
  have h2 : ∀ x, inTail (rows ++ [r]) x = inTail rows x := fun x => by
    unfold inTail
    rw [List.any_append]
    cases ht : r.tail.contains x with
    | false => simp at ht; simp [ht]
    | true =>
      have : (rows.any fun r => r.tail.contains x) = true := List.any_eq_true.2 ⟨r, h, ht⟩
      rw [this]
      rfl
  unfold pick
  have e : (fun x => !inTail (rows ++ [r]) x) = fun x => !inTail rows x := by funext x; rw [h2]
  rw [e]
  cases r with
  | nil => simp [heads]
  | cons a t =>
    have hh : heads (rows ++ [a :: t]) = heads rows ++ [a] := by simp [heads]
    rw [hh]
    exact find?_append_mem (by simp only [heads, List.mem_filterMap]; exact ⟨_, h, rfl⟩)
theorem mergeN_again : ∀ (n : Nat) (rows : List (List Int)) (r : List Int), r ∈ rows → mergeN n (rows ++ [r]) = mergeN n rows
  | 0, _, _, _ => rfl
  | n + 1, rows, r, h => by
    unfold mergeN
    have hv : void (rows ++ [r]) = void rows := by
      unfold void
      rw [List.all_append]
      cases ha : rows.all List.isEmpty with
      | false => rfl
      | true => simp [List.all_eq_true.1 ha r h]
    rw [pick_again rows r h, hv]
    cases pick rows with
    | none => rfl
    | some x =>
      simp only
      have : strip x (rows ++ [r]) = strip x rows ++ [if r.head? = some x then r.tail else r] := by simp [strip]
      rw [this, mergeN_again n]
      simp only [strip, List.mem_map]
      exact ⟨r, h, rfl⟩
theorem merge_again (rows : List (List Int)) (r : List Int) (h : r ∈ rows) : merge (rows ++ [r]) = merge rows := by
  unfold merge
  rw [mergeN_again _ rows r h]
  exact mergeN_more _ _ _ (by unfold weight; simp; omega) (by omega)
end Go.Proofs.Ytbfjkjkanckcjaa.Lin
