/- Rows of pairs in plain words: what is found behind a put and a take-out; how many there are; which keys, in order. -/
import Derived.Test.YtfdihmbmlhlkgaaMad
namespace Go.Proofs.Ytfdihmbmlhlkgaa

theorem findL_none {L : List (V × V)} {k : V} (h : findL L k = none) : ∀ p ∈ L, p.1 ≠ k := by
  unfold findL at h
  rw [Option.map_eq_none_iff, List.find?_eq_none] at h
  exact fun p hp e => h p hp (by simpa using e)
theorem findL_append (L M : List (V × V)) (k : V) : findL (L ++ M) k = (findL L k).or (findL M k) := by
  unfold findL
  rw [List.find?_append, Option.map_or]
theorem findL_cons (p : V × V) (L : List (V × V)) (k : V) : findL (p :: L) k = if p.1 = k then some p.2 else findL L k := by
  unfold findL
  rw [List.find?_cons]
  by_cases h : p.1 = k
  · simp [h]
  · simp [h]
theorem findL_putL (L : List (V × V)) (x y b : V) : findL (putL L x y) b = if b = x then (findL L x).map (fun _ => y) else findL L b := by
  induction L with
  | nil => simp [putL, findL]
  | cons p L ih =>
    have e : putL (p :: L) x y = (if p.1 = x then (x, y) else p) :: putL L x y := rfl
    rw [e, findL_cons, ih, findL_cons, findL_cons]
    by_cases h1 : p.1 = x
    · by_cases h2 : b = x
      · subst h2
        simp [h1]
      · have h3 : ¬ x = b := fun e => h2 e.symm
        have h4 : ¬ p.1 = b := by rw [h1]; exact h3
        simp [h1, h2, h3]
    · by_cases h2 : b = x
      · subst h2
        simp [h1]
      · simp [h1, h2]
theorem find_put_same {L : List (V × V)} {x : V} (y : V) (h : putOk L x = true) : findL (putR L x y) x = some y := by
  unfold putR
  unfold putOk at h
  cases hf : (findL L x).isSome with
  | true =>
    obtain ⟨z, hz⟩ := Option.isSome_iff_exists.1 hf
    rw [if_pos rfl, findL_putL, if_pos rfl, hz]
    rfl
  | false =>
    rw [hf] at h
    have hn : findL L x = none := by simpa using hf
    rw [if_neg (by simp), if_pos (by simpa using h), findL_append, hn, findL_cons, if_pos rfl]
    rfl
theorem find_put_other {L : List (V × V)} {x b : V} (y : V) (h : b ≠ x) : findL (putR L x y) b = findL L b := by
  unfold putR
  split
  · rw [findL_putL, if_neg h]
  · split
    · rw [findL_append, findL_cons, if_neg (Ne.symm h)]
      simp [findL]
    · rfl
theorem find_del_same (L : List (V × V)) (x : V) : findL (delL L x) x = none := by
  refine findL_append_none fun p hp e => ?_
  have := (List.mem_filter.1 hp).2
  simp [e] at this
theorem find_del_other {L : List (V × V)} {x b : V} (h : b ≠ x) : findL (delL L x) b = findL L b := by
  induction L with
  | nil => rfl
  | cons p L ih =>
    unfold delL at ih ⊢
    rw [List.filter_cons]
    by_cases h1 : p.1 = x
    · rw [if_neg (by simp [h1]), ih, findL_cons, if_neg (by rw [h1]; exact Ne.symm h)]
    · rw [if_pos (by simp [h1]), findL_cons, ih, findL_cons]
theorem putL_length (L : List (V × V)) (x y : V) : (putL L x y).length = L.length := by simp [putL]
theorem put_length {L : List (V × V)} {x : V} (y : V) (h : putOk L x = true) : (putR L x y).length = if (findL L x).isSome then L.length else L.length + 1 := by
  unfold putR
  unfold putOk at h
  cases hf : (findL L x).isSome with
  | true => simp [putL_length]
  | false =>
    rw [hf] at h
    rw [if_neg (by simp), if_pos (by simpa using h)]
    simp
theorem put_length_le (L : List (V × V)) (x y : V) : (putR L x y).length ≤ L.length + 1 := by
  unfold putR
  split
  · rw [putL_length]; omega
  · split
    · simp
    · omega
theorem del_length_le (L : List (V × V)) (x : V) : (delL L x).length ≤ L.length := List.length_filter_le _ _
theorem Keyed.tail {p : V × V} {L : List (V × V)} (h : Keyed (p :: L)) : Keyed L := (List.pairwise_cons.1 h).2
theorem find_some_mem {L : List (V × V)} {x y : V} (h : findL L x = some y) : ∃ i : Nat, L[i]? = some (x, y) := by
  unfold findL at h
  rw [Option.map_eq_some_iff] at h
  obtain ⟨p, hp, rfl⟩ := h
  have h1 := List.find?_some hp
  obtain ⟨i, hi⟩ := List.getElem?_of_mem (List.mem_of_find?_eq_some hp)
  refine ⟨i, ?_⟩
  rw [hi, ← of_decide_eq_true h1]
theorem del_length {L : List (V × V)} (hk : Keyed L) {x : V} (h : (findL L x).isSome = true) : (delL L x).length + 1 = L.length := by
  obtain ⟨y, hy⟩ := Option.isSome_iff_exists.1 h
  obtain ⟨i, hi⟩ := find_some_mem hy
  have hl := (List.getElem?_eq_some_iff.1 hi).1
  have := hk.delL hi
  simp only at this
  rw [this, List.length_append, List.length_take, List.length_drop]
  omega
theorem madeL_length (L : List (V × V)) (c : CallD) : (madeL L c).length ≤ L.length + 1 := by
  unfold madeL
  split
  · have := del_length_le L c.k; omega
  · exact put_length_le _ _ _
theorem fold_length (cs : List CallD) : ∀ (L : List (V × V)), (cs.foldl madeL L).length ≤ L.length + cs.length := by
  induction cs with
  | nil => intro L; simp
  | cons c cs ih =>
    intro L
    have h1 := ih (madeL L c)
    have h2 := madeL_length L c
    simp only [List.foldl_cons, List.length_cons]
    omega
theorem madeAll_length (l : List CallD) : (madeAll (l.take 40)).length ≤ 40 := by
  have := fold_length ((l.take 40).map CallD.fit) []
  simp only [List.length_nil, List.length_map, List.length_take] at this
  unfold madeAll
  omega

/-! keys, in order -/
theorem keys_putL (L : List (V × V)) (x y : V) : (putL L x y).map Prod.fst = L.map Prod.fst := by
  unfold putL
  rw [List.map_map]
  refine List.map_congr_left fun p _ => ?_
  simp only [Function.comp]
  split
  · rename_i h; exact h.symm
  · rfl
theorem keys_put_there {L : List (V × V)} {x : V} (y : V) (h : (findL L x).isSome = true) : (putR L x y).map Prod.fst = L.map Prod.fst := by
  unfold putR
  rw [if_pos h, keys_putL]
theorem keys_put_new {L : List (V × V)} {x : V} (y : V) (h : findL L x = none) (hk : isKey x = true) (hl : L.length < 4096) : (putR L x y).map Prod.fst = L.map Prod.fst ++ [x] := by
  unfold putR
  rw [h, if_neg (by simp), if_pos (by simp [hk, hl])]
  simp
theorem keys_del {L : List (V × V)} (h : Keyed L) {i : Nat} {p : V × V} (hp : L[i]? = some p) : (delL L p.1).map Prod.fst = (L.map Prod.fst).take i ++ (L.map Prod.fst).drop (i + 1) := by
  rw [h.delL hp, List.map_append, List.map_take, List.map_drop]
end Go.Proofs.Ytfdihmbmlhlkgaa
