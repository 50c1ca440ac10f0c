/- A dict as Go's memory holds it, and the row of pairs that it stands for. -/
import Derived.Test.YtfdihmbmlhlkgaaKey
namespace Go.Proofs.Ytfdihmbmlhlkgaa
open Go.RowKit

/-- A row of the dict: a pair, or none where it was taken out. -/
abbrev Row := Option (V × V)
def Row.cs : Row → List Value
  | some p => [.int .i64 p.1.k, .int .i64 p.1.n, .string p.1.s, .int .i64 p.2.k, .int .i64 p.2.n, .string p.2.s, .bool false]
  | none => [.int .i64 0, .int .i64 0, .string ⟨#[]⟩, .int .i64 0, .int .i64 0, .string ⟨#[]⟩, .bool true]
def rcs (rs : List Row) : List Value := rs.flatMap Row.cs
theorem Row.cs_length (r : Row) : r.cs.length = 7 := by cases r <;> rfl
theorem rcs_nil : rcs [] = [] := rfl
theorem rcs_cons (r : Row) (rs : List Row) : rcs (r :: rs) = Row.cs r ++ rcs rs := by simp [rcs]
theorem rcs_append (a b : List Row) : rcs (a ++ b) = rcs a ++ rcs b := by simp [rcs]
theorem rcs_length (rs : List Row) : (rcs rs).length = rs.length * 7 := by
  induction rs with
  | nil => rfl
  | cons r rs ih => rw [rcs_cons, List.length_append, Row.cs_length, ih, List.length_cons]; omega
theorem rcs_at (rs : List Row) (i : Nat) (r : Row) (h : rs[i]? = some r) (j : Nat) (hj : j < 7) : (rcs rs)[i * 7 + j]? = (Row.cs r)[j]? := by
  induction rs generalizing i with
  | nil => simp at h
  | cons x xs ih =>
    rw [rcs_cons]
    cases i with
    | zero =>
      simp only [List.getElem?_cons_zero, Option.some.injEq] at h
      subst h
      rw [List.getElem?_append_left (by rw [Row.cs_length]; omega)]
      congr 1; omega
    | succ i =>
      rw [List.getElem?_append_right (by rw [Row.cs_length]; omega), Row.cs_length, ← ih i (by simpa using h)]
      congr 1; omega
theorem rcs_oneCell (rs : List Row) : ∀ u ∈ rcs rs, u.oneCell' = true := by
  intro u hu
  simp only [rcs, List.mem_flatMap] at hu
  obtain ⟨r, _, hr⟩ := hu
  cases r <;> simp only [Row.cs, List.mem_cons, List.not_mem_nil, or_false] at hr <;> rcases hr with rfl | rfl | rfl | rfl | rfl | rfl | rfl <;> rfl
theorem rcs_take (rs : List Row) (k : Nat) : (rcs rs).take (k * 7) = rcs (rs.take k) := by
  induction rs generalizing k with
  | nil => simp [rcs]
  | cons x xs ih =>
    cases k with
    | zero => simp [rcs]
    | succ k =>
      rw [rcs_cons, List.take_succ_cons, rcs_cons, List.take_append, Row.cs_length, List.take_of_length_le (by rw [Row.cs_length]; omega), ← ih k]
      congr 2; omega

/-- the pairs that are there -/
def live (rs : List Row) : List (V × V) := rs.filterMap id
theorem live_append (a b : List Row) : live (a ++ b) = live a ++ live b := by simp [live]
theorem live_some (p : V × V) (b : List Row) : live (some p :: b) = p :: live b := by simp [live]
theorem live_none (b : List Row) : live (none :: b) = live b := by simp [live]
theorem mem_live {rs : List Row} {p : V × V} : p ∈ live rs ↔ ∃ i : Nat, rs[i]? = some (some p) := by
  simp only [live, List.mem_filterMap, id]
  constructor
  · rintro ⟨a, h, rfl⟩
    exact List.getElem?_of_mem h
  · rintro ⟨i, h⟩
    exact ⟨_, List.mem_of_getElem? h, rfl⟩
/-- f tells each key's row. -/
def KeysAt (f : V → Option Nat) (rs : List Row) : Prop := ∀ k i, f k = some i ↔ ∃ x, rs[i]? = some (some (k, x))

def putL (L : List (V × V)) (k x : V) : List (V × V) := L.map fun p => if p.1 = k then (k, x) else p
def delL (L : List (V × V)) (k : V) : List (V × V) := L.filter fun p => !decide (p.1 = k)
def findL (L : List (V × V)) (k : V) : Option V := (L.find? fun p => decide (p.1 = k)).map (·.2)

theorem KeysAt.only {f : V → Option Nat} {rs : List Row} (h : KeysAt f rs) {k x y : V} {i j : Nat} (h1 : rs[i]? = some (some (k, x))) (h2 : rs[j]? = some (some (k, y))) : i = j := by
  have a := (h k i).2 ⟨x, h1⟩
  have b := (h k j).2 ⟨y, h2⟩
  rw [a] at b
  exact Option.some.inj b
theorem split_at {rs : List Row} {i : Nat} {r : Row} (h : rs[i]? = some r) : rs = rs.take i ++ r :: rs.drop (i + 1) := by
  obtain ⟨hl, rfl⟩ := List.getElem?_eq_some_iff.1 h
  rw [← List.drop_eq_getElem_cons hl, List.take_append_drop]
theorem KeysAt.far {f : V → Option Nat} {rs : List Row} (h : KeysAt f rs) {k x : V} {i : Nat} (h1 : rs[i]? = some (some (k, x))) :
    (∀ p ∈ live (rs.take i), p.1 ≠ k) ∧ (∀ p ∈ live (rs.drop (i + 1)), p.1 ≠ k) := by
  constructor
  · rintro ⟨a, b⟩ hp rfl
    obtain ⟨j, hj⟩ := mem_live.1 hp
    rw [List.getElem?_take] at hj
    split at hj
    · have := h.only hj h1; omega
    · cases hj
  · rintro ⟨a, b⟩ hp rfl
    obtain ⟨j, hj⟩ := mem_live.1 hp
    rw [List.getElem?_drop] at hj
    have := h.only hj h1
    omega
theorem set_split {rs : List Row} {i : Nat} (hi : i < rs.length) (r : Row) : rs.set i r = rs.take i ++ r :: rs.drop (i + 1) := List.set_eq_take_append_cons_drop.trans (if_pos hi)

theorem live_del {f : V → Option Nat} {rs : List Row} (h : KeysAt f rs) {k : V} {i : Nat} (hf : f k = some i) : live (rs.set i none) = delL (live rs) k := by
  obtain ⟨x, hx⟩ := (h k i).1 hf
  obtain ⟨f1, f2⟩ := h.far hx
  have hl := (List.getElem?_eq_some_iff.1 hx).1
  rw [set_split hl]
  conv => rhs; rw [split_at hx]
  rw [live_append, live_none, live_append, live_some]
  unfold delL
  rw [List.filter_append, List.filter_cons, if_neg (by simp)]
  rw [List.filter_eq_self.2 (fun p hp => by simpa using f1 p hp), List.filter_eq_self.2 (fun p hp => by simpa using f2 p hp)]
theorem live_put {f : V → Option Nat} {rs : List Row} (h : KeysAt f rs) {k : V} {i : Nat} (hf : f k = some i) (x : V) : live (rs.set i (some (k, x))) = putL (live rs) k x := by
  obtain ⟨y, hx⟩ := (h k i).1 hf
  obtain ⟨f1, f2⟩ := h.far hx
  have hl := (List.getElem?_eq_some_iff.1 hx).1
  rw [set_split hl]
  conv => rhs; rw [split_at hx]
  rw [live_append, live_some, live_append, live_some]
  unfold putL
  have e1 : ∀ l : List (V × V), (∀ p ∈ l, p.1 ≠ k) → l.map (fun p => if p.1 = k then (k, x) else p) = l := fun l hl => by
    conv => rhs; rw [← List.map_id l]
    exact List.map_congr_left fun p hp => if_neg (hl p hp)
  rw [List.map_append, List.map_cons, if_pos rfl, e1 _ f1, e1 _ f2]
theorem KeysAt.find {f : V → Option Nat} {rs : List Row} (h : KeysAt f rs) {k x : V} {i : Nat} (hx : rs[i]? = some (some (k, x))) : findL (live rs) k = some x := by
  obtain ⟨f1, f2⟩ := h.far hx
  unfold findL
  rw [split_at hx, live_append, live_some, List.find?_append, List.find?_eq_none.2 (fun p hp => by simpa using f1 p hp), List.find?_cons_of_pos (by simp)]
  rfl
theorem KeysAt.no {f : V → Option Nat} {rs : List Row} (h : KeysAt f rs) {k : V} (hf : f k = none) : findL (live rs) k = none := by
  unfold findL
  rw [Option.map_eq_none_iff, List.find?_eq_none]
  rintro ⟨a, b⟩ hp e
  obtain ⟨j, hj⟩ := mem_live.1 hp
  have e : a = k := by simpa using e
  subst e
  have := (h a j).2 ⟨b, hj⟩
  rw [hf] at this
  cases this
theorem KeysAt.set_none {f : V → Option Nat} {rs : List Row} (h : KeysAt f rs) {k : V} {i : Nat} (hf : f k = some i) : KeysAt (upd f k none) (rs.set i none) := by
  obtain ⟨x, hx⟩ := (h k i).1 hf
  have hl := (List.getElem?_eq_some_iff.1 hx).1
  intro y j
  unfold upd
  by_cases e : y = k
  · subst e
    simp only [if_true]
    refine ⟨fun e => (by cases e), fun ⟨z, hz⟩ => ?_⟩
    rw [List.getElem?_set] at hz
    split at hz
    · first | cases hz | (split at hz <;> cases hz)
    · rename_i hne
      exact absurd (h.only hx hz) hne
  · rw [if_neg e, h y j]
    constructor
    · rintro ⟨z, hz⟩
      refine ⟨z, ?_⟩
      rw [List.getElem?_set, if_neg]
      · exact hz
      · rintro rfl
        rw [hx] at hz
        exact e (congrArg Prod.fst (Option.some.inj (Option.some.inj hz))).symm
    · rintro ⟨z, hz⟩
      refine ⟨z, ?_⟩
      rw [List.getElem?_set] at hz
      split at hz
      · first | cases hz | (split at hz <;> cases hz)
      · exact hz
theorem KeysAt.set_some {f : V → Option Nat} {rs : List Row} (h : KeysAt f rs) {k : V} {i : Nat} (hf : f k = some i) (x : V) : KeysAt f (rs.set i (some (k, x))) := by
  obtain ⟨y, hx⟩ := (h k i).1 hf
  have hl := (List.getElem?_eq_some_iff.1 hx).1
  intro a j
  rw [h a j]
  by_cases e : i = j
  · subst e
    rw [List.getElem?_set, if_pos rfl, if_pos hl, hx]
    constructor
    · rintro ⟨z, hz⟩
      have := congrArg Prod.fst (Option.some.inj (Option.some.inj hz))
      simp only at this
      exact ⟨x, by rw [this]⟩
    · rintro ⟨z, hz⟩
      have := congrArg Prod.fst (Option.some.inj (Option.some.inj hz))
      simp only at this
      exact ⟨y, by rw [this]⟩
  · rw [List.getElem?_set, if_neg e]
theorem KeysAt.snoc {f : V → Option Nat} {rs : List Row} (h : KeysAt f rs) {k : V} (hf : f k = none) (x : V) : KeysAt (upd f k (some rs.length)) (rs ++ [some (k, x)]) := by
  intro a j
  unfold upd
  by_cases e : a = k
  · subst e
    simp only [if_true, Option.some.injEq]
    constructor
    · rintro rfl
      exact ⟨x, by simp⟩
    · rintro ⟨z, hz⟩
      rw [List.getElem?_append] at hz
      split at hz
      · have := (h a j).2 ⟨z, hz⟩
        rw [hf] at this
        cases this
      · have := (List.getElem?_eq_some_iff.1 hz).1
        simp at this
        omega
  · rw [if_neg e, h a j]
    constructor
    · rintro ⟨z, hz⟩
      exact ⟨z, by rw [List.getElem?_append_left (List.getElem?_eq_some_iff.1 hz).1]; exact hz⟩
    · rintro ⟨z, hz⟩
      rw [List.getElem?_append] at hz
      split at hz
      · exact ⟨z, hz⟩
      · rw [List.getElem?_singleton] at hz
        split at hz
        · exact absurd (congrArg Prod.fst (Option.some.inj (Option.some.inj hz))).symm e
        · cases hz
end Go.Proofs.Ytfdihmbmlhlkgaa
