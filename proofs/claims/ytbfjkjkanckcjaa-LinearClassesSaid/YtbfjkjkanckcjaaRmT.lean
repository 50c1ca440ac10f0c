/- The reference's Merge marks where each row stands: what that means in plain words. -/
import Derived.Test.YtbfjkjkanckcjaaRfa
import Derived.Test.YtbfjkjkanckcjaaMak
import Derived.Test.YtbfjkjkanckcjaaAlW
namespace Go.Proofs.Ytbfjkjkanckcjaa
open Go.RowKit Go.Shelf

/-- what is left of rows, where each stands at a place -/
def rem (rows : List (List Int)) (ats : List Nat) : List (List Int) := List.zipWith (fun r a => r.drop a) rows ats
theorem rem_zero (rows : List (List Int)) : rem rows (List.replicate rows.length 0) = rows := by
  unfold rem
  induction rows with
  | nil => rfl
  | cons r rows ih => simp [List.replicate_succ, ih]
theorem rem_length {rows : List (List Int)} {ats : List Nat} (h : ats.length = rows.length) : (rem rows ats).length = rows.length := by simp [rem, h]
theorem rem_at {rs : List SlI} {ats : List Nat} (h : ats.length = rs.length) {k : Nat} (hk : k < rs.length) : (rem (nums rs) ats)[k]? = some (rs[k].xs.drop (ats[k]'(by omega))) := by
  unfold rem
  rw [List.getElem?_zipWith, List.getElem?_eq_getElem (by rw [nums_length]; exact hk), List.getElem?_eq_getElem (by omega)]
  simp [nums]
/-- the places behind x being given: of the first k rows -/
def bmp (x : Int) (rest : List (List Int)) (ats : List Nat) : Nat → List Nat
  | 0 => ats
  | k + 1 => if (rest.getD k []).head? = some x then (bmp x rest ats k).set k (ats.getD k 0 + 1) else bmp x rest ats k
theorem bmp_length (x : Int) (rest : List (List Int)) (ats : List Nat) : ∀ k, (bmp x rest ats k).length = ats.length
  | 0 => rfl
  | k + 1 => by unfold bmp; split <;> simp [bmp_length x rest ats k]
theorem bmp_at (x : Int) (rest : List (List Int)) (ats : List Nat) (i : Nat) : ∀ k, (bmp x rest ats k)[i]? = if i < k ∧ (rest.getD i []).head? = some x then (if i < ats.length then some (ats.getD i 0 + 1) else none) else ats[i]?
  | 0 => by simp [bmp]
  | k + 1 => by
    unfold bmp
    have ih := bmp_at x rest ats i k
    by_cases hh : (rest.getD k []).head? = some x
    · rw [if_pos hh, List.getElem?_set, bmp_length]
      by_cases e : k = i
      · subst e
        rw [if_pos rfl, if_pos (show k < k + 1 ∧ (rest.getD k []).head? = some x from ⟨by omega, hh⟩)]
      · rw [if_neg e, ih]
        have : (i < k ∧ (rest.getD i []).head? = some x) ↔ (i < k + 1 ∧ (rest.getD i []).head? = some x) := ⟨fun h => ⟨by omega, h.2⟩, fun h => ⟨by omega, h.2⟩⟩
        simp only [this]
    · rw [if_neg hh, ih]
      have : (i < k ∧ (rest.getD i []).head? = some x) ↔ (i < k + 1 ∧ (rest.getD i []).head? = some x) := ⟨fun h => ⟨by omega, h.2⟩, fun h => by
        refine ⟨?_, h.2⟩
        by_cases e : i = k
        · subst e
          exact absurd h.2 hh
        · omega⟩
      simp only [this]
theorem bmp_here {x : Int} {rest : List (List Int)} {ats : List Nat} {k : Nat} (h : k < ats.length) : (bmp x rest ats k)[k]'(by rw [bmp_length]; exact h) = ats[k] := by
  have := bmp_at x rest ats k k
  rw [if_neg (by omega), List.getElem?_eq_getElem h, List.getElem?_eq_getElem (by rw [bmp_length]; exact h)] at this
  exact Option.some.inj this
theorem bmp_step {x : Int} {rest : List (List Int)} {ats : List Nat} {k : Nat} {r : List Int} (h : k < ats.length) (hr : rest[k]? = some r) : bmp x rest ats (k + 1) = if r.head? = some x then (bmp x rest ats k).set k (ats[k] + 1) else bmp x rest ats k := by
  rw [bmp, List.getD_eq_getElem?_getD, List.getD_eq_getElem?_getD, hr, List.getElem?_eq_getElem h, Option.getD_some, Option.getD_some]
theorem rem_bmp {rows : List (List Int)} {ats : List Nat} (h : ats.length = rows.length) (x : Int) : rem rows (bmp x (rem rows ats) ats rows.length) = Lin.strip x (rem rows ats) := by
  apply List.ext_getElem?
  intro i
  unfold Lin.strip
  rw [List.getElem?_map]
  by_cases hi : i < rows.length
  · have hia : i < ats.length := by omega
    have h1 : (rem rows ats)[i]? = some (rows[i].drop ats[i]) := by
      unfold rem
      rw [List.getElem?_zipWith, List.getElem?_eq_getElem hi, List.getElem?_eq_getElem hia]
    have h2 : (bmp x (rem rows ats) ats rows.length)[i]? = some (if (rows[i].drop ats[i]).head? = some x then ats[i] + 1 else ats[i]) := by
      rw [bmp_at, List.getD_eq_getElem?_getD, h1, Option.getD_some]
      by_cases hh : (rows[i].drop ats[i]).head? = some x
      · rw [if_pos ⟨hi, hh⟩, if_pos hia, if_pos hh, List.getD_eq_getElem?_getD, List.getElem?_eq_getElem hia, Option.getD_some]
      · rw [if_neg (fun h => hh h.2), if_neg hh, List.getElem?_eq_getElem hia]
    rw [h1, Option.map_some]
    generalize hb : bmp x (rem rows ats) ats rows.length = bs at *
    unfold rem
    rw [List.getElem?_zipWith, List.getElem?_eq_getElem hi, h2]
    show some _ = some _
    congr 1
    by_cases hh : (rows[i].drop ats[i]).head? = some x
    · rw [if_pos hh, if_pos hh, List.tail_drop]
    · rw [if_neg hh, if_neg hh]
  · rw [List.getElem?_eq_none (by rw [rem_length (by rw [bmp_length]; exact h)]; omega), List.getElem?_eq_none (by rw [rem_length h]; omega)]
    rfl
/-- the places as Go's numbers -/
def ats64 (ats : List Nat) : List Int := ats.map fun (a : Nat) => (a : Int)
theorem ats64_length (ats : List Nat) : (ats64 ats).length = ats.length := by simp [ats64]
theorem ats64_set (ats : List Nat) (k a : Nat) : (ats64 ats).set k (a : Int) = ats64 (ats.set k a) := by simp [ats64, List.map_set]
theorem ats64_zero (n : Nat) : ats64 (List.replicate n 0) = List.replicate n 0 := by simp [ats64]
/-- the first of the first k heads that stands in no tail -/
def pickTo (rest : List (List Int)) (k : Nat) : Option Int := (Lin.heads (rest.take k)).find? fun h => !tailI rest h
theorem pickTo_all {rest : List (List Int)} {k : Nat} (h : rest.length ≤ k) : pickTo rest k = Lin.pick rest := by
  unfold pickTo Lin.pick
  rw [List.take_of_length_le h]
  rfl
theorem pickTo_zero (rest : List (List Int)) : pickTo rest 0 = none := rfl
theorem pickTo_void {rest : List (List Int)} {k : Nat} (h : rest[k]? = some []) : pickTo rest (k + 1) = pickTo rest k ∧ Lin.void (rest.take (k + 1)) = Lin.void (rest.take k) := by
  obtain ⟨hk, e⟩ := List.getElem?_eq_some_iff.1 h
  unfold pickTo Lin.void
  rw [List.take_succ_eq_append_getElem hk, e]
  simp [Lin.heads]
theorem pickTo_not {rest : List (List Int)} {k : Nat} {x : Int} {t : List Int} (h : rest[k]? = some (x :: t)) (ht : tailI rest x = true) : pickTo rest (k + 1) = pickTo rest k ∧ Lin.void (rest.take (k + 1)) = false := by
  obtain ⟨hk, e⟩ := List.getElem?_eq_some_iff.1 h
  unfold pickTo Lin.void
  rw [List.take_succ_eq_append_getElem hk, e]
  refine ⟨?_, by simp⟩
  unfold Lin.heads
  rw [List.filterMap_append, List.find?_append]
  have : (List.filterMap List.head? [x :: t]).find? (fun h => !tailI rest h) = none := by simp [ht]
  rw [this, Option.or_none]
theorem pickTo_yes {rest : List (List Int)} {k : Nat} {x : Int} {t : List Int} (h : rest[k]? = some (x :: t)) (ht : tailI rest x = false) (hp : pickTo rest k = none) : Lin.pick rest = some x := by
  obtain ⟨hk, e⟩ := List.getElem?_eq_some_iff.1 h
  have hd : rest = rest.take k ++ (x :: t) :: rest.drop (k + 1) := by
    rw [← e, ← List.drop_eq_getElem_cons hk, List.take_append_drop]
  unfold Lin.pick
  have hh : Lin.heads rest = Lin.heads (rest.take k) ++ (x :: Lin.heads (rest.drop (k + 1))) := by
    rw [show Lin.heads rest = Lin.heads (rest.take k ++ (x :: t) :: rest.drop (k + 1)) from by rw [← hd]]
    unfold Lin.heads
    rw [List.filterMap_append, List.filterMap_cons]
    rfl
  rw [hh, List.find?_append]
  have : (Lin.heads (rest.take k)).find? (fun h => !Lin.inTail rest h) = none := hp
  rw [this, Option.none_or, List.find?_cons]
  have : (!Lin.inTail rest x) = true := by
    have : tailI rest x = false := ht
    unfold tailI at this
    rw [this]; rfl
  rw [this]
theorem tailTo_step {rest : List (List Int)} {k : Nat} {r : List Int} (h : rest[k]? = some r) (x : Int) : tailI (rest.take (k + 1)) x = (tailI (rest.take k) x || hasI r.tail x) := by
  obtain ⟨hk, e⟩ := List.getElem?_eq_some_iff.1 h
  unfold tailI Lin.inTail
  rw [List.take_succ_eq_append_getElem hk, e, List.any_append]
  simp [hasI]
/-- the two rows that the reference's Merge makes -/
structure RSt (w wr : World) (va vo : Value) (ats : List Nat) (out : List Int) : Prop where
  a : NewI 3 w wr va (ats64 ats)
  o : NewI 2 w wr vo out
theorem RSt.below {w wr w' : World} {va vo : Value} {ats : List Nat} {out : List Int} (h : RSt w wr va vo ats out) (hb : Below wr.heap.size wr w') : RSt w w' va vo ats out := ⟨h.a.below hb, h.o.below hb⟩
theorem RSt.push {w wr w' : World} {va vo v' : Value} {ats : List Nat} {out out' : List Int} (h : RSt w wr va vo ats out) (ho : OwnI 2 w' v' out') (hg : wr.grownBy w' vo.ownBlock) (ha : v'.ownBlock = vo.ownBlock ∨ v'.ownBlock = some wr.heap.size) : RSt w w' va v' ats out' :=
  ⟨⟨Own.keep h.a.own fun b e => hg.block b (Own.lt h.a.own e) fun e' => own_own_ne h.a.own h.o.own (by decide) e e'.symm, h.a.new, h.a.bel.grown hg h.a.bel.size h.o.new⟩, h.o.app ho hg ha⟩
/-- a place is stored -/
theorem RSt.put {w wr : World} {vo : Value} {b n c : Nat} {ats : List Nat} {out : List Int} (h : RSt w wr (.slice (some ⟨b, 0, none⟩) n c) vo ats out) (hn : ats.length = n) {k : Nat} (hk : k < n) (a : Nat) :
    wr.cell? ⟨b, k, none⟩ = some (.int .i64 (ats[k]'(by omega) : Nat)) ∧ wr.frozen? ⟨b, k, none⟩ = false ∧ RSt w (wr.setCell ⟨b, k, none⟩ (.int .i64 (a : Int))) (.slice (some ⟨b, 0, none⟩) n c) vo (ats.set k a) out := by
  have hl : (ats64 ats).length = n := by rw [ats64_length, hn]
  have ha : Own wr 3 1 (.slice (some ⟨b, 0, none⟩) n c) n (ics (ats64 ats)) := by
    have := h.a.own
    unfold OwnI at this
    rwa [hl] at this
  obtain ⟨h1, h2, h3⟩ := ha.set_ (j := k) (by omega) (.int .i64 (a : Int))
  have hb : w.heap.size ≤ b := h.a.new b rfl
  have hbel : Below w.heap.size w (wr.setCell ⟨b, k, none⟩ (.int .i64 (a : Int))) := h.a.bel.setCell (by simpa using hb) _
  refine ⟨?_, h2, ⟨?_, h.a.new, hbel⟩, ⟨?_, h.o.new, hbel⟩⟩
  · rw [h1]
    simp [ics, ats64, hn, hk]
  · unfold OwnI
    have e : ics (ats64 (ats.set k a)) = (ics (ats64 ats)).set k (.int .i64 (a : Int)) := by simp [ics, ats64, List.map_set]
    rw [e, ats64_length, List.length_set, hn]
    exact h3
  · refine Own.keep h.o.own fun b' e => Below.heap_setCell wr _ _ b' ?_
    rintro rfl
    exact own_own_ne h.o.own h.a.own (by decide) e rfl
theorem RSt.cell {w wr : World} {vo : Value} {b n c : Nat} {ats : List Nat} {out : List Int} (h : RSt w wr (.slice (some ⟨b, 0, none⟩) n c) vo ats out) (hn : ats.length = n) {k : Nat} (hk : k < n) : wr.cell? ⟨b, k, none⟩ = some (.int .i64 (ats[k]'(by omega) : Nat)) := (h.put hn hk 0).1
end Go.Proofs.Ytbfjkjkanckcjaa
