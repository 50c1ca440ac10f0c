/- What holds of answers, in plain words: what is left at each step; the orders of classes. -/
import Derived.Test.YtbfjkjkanckcjaaAll
namespace Go.Proofs.Ytbfjkjkanckcjaa
open Go.RowKit

theorem Lin.Steps.apart {rows : List (List Int)} {out : List Int} {rest : List (List Int)} (h : Lin.Steps rows out rest) : ∀ r ∈ rest, ∀ y ∈ r, y ∉ out := by
  induction h with
  | refl => simp
  | snoc hs hp ih =>
    intro r hr y hy hm
    rcases List.mem_append.1 hm with hm | hm
    · obtain ⟨s, hs', hsub⟩ := Lin.strip_sub hr
      exact ih s hs' y (hsub y hy) hm
    · rw [List.mem_singleton] at hm
      subst hm
      exact Lin.strip_gone hp hr hy
/-- what is left of a row where some numbers were given -/
def leftOf (pre r : List Int) : List Int := r.dropWhile fun y => hasI pre y
theorem leftOf_nil (r : List Int) : leftOf [] r = r := by
  unfold leftOf
  cases r with
  | nil => rfl
  | cons a t => simp [hasI]
theorem leftOf_stop {pre r : List Int} (h : ∀ y ∈ r.head?, y ∉ pre) : leftOf pre r = r := by
  unfold leftOf
  cases r with
  | nil => rfl
  | cons a t =>
    have := h a (by simp)
    rw [List.dropWhile_cons, hasI_not.2 this]
    rfl
theorem leftOf_head (pre r : List Int) : ∀ y ∈ (leftOf pre r).head?, y ∉ pre := by
  intro y hy
  unfold leftOf at hy
  induction r with
  | nil => simp at hy
  | cons a t ih =>
    rw [List.dropWhile_cons] at hy
    by_cases h : hasI pre a = true
    · rw [if_pos h] at hy
      exact ih hy
    · rw [if_neg h] at hy
      simp at hy
      subst hy
      exact hasI_not.1 (by simpa using h)
theorem leftOf_more (pre : List Int) (x : Int) : ∀ r : List Int, leftOf (pre ++ [x]) r = leftOf (pre ++ [x]) (leftOf pre r)
  | [] => rfl
  | a :: t => by
    by_cases h : hasI pre a = true
    · have h2 : hasI (pre ++ [x]) a = true := hasI_iff.2 (List.mem_append_left _ (hasI_iff.1 h))
      have e1 : leftOf (pre ++ [x]) (a :: t) = leftOf (pre ++ [x]) t := by unfold leftOf; rw [List.dropWhile_cons, if_pos h2]
      have e2 : leftOf pre (a :: t) = leftOf pre t := by unfold leftOf; rw [List.dropWhile_cons, if_pos h]
      rw [e1, e2]
      exact leftOf_more pre x t
    · have e2 : leftOf pre (a :: t) = a :: t := by unfold leftOf; rw [List.dropWhile_cons, if_neg h]
      rw [e2]
theorem Lin.Steps.left {rows : List (List Int)} {out : List Int} {rest : List (List Int)} (h : Lin.Steps rows out rest) : rest = rows.map (leftOf out) := by
  induction h with
  | refl =>
    symm
    rw [List.map_congr_left (g := id) fun r _ => leftOf_nil r]
    simp
  | @snoc out rest x hs hp ih =>
    have hap := (Lin.Steps.snoc hs hp).apart
    rw [ih] at hap ⊢
    unfold Lin.strip at hap ⊢
    rw [List.map_map] at hap ⊢
    refine List.map_congr_left fun r hr => ?_
    have h1 := hap _ (List.mem_map.2 ⟨r, hr, rfl⟩)
    simp only [Function.comp_apply] at h1 ⊢
    rw [leftOf_more]
    have hh := leftOf_head out r
    generalize leftOf out r = s at *
    by_cases e : s.head? = some x
    · rw [if_pos e] at h1 ⊢
      cases s with
      | nil => cases e
      | cons a t =>
        injection e with e
        subst e
        have e1 : leftOf (out ++ [a]) (a :: t) = leftOf (out ++ [a]) t := by
          unfold leftOf
          rw [List.dropWhile_cons, if_pos (hasI_iff.2 (by simp))]
        rw [e1]
        refine (leftOf_stop fun y hy => h1 y ?_).symm
        exact List.mem_of_mem_head? hy
    · rw [if_neg e]
      refine (leftOf_stop fun y hy => ?_).symm
      intro hm
      rcases List.mem_append.1 hm with hm | hm
      · exact hh y hy hm
      · rw [List.mem_singleton] at hm
        subst hm
        exact e hy
/-- each number of an answer was picked -/
theorem picked {rows : List (List Int)} {a : List Int} (h : Lin.merge rows = some a) : ∀ i, i ≤ a.length → Lin.Steps rows (a.take i) (rows.map (leftOf (a.take i))) ∧ Lin.merge (rows.map (leftOf (a.take i))) = some (a.drop i)
  | 0, _ => by
    have e : rows.map (leftOf []) = rows := by
      rw [List.map_congr_left (g := id) fun r _ => leftOf_nil r]
      simp
    rw [List.take_zero, e]
    exact ⟨.refl, by simpa using h⟩
  | i + 1, hi => by
    obtain ⟨hs, hm⟩ := picked h i (by omega)
    have hd := List.drop_eq_getElem_cons (show i < a.length by omega)
    rw [hd] at hm
    cases hp : Lin.pick (rows.map (leftOf (a.take i))) with
    | none =>
      rw [Lin.merge_none hp] at hm
      split at hm
      · injection hm with hm; cases hm
      · cases hm
    | some x =>
      rw [Lin.merge_some hp] at hm
      cases hr : Lin.merge (Lin.strip x (rows.map (leftOf (a.take i)))) with
      | none => rw [hr] at hm; cases hm
      | some l =>
        rw [hr] at hm
        have e := Option.some.inj hm
        injection e with e1 e2
        have hs2 := hs.snoc hp
        have hl := hs2.left
        rw [e1, ← List.take_succ_eq_append_getElem (show i < a.length by omega)] at hs2 hl
        rw [← hl]
        refine ⟨hs2, ?_⟩
        rw [← e1, hr, e2]
theorem picked_at {rows : List (List Int)} {a : List Int} (h : Lin.merge rows = some a) {i : Nat} (hi : i < a.length) : Lin.pick (rows.map (leftOf (a.take i))) = some a[i] := by
  obtain ⟨hs, hm⟩ := picked h i (by omega)
  rw [List.drop_eq_getElem_cons hi] at hm
  cases hp : Lin.pick (rows.map (leftOf (a.take i))) with
  | none =>
    rw [Lin.merge_none hp] at hm
    split at hm
    · injection hm with hm; cases hm
    · cases hm
  | some x =>
    rw [Lin.merge_some hp] at hm
    cases hr : Lin.merge (Lin.strip x (rows.map (leftOf (a.take i)))) with
    | none => rw [hr] at hm; cases hm
    | some l =>
      rw [hr] at hm
      have e := Option.some.inj hm
      injection e with e1 e2
      rw [e1]

/-! the orders of classes -/
def okBases (n : Nat) (b : List Int) : Bool := b.all fun x => decide (0 ≤ x) && decide (x < n)
theorem okBases_at {n : Nat} {b : List Int} (h : okBases n b = true) {x : Int} (hx : x ∈ b) : 0 ≤ x ∧ x < n := by
  have := List.all_eq_true.1 h x hx
  simpa using this
theorem getD_append_lt {α : Type} {d : α} {a b : List α} {i : Nat} (h : i < a.length) : (a ++ b).getD i d = a.getD i d := by
  rw [List.getD_eq_getElem?_getD, List.getD_eq_getElem?_getD, List.getElem?_append_left h]
theorem allGo_spec : ∀ (bs done os : List (List Int)), Lin.allGo done bs = some os → ∃ new, os = done ++ new ∧ new.length = bs.length ∧ ∀ i (h : i < bs.length), okBases (done.length + i) bs[i] = true ∧
    Lin.order ((done.length + i : Nat) : Int) bs[i] (bs[i].map fun x => os.getD x.toNat []) = some (new.getD i [])
  | [], done, os, h => by
    simp only [Lin.allGo] at h
    injection h with h
    exact ⟨[], by simp [h], rfl, fun i hi => by simp at hi⟩
  | b :: bs, done, os, h => by
    unfold Lin.allGo at h
    split at h
    · rename_i hok
      cases ho : Lin.order done.length b (b.map fun x => done.getD x.toNat []) with
      | none => rw [ho] at h; cases h
      | some o =>
        rw [ho] at h
        obtain ⟨new, e, hl, hi⟩ := allGo_spec bs (done ++ [o]) os h
        refine ⟨o :: new, by rw [e]; simp, by simp [hl], fun i hi' => ?_⟩
        cases i with
        | zero =>
          refine ⟨hok, ?_⟩
          have em : (b.map fun x => os.getD x.toNat []) = b.map fun x => done.getD x.toNat [] := by
            refine List.map_congr_left fun x hx => ?_
            have := okBases_at hok hx
            rw [e, List.append_assoc]
            exact getD_append_lt (by omega)
          simp only [List.getElem_cons_zero, Nat.add_zero]
          rw [em, ho]
          rfl
        | succ i =>
          have := hi i (by simpa using hi')
          simp only [List.length_append, List.length_cons, List.length_nil, Nat.zero_add] at this
          rw [show done.length + (i + 1) = done.length + 1 + i from by omega]
          simpa using this
    · cases h
theorem all_spec {bs os : List (List Int)} (h : Lin.all bs = some os) : os.length = bs.length ∧ ∀ i (h : i < bs.length), okBases i bs[i] = true ∧
    ∃ l, Lin.merge ((bs[i].map fun x => os.getD x.toNat []) ++ [bs[i]]) = some l ∧ (i : Int) ∉ l ∧ os.getD i [] = (i : Int) :: l := by
  obtain ⟨new, e, hl, hi⟩ := allGo_spec bs [] os h
  rw [List.nil_append] at e
  subst e
  refine ⟨hl, fun i h' => ?_⟩
  obtain ⟨h1, h2⟩ := hi i h'
  simp only [List.length_nil, Nat.zero_add] at h1 h2
  obtain ⟨l, hm, hx, e⟩ := order_some h2
  exact ⟨h1, l, hm, hx, e⟩
theorem all_neat {bs os : List (List Int)} (h : Lin.all bs = some os) : ∀ i, ∀ x ∈ (os.getD i []), 0 ≤ x ∧ x ≤ i := by
  have key : ∀ (bs done os : List (List Int)), Neat done → Lin.allGo done bs = some os → Neat os := by
    intro bs
    induction bs with
    | nil =>
      intro done os hd h
      injection h with h
      rwa [← h]
    | cons b bs ih =>
      intro done os hd h
      unfold Lin.allGo at h
      split at h
      · rename_i hok
        cases ho : Lin.order done.length b (b.map fun x => done.getD x.toNat []) with
        | none => rw [ho] at h; cases h
        | some o =>
          rw [ho] at h
          exact ih _ _ (hd.snoc hok ho) h
      · cases h
  intro i x hx
  have hn := key bs [] os Neat.nil h
  by_cases hi : i < os.length
  · rw [List.getD_eq_getElem?_getD, List.getElem?_eq_getElem hi, Option.getD_some] at hx
    exact (hn i hi).2 x hx
  · rw [List.getD_eq_getElem?_getD, List.getElem?_eq_none (by omega)] at hx
    simp at hx
/-- a class's order behind it keeps its bases -/
theorem all_bases {bs os : List (List Int)} (h : Lin.all bs = some os) {i : Nat} (hi : i < bs.length) : (os.getD i []).head? = some (i : Int) ∧ bs[i].Sublist (os.getD i []).tail ∧ (∀ b ∈ bs[i], 0 ≤ b ∧ b < i ∧ (os.getD b.toNat []).Sublist (os.getD i []).tail) ∧
    ∀ x ∈ (os.getD i []).tail, x < i ∧ ∃ b ∈ bs[i], x ∈ os.getD b.toNat [] := by
  obtain ⟨hok, l, hm, hx, e⟩ := (all_spec h).2 i hi
  have hk := Lin.merge_keeps hm
  rw [e]
  refine ⟨rfl, hk _ (by simp), fun b hb => ⟨(okBases_at hok hb).1, (okBases_at hok hb).2, hk _ (List.mem_append_left _ (List.mem_map.2 ⟨b, hb, rfl⟩))⟩, fun x hxl => ?_⟩
  have hxl : x ∈ l := hxl
  have hle := all_neat h i x (by rw [e]; exact List.mem_cons_of_mem _ hxl)
  refine ⟨?_, ?_⟩
  · have : x ≠ (i : Int) := fun e' => hx (e' ▸ hxl)
    omega
  · obtain ⟨r, hr, hxr⟩ := Lin.merge_from hm x hxl
    rcases List.mem_append.1 hr with hr | hr
    · obtain ⟨b, hb, rfl⟩ := List.mem_map.1 hr
      exact ⟨b, hb, hxr⟩
    · rw [List.mem_singleton] at hr
      subst hr
      have hb := okBases_at hok hxr
      refine ⟨x, hxr, ?_⟩
      obtain ⟨_, l', _, _, e'⟩ := (all_spec h).2 x.toNat (by omega)
      rw [e', show ((x.toNat : Nat) : Int) = x from by omega]
      exact List.mem_cons_self
/-- a base twice, or one that is no lesser number: there is nothing -/
theorem all_bad {bs : List (List Int)} {i : Nat} (hi : i < bs.length) (h : ¬ bs[i].Nodup ∨ ∃ b ∈ bs[i], (i : Int) ≤ b) : Lin.all bs = none := by
  cases ha : Lin.all bs with
  | none => rfl
  | some os =>
    exfalso
    obtain ⟨hok, l, hm, _, _⟩ := (all_spec ha).2 i hi
    rcases h with h | ⟨b, hb, h⟩
    · exact h ((Lin.merge_nodup hm).sublist (Lin.merge_keeps hm _ (by simp)))
    · have := (okBases_at hok hb).2
      omega
/-! chains -/
theorem merge_one : ∀ (l : List Int), l.Nodup → Lin.merge [l] = some l
  | [], _ => by decide +kernel
  | a :: t, h => by
    have hn := List.nodup_cons.1 h
    have hp : Lin.pick [a :: t] = some a := by
      simp [Lin.pick, Lin.heads, Lin.inTail, hn.1]
    have hs : Lin.strip a [a :: t] = [t] := by simp [Lin.strip]
    rw [Lin.merge_some hp, hs, merge_one t hn.2]
    rfl
theorem merge_chain {b : Int} {t : List Int} (h : (b :: t).Nodup) : Lin.merge [b :: t, [b]] = some (b :: t) := by
  have hn := List.nodup_cons.1 h
  have hp : Lin.pick [b :: t, [b]] = some b := by simp [Lin.pick, Lin.heads, Lin.inTail, hn.1]
  have hs : Lin.strip b [b :: t, [b]] = [t, []] := by simp [Lin.strip]
  rw [Lin.merge_some hp, hs]
  have := Lin.merge_nil [t] []
  simp only [List.singleton_append, List.append_nil] at this
  rw [this, merge_one t hn.2]
  rfl
/-- the order of a class's first base -/
def ofBase (os : List (List Int)) : List Int → List Int
  | [] => []
  | x :: _ => os.getD x.toNat []
/-- each class has one lesser base, or none -/
def Chain (bs : List (List Int)) : Prop := ∀ i (h : i < bs.length), bs[i] = [] ∨ ∃ b : Int, bs[i] = [b] ∧ 0 ≤ b ∧ b < i
/-- each order begins with its class, and has lesser ones alone, each once -/
def Heads (done : List (List Int)) : Prop := ∀ i (h : i < done.length), ∃ t, done[i] = (i : Int) :: t
theorem allGo_chain : ∀ (bs done : List (List Int)), Neat done → Heads done → (∀ i (h : i < bs.length), bs[i] = [] ∨ ∃ b : Int, bs[i] = [b] ∧ 0 ≤ b ∧ b < (done.length + i : Nat)) →
    ∃ new, Lin.allGo done bs = some (done ++ new) ∧ new.length = bs.length ∧ ∀ i (h : i < bs.length), (new.getD i []) = ((done.length + i : Nat) : Int) :: ofBase (done ++ new) bs[i]
  | [], done, _, _, _ => ⟨[], by simp [Lin.allGo], rfl, fun i hi => by simp at hi⟩
  | b :: bs, done, hn, hh, hc => by
    have hok : okBases done.length b = true := by
      rcases hc 0 (by simp) with e | ⟨x, e, h1, h2⟩ <;> simp only [List.getElem_cons_zero] at e <;> subst e
      · rfl
      · simp only [Nat.add_zero] at h2
        simp [okBases]
        omega
    have ho : Lin.order done.length b (b.map fun x => done.getD x.toNat []) = some ((done.length : Int) :: ofBase done b) := by
      rcases hc 0 (by simp) with e | ⟨x, e, h1, h2⟩ <;> simp only [List.getElem_cons_zero] at e <;> subst e
      · have : Lin.merge [[]] = some [] := by decide +kernel
        simp [Lin.order, this, ofBase]
      · simp only [Nat.add_zero] at h2
        have hx : x.toNat < done.length := by omega
        have eg : done.getD x.toNat [] = done[x.toNat] := by rw [List.getD_eq_getElem?_getD, List.getElem?_eq_getElem hx, Option.getD_some]
        obtain ⟨t, et⟩ := hh x.toNat hx
        rw [show ((x.toNat : Nat) : Int) = x from by omega] at et
        have hnn := hn x.toNat hx
        rw [et] at hnn
        have hm := merge_chain hnn.1
        have hno : (done.length : Int) ∉ x :: t := fun h => by have := hnn.2 _ h; omega
        simp only [Lin.order, List.map_cons, List.map_nil, List.singleton_append, eg, et, hm, ofBase]
        rw [if_neg (by simpa using hno)]
    have hgo := allGo_chain bs (done ++ [(done.length : Int) :: ofBase done b]) (hn.snoc hok ho) (fun i hi => by
      by_cases hlt : i < done.length
      · rw [List.getElem_append_left hlt]
        exact hh i hlt
      · have e : i = done.length := by simp at hi; omega
        subst e
        exact ⟨ofBase done b, by simp⟩) (fun i hi => by
      have := hc (i + 1) (by simpa using hi)
      simp only [List.getElem_cons_succ] at this
      rcases this with e | ⟨x, e, h1, h2⟩
      · exact .inl e
      · exact .inr ⟨x, e, h1, by simp; omega⟩)
    obtain ⟨new, e, hl, hi⟩ := hgo
    refine ⟨((done.length : Int) :: ofBase done b) :: new, ?_, by simp [hl], fun i hi' => ?_⟩
    · unfold Lin.allGo
      have hok' : b.all (fun x => decide (0 ≤ x) && decide (x < done.length)) = true := hok
      rw [if_pos hok', ho]
      simp only
      rw [e, List.append_assoc]
      rfl
    · cases i with
      | zero =>
        simp only [List.getD_cons_zero, List.getElem_cons_zero, Nat.add_zero]
        congr 1
        cases b with
        | nil => rfl
        | cons x t =>
          have := okBases_at hok (x := x) (by simp)
          exact (getD_append_lt (by omega)).symm
      | succ i =>
        have := hi i (by simpa using hi')
        simp only [List.getD_cons_succ, List.getElem_cons_succ]
        rw [this]
        simp only [List.length_append, List.length_cons, List.length_nil, List.append_assoc]
        rw [show done.length + (0 + 1) + i = done.length + (i + 1) from by omega]
        rfl
theorem all_chain {bs : List (List Int)} (h : Chain bs) : ∃ os, Lin.all bs = some os ∧ os.length = bs.length ∧ ∀ i (h : i < bs.length), (os.getD i []) = (i : Int) :: ofBase os bs[i] := by
  obtain ⟨new, e, hl, hi⟩ := allGo_chain bs [] Neat.nil (fun i hi => by simp at hi) (fun i hi => by
    rcases h i hi with e | ⟨b, e, h1, h2⟩
    · exact .inl e
    · exact .inr ⟨b, e, h1, by simp; omega⟩)
  rw [List.nil_append] at e
  refine ⟨new, e, hl, fun i hi' => ?_⟩
  have := hi i hi'
  simpa using this
end Go.Proofs.Ytbfjkjkanckcjaa
