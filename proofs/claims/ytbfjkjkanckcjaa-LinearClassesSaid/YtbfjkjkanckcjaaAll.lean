/- The orders of classes, in plain words. -/
import Derived.Test.YtbfjkjkanckcjaaOrd1
namespace Go.Proofs.Ytbfjkjkanckcjaa
open Go.RowKit

/-- P11.3: from the classes that are done on -/
def Lin.allGo : List (List Int) → List (List Int) → Option (List (List Int))
  | done, [] => some done
  | done, b :: bs => if b.all (fun x => decide (0 ≤ x) && decide (x < done.length)) then
      match Lin.order done.length b (b.map fun x => done.getD x.toNat []) with
      | none => none
      | some o => Lin.allGo (done ++ [o]) bs
    else none
def Lin.all (bases : List (List Int)) : Option (List (List Int)) := Lin.allGo [] bases

/-- each order has lesser classes and its own alone, each once -/
def Neat (done : List (List Int)) : Prop := ∀ (i : Nat) (h : i < done.length), done[i].Nodup ∧ ∀ x ∈ done[i], 0 ≤ x ∧ x ≤ i
theorem Neat.nil : Neat [] := fun i h => by simp at h
theorem order_some {x : Int} {bs : List Int} {rows : List (List Int)} {o : List Int} (h : Lin.order x bs rows = some o) : ∃ l, Lin.merge (rows ++ [bs]) = some l ∧ x ∉ l ∧ o = x :: l := by
  unfold Lin.order at h
  cases hm : Lin.merge (rows ++ [bs]) with
  | none => rw [hm] at h; cases h
  | some l =>
    rw [hm] at h
    simp only [] at h
    split at h
    · cases h
    · rename_i hx
      injection h with h
      exact ⟨l, rfl, by simpa using hx, h.symm⟩
theorem nodup_length : ∀ (n : Nat) {l : List Int}, l.Nodup → (∀ x ∈ l, 0 ≤ x ∧ x < n) → l.length ≤ n
  | 0, l, _, hl => by
    cases l with
    | nil => simp
    | cons a t =>
      have := hl a (by simp)
      omega
  | n + 1, l, hn, hl => by
    have h2 := nodup_length n (l := l.erase (n : Int)) (hn.erase _) fun x hx => by
      have h1 := hl x (List.mem_of_mem_erase hx)
      have h3 : x ≠ (n : Int) := fun e => by
        subst e
        exact (hn.not_mem_erase) hx
      omega
    by_cases hm : (n : Int) ∈ l
    · rw [List.length_erase_of_mem hm] at h2
      omega
    · rw [List.erase_of_not_mem hm] at h2
      omega
theorem Neat.length {done : List (List Int)} (h : Neat done) (i : Nat) (hi : i < done.length) : done[i].length ≤ i + 1 :=
  nodup_length (i + 1) (h i hi).1 fun x hx => by have := (h i hi).2 x hx; omega
theorem Neat.snoc {done : List (List Int)} {b o : List Int} (h : Neat done) (hb : b.all (fun x => decide (0 ≤ x) && decide (x < done.length)) = true) (ho : Lin.order done.length b (b.map fun x => done.getD x.toNat []) = some o) : Neat (done ++ [o]) := by
  intro i hi
  by_cases hlt : i < done.length
  · rw [List.getElem_append_left hlt]
    exact h i hlt
  · have e : i = done.length := by simp at hi; omega
    subst e
    have eo : (done ++ [o])[done.length] = o := by simp
    rw [eo]
    obtain ⟨l, hm, hx, rfl⟩ := order_some ho
    have hin : ∀ y ∈ l, 0 ≤ y ∧ y < done.length := by
      intro y hy
      obtain ⟨r, hr, hyr⟩ := Lin.merge_from hm y hy
      rcases List.mem_append.1 hr with hr | hr
      · obtain ⟨z, hz, rfl⟩ := List.mem_map.1 hr
        have hz2 := List.all_eq_true.1 hb z hz
        simp only [Bool.and_eq_true, decide_eq_true_eq] at hz2
        have hzn : z.toNat < done.length := by omega
        rw [List.getD_eq_getElem?_getD, List.getElem?_eq_getElem hzn, Option.getD_some] at hyr
        have := (h z.toNat hzn).2 y hyr
        omega
      · rw [List.mem_singleton] at hr
        subst hr
        have := List.all_eq_true.1 hb y hyr
        simpa using this
    refine ⟨List.nodup_cons.2 ⟨hx, Lin.merge_nodup hm⟩, fun y hy => ?_⟩
    rcases List.mem_cons.1 hy with rfl | hy
    · omega
    · have := hin y hy
      omega
theorem Neat.weight {done : List (List Int)} (h : Neat done) (b : List Int) : Lin.weight (b.map fun x => done.getD x.toNat []) ≤ b.length * (done.length + 1) := by
  induction b with
  | nil => simp [Lin.weight]
  | cons x b ih =>
    simp only [Lin.weight, List.map_cons, List.sum_cons, List.length_cons, Nat.succ_mul] at ih ⊢
    have : (done.getD x.toNat []).length ≤ done.length + 1 := by
      by_cases hz : x.toNat < done.length
      · rw [List.getD_eq_getElem?_getD, List.getElem?_eq_getElem hz, Option.getD_some]
        have := h.length _ hz
        omega
      · rw [List.getD_eq_getElem?_getD, List.getElem?_eq_none (by omega)]
        simp
    omega
end Go.Proofs.Ytbfjkjkanckcjaa
