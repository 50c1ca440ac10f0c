/- Pairs as the reference keeps them: six cells each. -/
import Derived.Test.YtfdihmbmlhlkgaaNew
namespace Go.Proofs.Ytfdihmbmlhlkgaa
open Go.RowKit

def pairCs (p : V × V) : List Value := [.int .i64 p.1.k, .int .i64 p.1.n, .string p.1.s, .int .i64 p.2.k, .int .i64 p.2.n, .string p.2.s]
def pcs (L : List (V × V)) : List Value := L.flatMap pairCs
theorem pairCs_length (p : V × V) : (pairCs p).length = 6 := rfl
theorem pcs_cons (p : V × V) (L : List (V × V)) : pcs (p :: L) = pairCs p ++ pcs L := by simp [pcs]
theorem pcs_append (a b : List (V × V)) : pcs (a ++ b) = pcs a ++ pcs b := by simp [pcs]
theorem pcs_length (L : List (V × V)) : (pcs L).length = L.length * 6 := by
  induction L with
  | nil => rfl
  | cons r rs ih => rw [pcs_cons, List.length_append, pairCs_length, ih, List.length_cons]; omega
theorem pcs_at (L : List (V × V)) (i : Nat) (r : V × V) (h : L[i]? = some r) (j : Nat) (hj : j < 6) : (pcs L)[i * 6 + j]? = (pairCs r)[j]? := by
  induction L generalizing i with
  | nil => simp at h
  | cons x xs ih =>
    rw [pcs_cons]
    cases i with
    | zero =>
      simp only [List.getElem?_cons_zero, Option.some.injEq] at h
      subst h
      rw [List.getElem?_append_left (by rw [pairCs_length]; omega)]
      congr 1; omega
    | succ i =>
      rw [List.getElem?_append_right (by rw [pairCs_length]; omega), pairCs_length, ← ih i (by simpa using h)]
      congr 1; omega
theorem pcs_oneCell (L : List (V × V)) : ∀ u ∈ pcs L, u.oneCell' = true := by
  intro u hu
  simp only [pcs, List.mem_flatMap] at hu
  obtain ⟨r, _, hr⟩ := hu
  simp only [pairCs, List.mem_cons, List.not_mem_nil, or_false] at hr
  rcases hr with rfl | rfl | rfl | rfl | rfl | rfl <;> rfl
/-- The reference's dict: a struct with one slice. -/
def IsRef (w : World) (S : Nat → Prop) (y : Nat) (L : List (V × V)) : Prop :=
  ∃ v, Blk w y 53 #[v] ∧ Own w 42 6 v L.length (pcs L) ∧ S y ∧ (∀ b, v.ownBlock = some b → S b) ∧ (∀ i, S i → i < w.heap.size)
theorem IsRef.mod {w w' : World} {S T : Nat → Prop} {y : Nat} {L : List (V × V)} (h : IsRef w S y L) (hm : Mod T w w') (hT : ∀ b, S b → ¬ T b) : IsRef w' S y L := by
  obtain ⟨v, h1, h2, h3, h4, h5⟩ := h
  exact ⟨v, h1.mod hm (hT _ h3), h2.mod hm (fun b e => hT _ (h4 b e)), h3, h4, fun i hi => Nat.lt_of_lt_of_le (h5 i hi) hm.size⟩
theorem IsRef.new {w w' : World} {S : Nat → Prop} {y : Nat} {L : List (V × V)} (h : IsRef w S y L) (hb : Below w.heap.size w w') : IsRef w' S y L := h.mod (T := fun _ => False) (Mod.new hb) (fun _ _ => id)
end Go.Proofs.Ytfdihmbmlhlkgaa
