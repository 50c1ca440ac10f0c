/- A program, as the walks read it. -/
import Derived.Test.YtgnejkmojfhfpaaMemB
import Derived.Test.YtgnejkmojfhfpaaVfl
import Derived.Test.YtgnejkmojfhfpaaRows
namespace Go.Proofs.Ytgnejkmojfhfpaa
open Go.RowKit
set_option linter.unusedVariables false
set_option linter.unusedSimpArgs false

def valCs (v : ValD) : List Value := [.int .i64 v.k, .int .i64 v.n, .string v.s]
def insCs (x : Int × Int) : List Value := [.int .i64 x.1, .int .i64 x.2]
theorem flat_at {α : Type} {f : α → List Value} {m : Nat} : ∀ (l : List α) (i j : Nat) (x : α) (u : Value), (∀ y ∈ l, (f y).length = m) → l[i]? = some x → (f x)[j]? = some u → (l.flatMap f)[i * m + j]? = some u
  | [], i, j, x, u, _, h, _ => by simp at h
  | y :: l, 0, j, x, u, _, h, hu => by
    obtain rfl : y = x := by simpa using h
    have hj := (List.getElem?_eq_some_iff.1 hu).1
    rw [List.flatMap_cons, Nat.zero_mul, Nat.zero_add, List.getElem?_append_left hj]
    exact hu
  | y :: l, i + 1, j, x, u, hf, h, hu => by
    have hy := hf y (by simp)
    rw [List.flatMap_cons, List.getElem?_append_right (by rw [hy]; have := Nat.add_one_mul i m; omega), hy]
    have e : (i + 1) * m + j - m = i * m + j := by have := Nat.add_one_mul i m; omega
    rw [e]
    exact flat_at l i j x u (fun z hz => hf z (by simp [hz])) (by simpa using h) hu
/-- a row of things of m cells each -/
def RdF {α : Type} (f : α → List Value) (m : Nat) (w : World) (A : Option Addr) (n c : Nat) (l : List α) : Prop := l.length = n ∧ Rd w A n c m (l.flatMap f)
theorem RdF.new {α : Type} {f : α → List Value} {m : Nat} {w w' : World} {A : Option Addr} {n c : Nat} {l : List α} (h : RdF f m w A n c l) (hb : Below w.heap.size w w') : RdF f m w' A n c l := ⟨h.1, h.2.new hb⟩
theorem RdF.le {α : Type} {f : α → List Value} {m : Nat} {w : World} {A : Option Addr} {n c : Nat} {l : List α} (h : RdF f m w A n c l) : n ≤ 9223372036854775807 := h.2.le
theorem RdF.at_ {α : Type} {f : α → List Value} {m : Nat} (hf : ∀ x, (f x).length = m) {w : World} {A : Option Addr} {n c : Nat} {l : List α} (h : RdF f m w A n c l) {i : Nat} {x : α} (hx : l[i]? = some x) :
    ∃ b o, A = some ⟨b, o, none⟩ ∧ b < w.heap.size ∧ ∀ j u, (f x)[j]? = some u → w.cell? ⟨b, o + (i * m + j), none⟩ = some u := by
  obtain ⟨hl, _, _, _, hc⟩ := h
  obtain ⟨b, o, rfl, hb, hc⟩ := hc (by have := (List.getElem?_eq_some_iff.1 hx).1; omega)
  exact ⟨b, o, rfl, hb, fun j u hu => hc _ _ (flat_at l i j x u (fun y _ => hf y) hx hu)⟩
/-- how much Go's memory holds in one piece -/
abbrev Most : Nat := 140737488351232
/-- a code's cells, and what its slices read as -/
structure CodeAt (w : World) (c : CodeD) (cs : List Value) : Prop where
  parts : ∃ A1 n1 c1 A2 n2 c2 A3 n3 c3 A4 n4 c4 A5 n5 c5 A6 n6 c6,
    cs = [.string c.name, .int .i64 c.kind, .int .i64 c.params, .int .i64 c.defaults, .bool c.gen, .slice A1 n1 c1, .slice A2 n2 c2, .slice A3 n3 c3, .slice A4 n4 c4, .slice A5 n5 c5, .slice A6 n6 c6] ∧
    RdS w A1 n1 c1 c.locals ∧ RdS w A2 n2 c2 c.cells ∧ RdS w A3 n3 c3 c.free ∧ RdS w A4 n4 c4 c.names ∧ RdF valCs 3 w A5 n5 c5 c.consts ∧ RdF insCs 2 w A6 n6 c6 c.ins ∧
    n1 ≤ Most ∧ n2 ≤ Most ∧ n3 ≤ Most ∧ n4 ≤ Most ∧ n5 ≤ Most ∧ n6 * 16 ≤ Most
theorem CodeAt.new {w w' : World} {c : CodeD} {cs : List Value} (h : CodeAt w c cs) (hb : Below w.heap.size w w') : CodeAt w' c cs := by
  obtain ⟨A1, n1, c1, A2, n2, c2, A3, n3, c3, A4, n4, c4, A5, n5, c5, A6, n6, c6, e, h1, h2, h3, h4, h5, h6, h7⟩ := h.parts
  exact ⟨A1, n1, c1, A2, n2, c2, A3, n3, c3, A4, n4, c4, A5, n5, c5, A6, n6, c6, e, h1.new hb, h2.new hb, h3.new hb, h4.new hb, h5.new hb, h6.new hb, h7⟩
/-- a program's slice reads as a program -/
structure ProgAt (w : World) (A : Option Addr) (n c : Nat) (p : ProgD) : Prop where
  len : p.length = n
  codes : ∃ css : List (List Value), css.length = n ∧ (∀ cs ∈ css, cs.length = 11) ∧ (∀ (i : Nat) (x : CodeD) (cs : List Value), p[i]? = some x → css[i]? = some cs → CodeAt w x cs) ∧ Rd w A n c 11 (css.flatMap id)
  most : n ≤ Most
theorem ProgAt.new {w w' : World} {A : Option Addr} {n c : Nat} {p : ProgD} (h : ProgAt w A n c p) (hb : Below w.heap.size w w') : ProgAt w' A n c p := by
  obtain ⟨h1, ⟨css, h2, h3, h4, h5⟩, h6⟩ := h
  exact ⟨h1, ⟨css, h2, h3, fun i x cs hx hc => (h4 i x cs hx hc).new hb, h5.new hb⟩, h6⟩
theorem ProgAt.at_ {w : World} {A : Option Addr} {n c : Nat} {p : ProgD} (h : ProgAt w A n c p) {i : Nat} {x : CodeD} (hx : p[i]? = some x) :
    ∃ b o cs, A = some ⟨b, o, none⟩ ∧ b < w.heap.size ∧ CodeAt w x cs ∧ ∀ j u, cs[j]? = some u → w.cell? ⟨b, o + (i * 11 + j), none⟩ = some u := by
  obtain ⟨h1, ⟨css, h2, h3, h4, _, _, _, hc⟩, _⟩ := h
  have hi : i < n := by have := (List.getElem?_eq_some_iff.1 hx).1; omega
  obtain ⟨b, o, rfl, hb, hc⟩ := hc (by omega)
  have hcs : css[i]? = some css[i] := List.getElem?_eq_getElem (by omega)
  exact ⟨b, o, css[i], rfl, hb, h4 i x _ hx hcs, fun j u hu => hc _ _ (flat_at css i j _ u h3 hcs hu)⟩
theorem ProgAt.le {w : World} {A : Option Addr} {n c : Nat} {p : ProgD} (h : ProgAt w A n c p) : n ≤ Most := h.most
/-- a unit's cells: a program and one of its codes -/
structure UnitAt (w : World) (p : ProgD) (c : CodeD) (us : List Value) : Prop where
  parts : ∃ A n k cs, us = .slice A n k :: cs ∧ ProgAt w A n k p ∧ CodeAt w c cs
theorem UnitAt.new {w w' : World} {p : ProgD} {c : CodeD} {us : List Value} (h : UnitAt w p c us) (hb : Below w.heap.size w w') : UnitAt w' p c us := by
  obtain ⟨A, n, k, cs, e, h1, h2⟩ := h.parts
  exact ⟨A, n, k, cs, e, h1.new hb, h2.new hb⟩
theorem UnitAt.len {w : World} {p : ProgD} {c : CodeD} {us : List Value} (h : UnitAt w p c us) : us.length = 12 := by
  obtain ⟨A, n, k, cs, rfl, h1, h2⟩ := h.parts
  obtain ⟨A1, n1, c1, A2, n2, c2, A3, n3, c3, A4, n4, c4, A5, n5, c5, A6, n6, c6, rfl, _⟩ := h2.parts
  rfl
end Go.Proofs.Ytgnejkmojfhfpaa
