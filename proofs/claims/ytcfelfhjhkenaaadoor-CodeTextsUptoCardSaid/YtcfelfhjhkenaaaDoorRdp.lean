/- A program, as the walks read it. -/
import Derived.Test.YtcfelfhjhkenaaaDoorCgt
namespace Go.Proofs.YtcfelfhjhkenaaaDoor
open Go.RowKit

def valCs (v : ValD) : List Value := [.int .i64 v.k, .int .i64 v.n, .string v.s]
def insCs (x : Int × Int) : List Value := [.int .i64 x.1, .int .i64 x.2]
theorem flat_at {α : Type} {f : α → List Value} {m : Nat} (hf : ∀ x, (f x).length = m) : ∀ (l : List α) (i j : Nat) (x : α) (u : Value), l[i]? = some x → (f x)[j]? = some u → (l.flatMap f)[i * m + j]? = some u
  | [], i, j, x, u, h, _ => by simp at h
  | y :: l, 0, j, x, u, h, hu => by
    obtain rfl : y = x := by simpa using h
    have hj := (List.getElem?_eq_some_iff.1 hu).1
    rw [List.flatMap_cons, Nat.zero_mul, Nat.zero_add, List.getElem?_append_left hj]
    exact hu
  | y :: l, i + 1, j, x, u, h, hu => by
    rw [List.flatMap_cons, List.getElem?_append_right (by rw [hf]; have := Nat.add_one_mul i m; omega), hf]
    have e : (i + 1) * m + j - m = i * m + j := by have := Nat.add_one_mul i m; omega
    rw [e]
    exact flat_at hf l i j x u (by simpa using h) hu
/-- a row of things of m cells each -/
def RdF {α : Type} (f : α → List Value) (m : Nat) (w : World) (A : Option Addr) (n c : Nat) (l : List α) : Prop := l.length = n ∧ Rd w A n c m (l.flatMap f)
theorem RdF.new {α : Type} {f : α → List Value} {m : Nat} {w w' : World} {A : Option Addr} {n c : Nat} {l : List α} (h : RdF f m w A n c l) (hb : Below w.heap.size w w') : RdF f m w' A n c l := ⟨h.1, h.2.new hb⟩
theorem RdF.at_ {α : Type} {f : α → List Value} {m : Nat} (hf : ∀ x, (f x).length = m) {w : World} {A : Option Addr} {n c : Nat} {l : List α} (h : RdF f m w A n c l) {i : Nat} {x : α} (hx : l[i]? = some x) :
    ∃ b o, A = some ⟨b, o, none⟩ ∧ b < w.heap.size ∧ ∀ j u, (f x)[j]? = some u → w.cell? ⟨b, o + (i * m + j), none⟩ = some u := by
  obtain ⟨hl, _, _, _, hc⟩ := h
  obtain ⟨b, o, rfl, hb, hc⟩ := hc (by have := (List.getElem?_eq_some_iff.1 hx).1; omega)
  exact ⟨b, o, rfl, hb, fun j u hu => hc _ _ (flat_at hf l i j x u hx hu)⟩
/-- a code's cells, and what its slices read as -/
structure CodeAt (w : World) (c : CodeD) (cs : List Value) : Prop where
  parts : ∃ A1 n1 c1 A2 n2 c2 A3 n3 c3 A4 n4 c4 A5 n5 c5 A6 n6 c6,
    cs = [.string c.name, .int .i64 c.kind, .int .i64 c.params, .int .i64 c.defaults, .bool c.gen, .slice A1 n1 c1, .slice A2 n2 c2, .slice A3 n3 c3, .slice A4 n4 c4, .slice A5 n5 c5, .slice A6 n6 c6] ∧
    RdS w A1 n1 c1 c.locals ∧ RdS w A2 n2 c2 c.cells ∧ RdS w A3 n3 c3 c.free ∧ RdS w A4 n4 c4 c.names ∧ RdF valCs 3 w A5 n5 c5 c.consts ∧ RdF insCs 2 w A6 n6 c6 c.ins
theorem CodeAt.new {w w' : World} {c : CodeD} {cs : List Value} (h : CodeAt w c cs) (hb : Below w.heap.size w w') : CodeAt w' c cs := by
  obtain ⟨A1, n1, c1, A2, n2, c2, A3, n3, c3, A4, n4, c4, A5, n5, c5, A6, n6, c6, e, h1, h2, h3, h4, h5, h6⟩ := h.parts
  exact ⟨A1, n1, c1, A2, n2, c2, A3, n3, c3, A4, n4, c4, A5, n5, c5, A6, n6, c6, e, h1.new hb, h2.new hb, h3.new hb, h4.new hb, h5.new hb, h6.new hb⟩
end Go.Proofs.YtcfelfhjhkenaaaDoor
