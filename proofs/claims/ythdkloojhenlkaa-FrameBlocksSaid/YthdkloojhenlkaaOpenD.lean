/- A slice of slices of values, opened. -/
import Derived.Test.YthdkloojhenlkaaOpen
import Derived.Test.YthdkloojhenlkaaBlo
namespace Go.Proofs.Ythdkloojhenlkaa
open Go.ChangeShapes Go.WideShapes Go.ChangeAt Go.RowKit Go.WideElems Go.Deep

theorem cells24 : Try.prog.cellsOf 24 = 1 := by kernel_rfl
theorem flat1 {α : Type} (f : α → Value) (xs : List α) : xs.flatMap (fun p => [f p]) = xs.map f := by
  induction xs with
  | nil => rfl
  | cons x xs ih => simpa using ih
theorem open_rows {H : Type} {enc : TypeId × Value → H} {w : World} {base : Nat} {spare : Nat → Bool} {held : Bool} {r : Reach} {b0 : Nat} {v : Value} {d : DataW H} {p : List MemPlace}
    (hv : Value.okWide Try.prog w r b0 42 v) (h : DataW.Trod enc Try.prog w base spare held 42 v d p) : ∃ A n c ls, v = .slice A n c ∧ RdVV w A n c ls := by
  obtain ⟨fuel, h⟩ := h
  obtain ⟨A, n, c, rfl⟩ := okWide_slice Try.underlying42 hv
  obtain ⟨A', n', c', xs, e, hl, hr⟩ := trod_row (α := { p : Option Addr × Nat × Nat × List V // RdV w p.1 p.2.1 p.2.2.1 p.2.2.2 }) (f := fun p => [Value.slice p.1.1 p.1.2.1 p.1.2.2.1]) Try.underlying42 cells24 (by omega)
    (fun {fuel cs x} hx => by
      have hs : ∃ v, cs = [v] := by
        rcases DataW.trod_slice Try.underlying24 hx with ⟨e, _⟩ | ⟨a, len, cap, _, _, _, _, e, _⟩
        · exact ⟨_, e⟩
        · exact ⟨_, e⟩
      obtain ⟨v, rfl⟩ := hs
      obtain ⟨A, n, c, l, rfl, hr⟩ := trod_rowV hx
      exact ⟨⟨(A, n, c, l), hr⟩, rfl⟩) h
  cases e
  rw [flat1] at hr
  refine ⟨A, n, c, xs.map (fun p => p.1.2.2.2), rfl, by simpa using hl, hr.1, hr.2.1, fun i hi => ?_⟩
  have hi' : i < xs.length := by simpa using hi
  obtain ⟨b, o, rfl, hb, hc⟩ := hr.2.2.2 (by omega)
  have hx : (xs.map fun p => Value.slice p.1.1 p.1.2.1 p.1.2.2.1)[i]? = some (Value.slice xs[i].1.1 xs[i].1.2.1 xs[i].1.2.2.1) := by simp [hi']
  exact ⟨b, o, _, _, _, rfl, hb, hc i _ hx, by simpa using xs[i].2⟩
end Go.Proofs.Ythdkloojhenlkaa
