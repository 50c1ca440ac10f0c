/- More arguments opened: two values in an array. -/
import Derived.Test.YthdkloojhenlkaaOpen
namespace Go.Proofs.Ythdkloojhenlkaa
open Go.ChangeShapes Go.WideShapes Go.ChangeAt Go.RowKit Go.WideElems Go.Deep

theorem cells68b : Try.prog.cellsOf 68 = 6 := by kernel_rfl
theorem open_V2 {H : Type} {enc : TypeId × Value → H} {w : World} {base : Nat} {spare : Nat → Bool} {held : Bool} {r : Reach} {b0 : Nat} {v : Value} {d : DataW H} {p : List MemPlace}
    (hv : Value.okWide Try.prog w r b0 68 v) (h : DataW.Trod enc Try.prog w base spare held 68 v d p) : ∃ x y : V, v = .agg #[.int .i64 x.k, .int .i64 x.n, .string x.s, .int .i64 y.k, .int .i64 y.n, .string y.s] := by
  simp only [Value.okWide, Try.underlying68] at hv
  obtain ⟨cs, rfl, hs, _⟩ := hv
  obtain ⟨fuel, h⟩ := h
  obtain ⟨xs, m, _, _, _, hl, hi⟩ := DataW.trod_array Try.underlying68 h
  obtain ⟨l⟩ := cs
  have h0 := hi 0 (by omega)
  have h1 := hi 1 (by omega)
  rw [cellsV] at h0 h1
  match xs, hl with
  | [y0, y1], _ =>
    match l, hs.trans cells68b with
    | [c0, c1, c2, c3, c4, c5], _ =>
      obtain ⟨x, e0⟩ := trod_V h0
      obtain ⟨y, e1⟩ := trod_V h1
      simp [Value.cells, V.cs] at e0 e1
      exact ⟨x, y, by simp [e0, e1]⟩
end Go.Proofs.Ythdkloojhenlkaa
