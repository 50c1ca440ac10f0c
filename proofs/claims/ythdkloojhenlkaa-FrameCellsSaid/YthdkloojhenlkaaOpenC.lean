/- Two small numbers in an array, opened. -/
import Derived.Test.YthdkloojhenlkaaOpen
namespace Go.Proofs.Ythdkloojhenlkaa
open Go.ChangeShapes Go.WideShapes Go.ChangeAt Go.RowKit Go.WideElems Go.Deep

theorem cells57 : Try.prog.cellsOf 57 = 2 := by kernel_rfl
theorem cells56 : Try.prog.cellsOf 56 = 1 := by kernel_rfl
theorem open_i82 {H : Type} {enc : TypeId × Value → H} {w : World} {base : Nat} {spare : Nat → Bool} {held : Bool} {r : Reach} {b0 : Nat} {v : Value} {d : DataW H} {p : List MemPlace}
    (hv : Value.okWide Try.prog w r b0 57 v) (h : DataW.Trod enc Try.prog w base spare held 57 v d p) : ∃ x y : Int, v = .agg #[.int .i8 x, .int .i8 y] ∧ (-128 ≤ x ∧ x ≤ 127) ∧ (-128 ≤ y ∧ y ≤ 127) := by
  simp only [Value.okWide, Try.underlying57] at hv
  obtain ⟨cs, rfl, hs, _⟩ := hv
  obtain ⟨fuel, h⟩ := h
  obtain ⟨xs, m, _, _, _, hl, hi⟩ := DataW.trod_array Try.underlying57 h
  obtain ⟨l⟩ := cs
  have h0 := hi 0 (by omega)
  have h1 := hi 1 (by omega)
  rw [cells56] at h0 h1
  match xs, hl with
  | [y0, y1], _ =>
    match l, hs.trans cells57 with
    | [c0, c1], _ =>
      obtain ⟨x, e0, _, w0⟩ := DataW.trod_int Try.underlying56 h0
      obtain ⟨y, e1, _, w1⟩ := DataW.trod_int Try.underlying56 h1
      simp [Value.cells] at e0 e1
      simp [Lit.wf, IntKind.min, IntKind.max, IntKind.signed, IntKind.bits] at w0 w1
      exact ⟨x, y, by simp [e0, e1], by omega, by omega⟩
end Go.Proofs.Ythdkloojhenlkaa
