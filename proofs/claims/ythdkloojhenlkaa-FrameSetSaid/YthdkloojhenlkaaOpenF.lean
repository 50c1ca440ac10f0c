/- Three rows of values in an array; a slice of pairs of numbers; opened. -/
import Derived.Test.YthdkloojhenlkaaOpenE
namespace Go.Proofs.Ythdkloojhenlkaa
open Go.ChangeShapes Go.WideShapes Go.ChangeAt Go.RowKit Go.WideElems Go.Deep

theorem cells78 : Try.prog.cellsOf 78 = 3 := by kernel_rfl
theorem cells83 : Try.prog.cellsOf 83 = 2 := by kernel_rfl
section
variable {H : Type} {enc : TypeId × Value → H} {w : World} {base : Nat} {spare : Nat → Bool} {held : Bool}
theorem open_rows3 {r : Reach} {b0 : Nat} {v : Value} {d : DataW H} {p : List MemPlace} (hv : Value.okWide Try.prog w r b0 78 v) (h : DataW.Trod enc Try.prog w base spare held 78 v d p) :
    ∃ A0 n0 c0 l0 A1 n1 c1 l1 A2 n2 c2 l2, v = .agg #[.slice A0 n0 c0, .slice A1 n1 c1, .slice A2 n2 c2] ∧ RdV w A0 n0 c0 l0 ∧ RdV w A1 n1 c1 l1 ∧ RdV w A2 n2 c2 l2 := by
  simp only [Value.okWide, Try.underlying78] at hv
  obtain ⟨cs, rfl, hs, _⟩ := hv
  obtain ⟨fuel, h⟩ := h
  obtain ⟨xs, m, _, _, _, hl, hi⟩ := DataW.trod_array Try.underlying78 h
  obtain ⟨l⟩ := cs
  have h0 := hi 0 (by omega)
  have h1 := hi 1 (by omega)
  have h2 := hi 2 (by omega)
  rw [cellsR] at h0 h1 h2
  match xs, hl with
  | [y0, y1, y2], _ =>
    match l, hs.trans cells78 with
    | [d0, d1, d2], _ =>
      obtain ⟨A0, n0, c0, l0, e0, r0⟩ := trod_rowV (v := d0) h0
      obtain ⟨A1, n1, c1, l1, e1, r1⟩ := trod_rowV (v := d1) h1
      obtain ⟨A2, n2, c2, l2, e2, r2⟩ := trod_rowV (v := d2) h2
      exact ⟨A0, n0, c0, l0, A1, n1, c1, l1, A2, n2, c2, l2, by rw [e0, e1, e2], r0, r1, r2⟩
theorem trod_P {fuel : Nat} {cs : List Value} {x : DataW H × List MemPlace} (h : DataW.trod enc Try.prog w base spare held fuel 83 cs = some x) : ∃ p : Int × Int, cs = [.int .i64 p.1, .int .i64 p.2] := by
  obtain ⟨xs, m, _, _, hcl, hl, hi⟩ := DataW.trod_array Try.underlying83 h
  have h0 := hi 0 (by omega)
  have h1 := hi 1 (by omega)
  rw [cellsI] at h0 h1
  match xs, hl with
  | [y0, y1], _ =>
    match cs, hcl with
    | [c0, c1], _ =>
      obtain ⟨a, e0, _⟩ := DataW.trod_int Try.underlying3 h0
      obtain ⟨b, e1, _⟩ := DataW.trod_int Try.underlying3 h1
      simp at e0 e1
      exact ⟨(a, b), by rw [e0, e1]⟩
theorem open_pairs {r : Reach} {b0 : Nat} {v : Value} {d : DataW H} {p : List MemPlace} (hv : Value.okWide Try.prog w r b0 79 v) (h : DataW.Trod enc Try.prog w base spare held 79 v d p) : ∃ A n c ps, v = .slice A n c ∧ RdK w A n c ps := by
  obtain ⟨fuel, h⟩ := h
  obtain ⟨A, n, c, rfl⟩ := okWide_slice Try.underlying79 hv
  obtain ⟨A', n', c', xs, e, hl, hr⟩ := trod_row (α := Int × Int) (f := fun p => [.int .i64 p.1, .int .i64 p.2]) Try.underlying79 cells83 (by omega) trod_P h
  cases e
  exact ⟨A, n, c, xs, rfl, hl, hr⟩
end
end Go.Proofs.Ythdkloojhenlkaa
