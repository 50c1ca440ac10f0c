/- A program, opened; two rows of values in an array. -/
import Derived.Test.YthdkloojhenlkaaOpenE
import Derived.Test.YthdkloojhenlkaaCod
namespace Go.Proofs.Ythdkloojhenlkaa
open Go.ChangeShapes Go.WideShapes Go.ChangeAt Go.RowKit Go.WideElems Go.Deep

theorem cells25 : Try.prog.cellsOf 25 = 2 := by kernel_rfl
theorem cells31 : Try.prog.cellsOf 31 = 11 := by kernel_rfl
theorem cells28 : Try.prog.cellsOf 28 = 1 := by kernel_rfl
theorem cells29 : Try.prog.cellsOf 29 = 1 := by kernel_rfl
theorem cells4 : Try.prog.cellsOf 4 = 1 := by kernel_rfl
theorem flatS (xs : List ByteArray) : xs.flatMap (fun s => [Value.string s]) = scs xs := by
  induction xs with
  | nil => rfl
  | cons x xs ih => simp only [List.flatMap_cons, ih]; rfl
section
variable {H : Type} {enc : TypeId × Value → H} {w : World} {base : Nat} {spare : Nat → Bool} {held : Bool}
theorem trod_str {fuel : Nat} {cs : List Value} {x : DataW H × List MemPlace} (h : DataW.trod enc Try.prog w base spare held fuel 9 cs = some x) : ∃ s : ByteArray, cs = [Value.string s] := by
  obtain ⟨s, e, _⟩ := DataW.trod_string Try.underlying9 h
  exact ⟨s, e⟩
theorem trod_rowS {fuel : Nat} {v : Value} {x : DataW H × List MemPlace} (h : DataW.trod enc Try.prog w base spare held fuel 28 [v] = some x) : ∃ A n c xs, v = .slice A n c ∧ RdS w A n c xs := by
  obtain ⟨A, n, c, xs, h1, h2, h3⟩ := trod_row (f := fun s => [Value.string s]) Try.underlying28 cellsS (by omega) trod_str h
  rw [flatS] at h3
  exact ⟨A, n, c, xs, h1, h2, h3⟩
theorem trod_slc {t e : TypeId} (ht : Try.prog.underlying t = some (.slice e)) {fuel : Nat} {cs : List Value} {x : DataW H × List MemPlace} (h : DataW.trod enc Try.prog w base spare held fuel t cs = some x) : ∃ A n c, cs = [Value.slice A n c] := by
  rcases DataW.trod_slice ht h with ⟨e, _⟩ | ⟨a, len, cap, _, _, _, _, e, _⟩
  · exact ⟨_, _, _, e⟩
  · exact ⟨_, _, _, e⟩
theorem trod_code {fuel : Nat} {cs : List Value} {x : DataW H × List MemPlace} (h : DataW.trod enc Try.prog w base spare held fuel 31 cs = some x) : ∃ q : { q : CodeV // q.Ok w }, cs = q.1.cs := by
  obtain ⟨xs, n, _, _, hl, hx, hf⟩ := DataW.trod_struct Try.underlying31 h
  rw [cells31] at hl
  match cs, hl with
  | [d0, d1, d2, d3, d4, d5, d6, d7, d8, d9, d10], _ =>
    have h0 : DataW.trod enc Try.prog w base spare held n 9 (([d0, d1, d2, d3, d4, d5, d6, d7, d8, d9, d10].drop 0).take (Try.prog.cellsOf 9)) = xs[0]? := hf 0 _ rfl
    have h1 : DataW.trod enc Try.prog w base spare held n 3 (([d0, d1, d2, d3, d4, d5, d6, d7, d8, d9, d10].drop 1).take (Try.prog.cellsOf 3)) = xs[1]? := hf 1 _ rfl
    have h2 : DataW.trod enc Try.prog w base spare held n 3 (([d0, d1, d2, d3, d4, d5, d6, d7, d8, d9, d10].drop 2).take (Try.prog.cellsOf 3)) = xs[2]? := hf 2 _ rfl
    have h3 : DataW.trod enc Try.prog w base spare held n 3 (([d0, d1, d2, d3, d4, d5, d6, d7, d8, d9, d10].drop 3).take (Try.prog.cellsOf 3)) = xs[3]? := hf 3 _ rfl
    have h4 : DataW.trod enc Try.prog w base spare held n 4 (([d0, d1, d2, d3, d4, d5, d6, d7, d8, d9, d10].drop 4).take (Try.prog.cellsOf 4)) = xs[4]? := hf 4 _ rfl
    have h5 : DataW.trod enc Try.prog w base spare held n 28 (([d0, d1, d2, d3, d4, d5, d6, d7, d8, d9, d10].drop 5).take (Try.prog.cellsOf 28)) = xs[5]? := hf 5 _ rfl
    have h6 : DataW.trod enc Try.prog w base spare held n 28 (([d0, d1, d2, d3, d4, d5, d6, d7, d8, d9, d10].drop 6).take (Try.prog.cellsOf 28)) = xs[6]? := hf 6 _ rfl
    have h7 : DataW.trod enc Try.prog w base spare held n 28 (([d0, d1, d2, d3, d4, d5, d6, d7, d8, d9, d10].drop 7).take (Try.prog.cellsOf 28)) = xs[7]? := hf 7 _ rfl
    have h8 : DataW.trod enc Try.prog w base spare held n 28 (([d0, d1, d2, d3, d4, d5, d6, d7, d8, d9, d10].drop 8).take (Try.prog.cellsOf 28)) = xs[8]? := hf 8 _ rfl
    have h9 : DataW.trod enc Try.prog w base spare held n 24 (([d0, d1, d2, d3, d4, d5, d6, d7, d8, d9, d10].drop 9).take (Try.prog.cellsOf 24)) = xs[9]? := hf 9 _ rfl
    have h10 : DataW.trod enc Try.prog w base spare held n 29 (([d0, d1, d2, d3, d4, d5, d6, d7, d8, d9, d10].drop 10).take (Try.prog.cellsOf 29)) = xs[10]? := hf 10 _ rfl
    rw [cellsS] at h0
    rw [cellsI] at h1 h2 h3
    rw [cells4] at h4
    rw [cells28] at h5 h6 h7 h8
    rw [cellsR] at h9
    rw [cells29] at h10
    have e : xs.length = 11 := by assumption
    match xs, e with
    | [y0, y1, y2, y3, y4, y5, y6, y7, y8, y9, y10], _ =>
      obtain ⟨s, e0, _⟩ := DataW.trod_string Try.underlying9 h0
      obtain ⟨a1, e1, _⟩ := DataW.trod_int Try.underlying3 h1
      obtain ⟨a2, e2, _⟩ := DataW.trod_int Try.underlying3 h2
      obtain ⟨a3, e3, _⟩ := DataW.trod_int Try.underlying3 h3
      obtain ⟨b4, e4, _⟩ := DataW.trod_bool Try.underlying4 h4
      obtain ⟨A5, n5, c5, l5, e5, r5⟩ := trod_rowS (v := d5) h5
      obtain ⟨A6, n6, c6, l6, e6, r6⟩ := trod_rowS (v := d6) h6
      obtain ⟨A7, n7, c7, l7, e7, r7⟩ := trod_rowS (v := d7) h7
      obtain ⟨A8, n8, c8, l8, e8, r8⟩ := trod_rowS (v := d8) h8
      obtain ⟨A9, n9, c9, e9⟩ := trod_slc Try.underlying24 h9
      obtain ⟨A10, n10, c10, e10⟩ := trod_slc Try.underlying29 h10
      simp at e0 e1 e2 e3 e4 e9 e10
      exact ⟨⟨⟨s, a1, a2, a3, b4, A5, n5, c5, l5, A6, n6, c6, l6, A7, n7, c7, A8, n8, c8, A9, n9, c9, A10, n10, c10⟩, r5, r6, r7.2.1, r7.2.2.1⟩, by rw [e0, e1, e2, e3, e4, e5, e6, e7, e8, e9, e10]; rfl⟩
theorem open_prog {r : Reach} {b0 : Nat} {v : Value} {d : DataW H} {p : List MemPlace} (hv : Value.okWide Try.prog w r b0 23 v) (h : DataW.Trod enc Try.prog w base spare held 23 v d p) : ∃ A n c ps, v = .slice A n c ∧ RdP w A n c ps ∧ ∀ q ∈ ps, CodeV.Ok w q := by
  obtain ⟨fuel, h⟩ := h
  obtain ⟨A, n, c, rfl⟩ := okWide_slice Try.underlying23 hv
  obtain ⟨A', n', c', xs, e, hl, hr⟩ := trod_row (α := { q : CodeV // q.Ok w }) (f := fun q => q.1.cs) Try.underlying23 cells31 (by omega) trod_code h
  cases e
  refine ⟨A, n, c, xs.map (·.1), rfl, ⟨by simpa using hl, ?_⟩, fun q hq => ?_⟩
  · unfold pcs
    rw [List.flatMap_map]
    exact hr
  · obtain ⟨x, _, rfl⟩ := List.mem_map.1 hq
    exact x.2
theorem open_rows2 {r : Reach} {b0 : Nat} {v : Value} {d : DataW H} {p : List MemPlace} (hv : Value.okWide Try.prog w r b0 25 v) (h : DataW.Trod enc Try.prog w base spare held 25 v d p) :
    ∃ A0 n0 c0 l0 A1 n1 c1 l1, v = .agg #[.slice A0 n0 c0, .slice A1 n1 c1] ∧ RdV w A0 n0 c0 l0 ∧ RdV w A1 n1 c1 l1 := by
  simp only [Value.okWide, Try.underlying25] at hv
  obtain ⟨cs, rfl, hs, _⟩ := hv
  obtain ⟨fuel, h⟩ := h
  obtain ⟨xs, m, _, _, _, hl, hi⟩ := DataW.trod_array Try.underlying25 h
  obtain ⟨l⟩ := cs
  have h0 := hi 0 (by omega)
  have h1 := hi 1 (by omega)
  rw [cellsR] at h0 h1
  match xs, hl with
  | [y0, y1], _ =>
    match l, hs.trans cells25 with
    | [d0, d1], _ =>
      obtain ⟨A0, n0, c0, l0, e0, r0⟩ := trod_rowV (v := d0) h0
      obtain ⟨A1, n1, c1, l1, e1, r1⟩ := trod_rowV (v := d1) h1
      exact ⟨A0, n0, c0, l0, A1, n1, c1, l1, by rw [e0, e1], r0, r1⟩
end
end Go.Proofs.Ythdkloojhenlkaa
