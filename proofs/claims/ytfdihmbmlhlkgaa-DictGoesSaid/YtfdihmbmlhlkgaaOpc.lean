/- Arguments opened: values, two of them, calls, with what memory says of their sizes. -/
import Derived.Test.YtfdihmbmlhlkgaaOpen
import Derived.Test.YtfdihmbmlhlkgaaMad
namespace Go.Proofs.Ytfdihmbmlhlkgaa
open Go.ChangeShapes Go.WideShapes Go.ChangeAt Go.RowKit Go.WideElems Go.Deep

theorem cellsC : Try.prog.cellsOf 48 = 8 := by kernel_rfl
theorem cellsB : Try.prog.cellsOf 4 = 1 := by kernel_rfl
theorem cells25 : Try.prog.cellsOf 25 = 6 := by kernel_rfl
section
variable {H : Type} {enc : TypeId × Value → H} {w : World} {base : Nat} {spare : Nat → Bool} {held : Bool}
theorem trod_VOk {fuel : Nat} {cs : List Value} {x : DataW H × List MemPlace} (h : DataW.trod enc Try.prog w base spare held fuel 24 cs = some x) : ∃ v : V, cs = v.cs ∧ v.Ok := by
  obtain ⟨xs, n, _, _, hl, _, hf⟩ := DataW.trod_struct Try.underlying24 h
  rw [cellsV] at hl
  match cs, hl with
  | [c0, c1, c2], _ =>
    have h0 : DataW.trod enc Try.prog w base spare held n 3 (([c0, c1, c2].drop 0).take (Try.prog.cellsOf 3)) = xs[0]? := hf 0 _ rfl
    have h1 : DataW.trod enc Try.prog w base spare held n 2 (([c0, c1, c2].drop 1).take (Try.prog.cellsOf 2)) = xs[1]? := hf 1 _ rfl
    have h2 : DataW.trod enc Try.prog w base spare held n 9 (([c0, c1, c2].drop 2).take (Try.prog.cellsOf 9)) = xs[2]? := hf 2 _ rfl
    rw [cellsI] at h0
    rw [cellsI64] at h1
    rw [cellsS] at h2
    have e : xs.length = 3 := by assumption
    match xs, e with
    | [y0, y1, y2], _ =>
      obtain ⟨a, e0, _, k0⟩ := DataW.trod_int Try.underlying3 h0
      obtain ⟨b, e1, _, k1⟩ := DataW.trod_int Try.underlying2 h1
      obtain ⟨c, e2, _, k2⟩ := DataW.trod_string Try.underlying9 h2
      simp at e0 e1 e2
      exact ⟨⟨a, b, c⟩, by rw [e0, e1, e2]; rfl, k0, k1, k2⟩
theorem open_VOk {r : Reach} {b0 : Nat} {v : Value} {d : DataW H} {p : List MemPlace} (hv : Value.okWide Try.prog w r b0 24 v) (h : DataW.Trod enc Try.prog w base spare held 24 v d p) : ∃ x : V, v = .agg #[.int .i64 x.k, .int .i64 x.n, .string x.s] ∧ x.Ok := by
  obtain ⟨cs, rfl, _⟩ := okWide_struct Try.underlying24 hv
  obtain ⟨fuel, h⟩ := h
  obtain ⟨x, e, hk⟩ := trod_VOk h
  obtain ⟨l⟩ := cs
  simp [Value.cells, V.cs] at e
  exact ⟨x, by rw [e], hk⟩
theorem open_V2Ok {r : Reach} {b0 : Nat} {v : Value} {d : DataW H} {p : List MemPlace}
    (hv : Value.okWide Try.prog w r b0 25 v) (h : DataW.Trod enc Try.prog w base spare held 25 v d p) : ∃ x y : V, v = .agg #[.int .i64 x.k, .int .i64 x.n, .string x.s, .int .i64 y.k, .int .i64 y.n, .string y.s] ∧ x.Ok ∧ y.Ok := by
  simp only [Value.okWide, Try.underlying25] at hv
  obtain ⟨cs, rfl, hs, _⟩ := hv
  obtain ⟨fuel, h⟩ := h
  obtain ⟨xs, m, _, _, _, hl, hi⟩ := DataW.trod_array Try.underlying25 h
  obtain ⟨l⟩ := cs
  have h0 := hi 0 (by omega)
  have h1 := hi 1 (by omega)
  rw [cellsV] at h0 h1
  match xs, hl with
  | [y0, y1], _ =>
    match l, hs.trans cells25 with
    | [c0, c1, c2, c3, c4, c5], _ =>
      obtain ⟨x, e0, hx⟩ := trod_VOk h0
      obtain ⟨y, e1, hy⟩ := trod_VOk h1
      simp [Value.cells, V.cs] at e0 e1
      exact ⟨x, y, by simp [e0, e1], hx, hy⟩
theorem trod_C {fuel : Nat} {cs : List Value} {x : DataW H × List MemPlace} (h : DataW.trod enc Try.prog w base spare held fuel 48 cs = some x) : ∃ v : { c : CallD // c.k.Ok }, cs = v.1.cs := by
  obtain ⟨xs, n, _, _, hl, _, hf⟩ := DataW.trod_struct Try.underlying48 h
  rw [cellsC] at hl
  match cs, hl with
  | [c0, c1, c2, c3, c4, c5, c6, c7], _ =>
    have h0 : DataW.trod enc Try.prog w base spare held n 3 (([c0, c1, c2, c3, c4, c5, c6, c7].drop 0).take (Try.prog.cellsOf 3)) = xs[0]? := hf 0 _ rfl
    have h1 : DataW.trod enc Try.prog w base spare held n 24 (([c0, c1, c2, c3, c4, c5, c6, c7].drop 1).take (Try.prog.cellsOf 24)) = xs[1]? := hf 1 _ rfl
    have h2 : DataW.trod enc Try.prog w base spare held n 24 (([c0, c1, c2, c3, c4, c5, c6, c7].drop 4).take (Try.prog.cellsOf 24)) = xs[2]? := hf 2 _ rfl
    have h3 : DataW.trod enc Try.prog w base spare held n 4 (([c0, c1, c2, c3, c4, c5, c6, c7].drop 7).take (Try.prog.cellsOf 4)) = xs[3]? := hf 3 _ rfl
    rw [cellsI] at h0
    rw [cellsV] at h1 h2
    rw [cellsB] at h3
    have e : xs.length = 4 := by assumption
    match xs, e with
    | [y0, y1, y2, y3], _ =>
      obtain ⟨a, e0, _, _⟩ := DataW.trod_int Try.underlying3 h0
      obtain ⟨k, e1, hk⟩ := trod_VOk h1
      obtain ⟨x, e2, _⟩ := trod_VOk h2
      obtain ⟨b, e3, _⟩ := DataW.trod_bool Try.underlying4 h3
      simp [V.cs] at e0 e1 e2 e3
      obtain ⟨r1, r2, r3⟩ := e1
      obtain ⟨r4, r5, r6⟩ := e2
      exact ⟨⟨⟨a, k, x, b⟩, hk⟩, by rw [e0, r1, r2, r3, r4, r5, r6, e3]; rfl⟩
theorem open_calls {r : Reach} {b0 : Nat} {v : Value} {d : DataW H} {p : List MemPlace} (hv : Value.okWide Try.prog w r b0 22 v) (h : DataW.Trod enc Try.prog w base spare held 22 v d p) : ∃ A n c cs, v = .slice A n c ∧ RdC w A n c cs := by
  obtain ⟨fuel, h⟩ := h
  obtain ⟨A, n, c, rfl⟩ := okWide_slice Try.underlying22 hv
  obtain ⟨A', n', c', xs, e, hl, hr⟩ := trod_row (α := { c : CallD // c.k.Ok }) (f := fun v => v.1.cs) Try.underlying22 cellsC (by omega) trod_C h
  cases e
  refine ⟨A, n, c, xs.map Subtype.val, rfl, by simpa using hl, ?_, fun x hx => ?_⟩
  · unfold ccs
    rw [List.flatMap_map]
    exact hr
  · obtain ⟨y, _, rfl⟩ := List.mem_map.1 hx
    exact y.2
end
end Go.Proofs.Ytfdihmbmlhlkgaa
