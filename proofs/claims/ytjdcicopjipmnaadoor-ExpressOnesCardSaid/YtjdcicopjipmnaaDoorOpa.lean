/- Arguments opened: arrays of two and of three numbers. -/
import Derived.Test.YtjdcicopjipmnaaDoorOpn
namespace Go.Proofs.YtjdcicopjipmnaaDoor
open Go.ChangeShapes Go.WideShapes Go.ChangeAt Go.RowKit Go.WideElems Go.Deep
section
variable {H : Type} {enc : TypeId × Value → H} {w : World} {base : Nat} {spare : Nat → Bool} {held : Bool} {r : Reach} {b0 : Nat} {v : Value} {d : DataW H} {p : List MemPlace} {t e : TypeId} {k : IntKind}
set_option maxRecDepth 100000 in
theorem open_arr2 (ht : Tryd.prog.underlying t = some (.array 2 e)) (he : Tryd.prog.underlying e = some (.int k)) (hct : Tryd.prog.cellsOf t = 2) (hce : Tryd.prog.cellsOf e = 1)
    (hv : Value.okWide Tryd.prog w r b0 t v) (h : DataW.Trod enc Tryd.prog w base spare held t v d p) : ∃ a b : Int, v = .agg #[.int k a, .int k b] ∧ (Lit.int k a).wf = true ∧ (Lit.int k b).wf = true := by
  simp only [Value.okWide, ht] at hv
  obtain ⟨cs, rfl, hs, _⟩ := hv
  obtain ⟨fuel, h⟩ := h
  obtain ⟨xs, m, _, _, _, hl, hi⟩ := DataW.trod_array ht h
  obtain ⟨l⟩ := cs
  have h0 := hi 0 (by omega)
  have h1 := hi 1 (by omega)
  rw [hce] at h0 h1
  match xs, hl with
  | [y0, y1], _ =>
    have hs2 : l.length = _ := hs.trans hct
    match l, hs2 with
    | [c0, c1], _ =>
      obtain ⟨a, e0, _, k0⟩ := DataW.trod_int he h0
      obtain ⟨b, e1, _, k1⟩ := DataW.trod_int he h1
      simp [Value.cells] at e0 e1
      exact ⟨a, b, by simp [e0, e1], k0, k1⟩
set_option maxRecDepth 100000 in
theorem open_arr3 (ht : Tryd.prog.underlying t = some (.array 3 e)) (he : Tryd.prog.underlying e = some (.int k)) (hct : Tryd.prog.cellsOf t = 3) (hce : Tryd.prog.cellsOf e = 1)
    (hv : Value.okWide Tryd.prog w r b0 t v) (h : DataW.Trod enc Tryd.prog w base spare held t v d p) : ∃ a b c : Int, v = .agg #[.int k a, .int k b, .int k c] ∧ (Lit.int k a).wf = true ∧ (Lit.int k b).wf = true ∧ (Lit.int k c).wf = true := by
  simp only [Value.okWide, ht] at hv
  obtain ⟨cs, rfl, hs, _⟩ := hv
  obtain ⟨fuel, h⟩ := h
  obtain ⟨xs, m, _, _, _, hl, hi⟩ := DataW.trod_array ht h
  obtain ⟨l⟩ := cs
  have h0 := hi 0 (by omega)
  have h1 := hi 1 (by omega)
  have h2 := hi 2 (by omega)
  rw [hce] at h0 h1 h2
  match xs, hl with
  | [y0, y1, y2], _ =>
    have hs2 : l.length = _ := hs.trans hct
    match l, hs2 with
    | [c0, c1, c2], _ =>
      obtain ⟨a, e0, _, k0⟩ := DataW.trod_int he h0
      obtain ⟨b, e1, _, k1⟩ := DataW.trod_int he h1
      obtain ⟨c, e2, _, k2⟩ := DataW.trod_int he h2
      simp [Value.cells] at e0 e1 e2
      exact ⟨a, b, c, by simp [e0, e1, e2], k0, k1, k2⟩
theorem und45 : Tryd.prog.underlying 45 = some (.array 3 2) := by kernel_rfl
theorem und54 : Tryd.prog.underlying 54 = some (.array 2 2) := by kernel_rfl
theorem und36 : Tryd.prog.underlying 36 = some (.array 2 5) := by kernel_rfl
end
end Go.Proofs.YtjdcicopjipmnaaDoor
