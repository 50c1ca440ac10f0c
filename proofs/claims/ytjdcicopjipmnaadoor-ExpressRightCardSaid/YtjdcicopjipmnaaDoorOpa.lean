/- Arguments opened: arrays of two and of three numbers. -/
import Derived.Test.YtjdcicopjipmnaaDoorOpn
import Derived.OpenShut
namespace Go.Proofs.YtjdcicopjipmnaaDoor
open Go.ChangeShapes Go.WideShapes Go.ChangeAt Go.RowKit Go.WideElems Go.Deep
section
variable {H : Type} {enc : TypeId × Value → H} {w : World} {base : Nat} {spare : Nat → Bool} {held : Bool} {r : Reach} {b0 : Nat} {v : Value} {d : DataW H} {p : List MemPlace} {t e : TypeId} {k : IntKind}
set_option maxRecDepth 100000 in
theorem open_arr2 (ht : Tryd.prog.underlying t = some (.array 2 e)) (he : Tryd.prog.underlying e = some (.int k)) (hct : Tryd.prog.cellsOf t = 2) (hce : Tryd.prog.cellsOf e = 1)
    (hv : Value.okWide Tryd.prog w r b0 t v) (h : DataW.Trod enc Tryd.prog w base spare held t v d p) : ∃ a b : Int, v = .agg #[.int k a, .int k b] ∧ (Lit.int k a).wf = true ∧ (Lit.int k b).wf = true := by
  simp only [Value.okWide, ht] at hv
  obtain ⟨cs, rfl, hs, _⟩ := hv
  obtain ⟨fuel, h⟩ := h
  obtain ⟨xs, m, _, _, _, hl, hi⟩ := DataW.trod_array ht h
  obtain ⟨l⟩ := cs
  have h0 := hi 0 (by omega)
  have h1 := hi 1 (by omega)
  rw [hce] at h0 h1
  match xs, hl with
  | [y0, y1], _ =>
    have hs2 : l.length = _ := hs.trans hct
    match l, hs2 with
    | [c0, c1], _ =>
      obtain ⟨a, e0, _, k0⟩ := DataW.trod_int he h0
      obtain ⟨b, e1, _, k1⟩ := DataW.trod_int he h1
      simp [Value.cells] at e0 e1
      exact ⟨a, b, by simp [e0, e1], k0, k1⟩
set_option maxRecDepth 100000 in
theorem open_arr3 (ht : Tryd.prog.underlying t = some (.array 3 e)) (he : Tryd.prog.underlying e = some (.int k)) (hct : Tryd.prog.cellsOf t = 3) (hce : Tryd.prog.cellsOf e = 1)
    (hv : Value.okWide Tryd.prog w r b0 t v) (h : DataW.Trod enc Tryd.prog w base spare held t v d p) : ∃ a b c : Int, v = .agg #[.int k a, .int k b, .int k c] ∧ (Lit.int k a).wf = true ∧ (Lit.int k b).wf = true ∧ (Lit.int k c).wf = true := by
  simp only [Value.okWide, ht] at hv
  obtain ⟨cs, rfl, hs, _⟩ := hv
  obtain ⟨fuel, h⟩ := h
  obtain ⟨xs, m, _, _, _, hl, hi⟩ := DataW.trod_array ht h
  obtain ⟨l⟩ := cs
  have h0 := hi 0 (by omega)
  have h1 := hi 1 (by omega)
  have h2 := hi 2 (by omega)
  rw [hce] at h0 h1 h2
  match xs, hl with
  | [y0, y1, y2], _ =>
    have hs2 : l.length = _ := hs.trans hct
    match l, hs2 with
    | [c0, c1, c2], _ =>
      obtain ⟨a, e0, _, k0⟩ := DataW.trod_int he h0
      obtain ⟨b, e1, _, k1⟩ := DataW.trod_int he h1
      obtain ⟨c, e2, _, k2⟩ := DataW.trod_int he h2
      simp [Value.cells] at e0 e1 e2
      exact ⟨a, b, c, by simp [e0, e1, e2], k0, k1, k2⟩
theorem und45 : Tryd.prog.underlying 45 = some (.array 3 2) := by kernel_rfl
theorem und54 : Tryd.prog.underlying 54 = some (.array 2 2) := by kernel_rfl
theorem und36 : Tryd.prog.underlying 36 = some (.array 2 5) := by kernel_rfl
theorem cell_ltT {w : World} {b o : Nat} {v : Value} (h : w.cell? ⟨b, o, none⟩ = some v) : b < w.heap.size := by
  unfold World.cell? at h
  split at h
  · rename_i hh
    exact (Array.getElem?_eq_some_iff.1 hh).1
  · cases h
/-- a slice of elements of sz cells each, that each read as cells that f gives, reads as a row -/
theorem trod_rowT {e t : TypeId} {sz : Nat} {α : Type} {f : α → List Value} (ht : Tryd.prog.underlying t = some (.slice e)) (hsz : Tryd.prog.cellsOf e = sz) (hpos : 0 < sz)
    (hrd : ∀ {fuel : Nat} {cs : List Value} {x : DataW H × List MemPlace}, DataW.trod enc Tryd.prog w base spare held fuel e cs = some x → ∃ v : α, cs = f v)
    {fuel : Nat} {v : Value} {x : DataW H × List MemPlace} (h : DataW.trod enc Tryd.prog w base spare held fuel t [v] = some x) :
    ∃ (A : Option Addr) (n c : Nat) (xs : List α), v = .slice A n c ∧ xs.length = n ∧ Rd w A n c sz (xs.flatMap f) := by
  rcases open_slice ht h with ⟨e1, _⟩ | ⟨a, len, cap, m, n, D, Pl, e1, _, hl, hm, hmm, _, hi⟩
  · injection e1 with e1
    exact ⟨none, 0, 0, [], e1, rfl, Rd.nil_.2 (by omega)⟩
  · injection e1 with e1
    have hlm : len ≤ m := by rw [hmm]; split <;> omega
    have hex : ∀ i, i < len → ∃ u : α, (f u).length = sz ∧ ∀ j, j < sz → w.cell? (a.add (i * sz + j)) = (f u)[j]? := by
      intro i hi'
      obtain ⟨cs', hc, hy⟩ := hi i (by omega)
      rw [hsz] at hc
      obtain ⟨_, hcl, hat⟩ := World.cells?_some hc
      obtain ⟨u, rfl⟩ := hrd hy
      refine ⟨u, hcl, fun j hj => ?_⟩
      rw [← Go.Deep.add_add, hat j hj]
    have hxs : ∀ k, k ≤ len → ∃ xs : List α, xs.length = k ∧ (xs.flatMap f).length = k * sz ∧ ∀ j, j < k * sz → w.cell? (a.add j) = (xs.flatMap f)[j]? := by
      intro k
      induction k with
      | zero => exact fun _ => ⟨[], rfl, by simp, fun j hj => by simp at hj⟩
      | succ k ih =>
        intro hk
        obtain ⟨xs, h1, h2, h3⟩ := ih (by omega)
        obtain ⟨u, h4, h5⟩ := hex k (by omega)
        refine ⟨xs ++ [u], by simp [h1], by simp [h2, h4, Nat.succ_mul], fun j hj => ?_⟩
        rw [List.flatMap_append]
        by_cases hjk : j < k * sz
        · rw [h3 j hjk, List.getElem?_append_left (by omega)]
        · have h6 := h5 (j - k * sz) (by rw [Nat.succ_mul] at hj; omega)
          rw [show k * sz + (j - k * sz) = j from by omega] at h6
          rw [h6, List.getElem?_append_right (by omega), h2]
          simp
    obtain ⟨xs, h1, h2, h3⟩ := hxs len (Nat.le_refl _)
    refine ⟨some a, len, cap, xs, e1, h1, hl, by simpa [maxLen] using hm, h2, fun hn => ?_⟩
    have hall : ∀ j u, (xs.flatMap f)[j]? = some u → w.cell? (a.add j) = some u := by
      intro j u hu
      have hj : j < len * sz := by rw [← h2]; exact (List.getElem?_eq_some_iff.1 hu).1
      rw [h3 j hj, hu]
    have h0 : (xs.flatMap f)[0]? = some ((xs.flatMap f)[0]'(by rw [h2]; exact Nat.mul_pos hn hpos)) := List.getElem?_eq_getElem _
    have hc0 := hall 0 _ h0
    obtain ⟨b, o, sp⟩ := a
    cases sp with
    | some q =>
      exfalso
      revert hc0
      unfold World.cell? Addr.add
      split <;> (try split) <;> simp_all
    | none =>
      have hadd : ∀ j, (⟨b, o, none⟩ : Addr).add j = ⟨b, o + j, none⟩ := fun j => by unfold Addr.add; split <;> simp_all
      rw [hadd] at hc0
      exact ⟨b, o, rfl, cell_ltT hc0, fun j u hu => by rw [← hadd]; exact hall j u hu⟩

theorem cells39 : Tryd.prog.cellsOf 39 = 4 := by kernel_rfl
theorem cellsI4 : Tryd.prog.cellsOf 3 = 1 := by kernel_rfl
theorem cellsI64_4 : Tryd.prog.cellsOf 2 = 1 := by kernel_rfl
theorem cellsS4 : Tryd.prog.cellsOf 9 = 1 := by kernel_rfl
structure TokD.Ok (t : TokD) : Prop where
  k : (Lit.int .i64 t.k).wf = true
  at_ : (Lit.int .i64 t.at_).wf = true
  s : t.s.size ≤ maxLen
  n : (Lit.int .i64 t.n).wf = true
set_option maxRecDepth 100000 in
theorem trod_T {fuel : Nat} {cs : List Value} {x : DataW H × List MemPlace} (h : DataW.trod enc Tryd.prog w base spare held fuel 39 cs = some x) : ∃ v : { t : TokD // t.Ok }, cs = tcs v.1 := by
  obtain ⟨xs, n, _, _, hl, _, hf⟩ := DataW.trod_struct Tryd.underlying39 h
  rw [cells39] at hl
  match cs, hl with
  | [c0, c1, c2, c3], _ =>
    have h0 : DataW.trod enc Tryd.prog w base spare held n 3 (([c0, c1, c2, c3].drop 0).take (Tryd.prog.cellsOf 3)) = xs[0]? := hf 0 _ rfl
    have h1 : DataW.trod enc Tryd.prog w base spare held n 3 (([c0, c1, c2, c3].drop 1).take (Tryd.prog.cellsOf 3)) = xs[1]? := hf 1 _ rfl
    have h2 : DataW.trod enc Tryd.prog w base spare held n 9 (([c0, c1, c2, c3].drop 2).take (Tryd.prog.cellsOf 9)) = xs[2]? := hf 2 _ rfl
    have h3 : DataW.trod enc Tryd.prog w base spare held n 2 (([c0, c1, c2, c3].drop 3).take (Tryd.prog.cellsOf 2)) = xs[3]? := hf 3 _ rfl
    rw [cellsI4] at h0 h1
    rw [cellsS4] at h2
    rw [cellsI64_4] at h3
    have e : xs.length = 4 := by assumption
    match xs, e with
    | [y0, y1, y2, y3], _ =>
      obtain ⟨a, e0, _, k0⟩ := DataW.trod_int Tryd.underlying3 h0
      obtain ⟨b, e1, _, k1⟩ := DataW.trod_int Tryd.underlying3 h1
      obtain ⟨c, e2, _, k2⟩ := DataW.trod_string Tryd.underlying9 h2
      obtain ⟨d, e3, _, k3⟩ := DataW.trod_int Tryd.underlying2 h3
      simp at e0 e1 e2 e3
      refine ⟨⟨⟨a, b, c, d⟩, ⟨k0, k1, ?_, k3⟩⟩, by rw [e0, e1, e2, e3]; rfl⟩
      first | exact k2 | (simpa [Lit.wf] using k2)
set_option maxRecDepth 100000 in
theorem open_toks {r : Reach} {b0 : Nat} {v : Value} {d : DataW H} {p : List MemPlace} (hv : Value.okWide Tryd.prog w r b0 26 v) (h : DataW.Trod enc Tryd.prog w base spare held 26 v d p) : ∃ (A : Option Addr) (n c : Nat) (L : List TokD), v = .slice A n c ∧ Rd w A n c 4 (L.flatMap tcs) ∧ L.length = n ∧ ∀ t ∈ L, TokD.Ok t := by
  obtain ⟨fuel, h⟩ := h
  obtain ⟨A, n, c, rfl⟩ := okWide_slice Tryd.underlying26 hv
  obtain ⟨A', n', c', xs, e, hl, hr⟩ := trod_rowT (α := { t : TokD // t.Ok }) (f := fun v => tcs v.1) Tryd.underlying26 cells39 (by omega) trod_T h
  cases e
  refine ⟨A, n, c, xs.map Subtype.val, rfl, ?_, by simpa using hl, fun x hx => ?_⟩
  · rw [List.flatMap_map]
    exact hr
  · obtain ⟨y, _, rfl⟩ := List.mem_map.1 hx
    exact y.2
theorem TokD.Ok.range {t : TokD} (h : t.Ok) : -9223372036854775808 ≤ t.at_ ∧ t.at_ ≤ 9223372036854775807 := by
  have h2 : (decide (-9223372036854775808 ≤ t.at_) && decide (t.at_ ≤ 9223372036854775807)) = true := h.at_
  simpa using h2
end
end Go.Proofs.YtjdcicopjipmnaaDoor
