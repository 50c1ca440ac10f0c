/- Arguments opened: a row of numbers, a row of such rows. -/
import Derived.Test.YtbfjkjkanckcjaaNum
import Derived.Test.YtbfjkjkanckcjaaClose
import Derived.OpenShut
namespace Go.Proofs.Ytbfjkjkanckcjaa
open Go.ChangeShapes Go.WideShapes Go.ChangeAt Go.RowKit Go.WideElems Go.Deep

theorem Try.laidOut : laidOutB Try.prog = true := by kernel_rfl
theorem Try.own : ownKnob Try.prog.godebug = none := by kernel_rfl
theorem cellsI : Try.prog.cellsOf 3 = 1 := by kernel_rfl
theorem cellsI64 : Try.prog.cellsOf 2 = 1 := by kernel_rfl
theorem cellsRI64 : Try.prog.cellsOf 25 = 1 := by kernel_rfl
theorem cellsRI : Try.prog.cellsOf 40 = 1 := by kernel_rfl
theorem flat1 {α : Type} (f : α → Value) (xs : List α) : xs.flatMap (fun p => [f p]) = xs.map f := by
  induction xs with
  | nil => rfl
  | cons x xs ih => simp [List.flatMap_cons, ih]

section
variable {H : Type} {enc : TypeId × Value → H} {w : World} {base : Nat} {spare : Nat → Bool} {held : Bool}
theorem cell_lt {w : World} {b o : Nat} {v : Value} (h : w.cell? ⟨b, o, none⟩ = some v) : b < w.heap.size := by
  unfold World.cell? at h
  split at h
  · rename_i hh
    exact (Array.getElem?_eq_some_iff.1 hh).1
  · cases h
/-- a slice of elements of sz cells each, that each read as cells that f gives, reads as a row -/
theorem trod_row {e t : TypeId} {sz : Nat} {α : Type} {f : α → List Value} (ht : Try.prog.underlying t = some (.slice e)) (hsz : Try.prog.cellsOf e = sz) (hpos : 0 < sz)
    (hrd : ∀ {fuel : Nat} {cs : List Value} {x : DataW H × List MemPlace}, DataW.trod enc Try.prog w base spare held fuel e cs = some x → ∃ v : α, cs = f v)
    {fuel : Nat} {v : Value} {x : DataW H × List MemPlace} (h : DataW.trod enc Try.prog w base spare held fuel t [v] = some x) :
    ∃ (A : Option Addr) (n c : Nat) (xs : List α), v = .slice A n c ∧ xs.length = n ∧ Rd w A n c sz (xs.flatMap f) := by
  rcases open_slice ht h with ⟨e1, _⟩ | ⟨a, len, cap, m, n, D, Pl, e1, _, hl, hm, hmm, _, hi⟩
  · injection e1 with e1
    exact ⟨none, 0, 0, [], e1, rfl, Rd.nil_.2 (by omega)⟩
  · injection e1 with e1
    have hlm : len ≤ m := by rw [hmm]; split <;> omega
    have hex : ∀ i, i < len → ∃ u : α, (f u).length = sz ∧ ∀ j, j < sz → w.cell? (a.add (i * sz + j)) = (f u)[j]? := by
      intro i hi'
      obtain ⟨cs', hc, hy⟩ := hi i (by omega)
      rw [hsz] at hc
      obtain ⟨_, hcl, hat⟩ := World.cells?_some hc
      obtain ⟨u, rfl⟩ := hrd hy
      refine ⟨u, hcl, fun j hj => ?_⟩
      rw [← Go.Deep.add_add, hat j hj]
    have hxs : ∀ k, k ≤ len → ∃ xs : List α, xs.length = k ∧ (xs.flatMap f).length = k * sz ∧ ∀ j, j < k * sz → w.cell? (a.add j) = (xs.flatMap f)[j]? := by
      intro k
      induction k with
      | zero => exact fun _ => ⟨[], rfl, by simp, fun j hj => by simp at hj⟩
      | succ k ih =>
        intro hk
        obtain ⟨xs, h1, h2, h3⟩ := ih (by omega)
        obtain ⟨u, h4, h5⟩ := hex k (by omega)
        refine ⟨xs ++ [u], by simp [h1], by simp [h2, h4, Nat.succ_mul], fun j hj => ?_⟩
        rw [List.flatMap_append]
        by_cases hjk : j < k * sz
        · rw [h3 j hjk, List.getElem?_append_left (by omega)]
        · have h6 := h5 (j - k * sz) (by rw [Nat.succ_mul] at hj; omega)
          rw [show k * sz + (j - k * sz) = j from by omega] at h6
          rw [h6, List.getElem?_append_right (by omega), h2]
          simp
    obtain ⟨xs, h1, h2, h3⟩ := hxs len (Nat.le_refl _)
    refine ⟨some a, len, cap, xs, e1, h1, hl, by simpa [maxLen] using hm, h2, fun hn => ?_⟩
    have hall : ∀ j u, (xs.flatMap f)[j]? = some u → w.cell? (a.add j) = some u := by
      intro j u hu
      have hj : j < len * sz := by rw [← h2]; exact (List.getElem?_eq_some_iff.1 hu).1
      rw [h3 j hj, hu]
    have h0 : (xs.flatMap f)[0]? = some ((xs.flatMap f)[0]'(by rw [h2]; exact Nat.mul_pos hn hpos)) := List.getElem?_eq_getElem _
    have hc0 := hall 0 _ h0
    obtain ⟨b, o, sp⟩ := a
    cases sp with
    | some q =>
      exfalso
      revert hc0
      unfold World.cell? Addr.add
      split <;> (try split) <;> simp_all
    | none =>
      have hadd : ∀ j, (⟨b, o, none⟩ : Addr).add j = ⟨b, o + j, none⟩ := fun j => by unfold Addr.add; split <;> simp_all
      rw [hadd] at hc0
      exact ⟨b, o, rfl, cell_lt hc0, fun j u hu => by rw [← hadd]; exact hall j u hu⟩
/-- numbers of 64 bits -/
def InI (xs : List Int) : Prop := ∀ x ∈ xs, -9223372036854775808 ≤ x ∧ x ≤ 9223372036854775807
abbrev Num64 := { n : Int // -9223372036854775808 ≤ n ∧ n ≤ 9223372036854775807 }
theorem trod_num {t : TypeId} (ht : Try.prog.underlying t = some (.int .i64)) {fuel : Nat} {cs : List Value} {x : DataW H × List MemPlace} (h : DataW.trod enc Try.prog w base spare held fuel t cs = some x) : ∃ v : Num64, cs = [.int .i64 v.1] := by
  obtain ⟨a, e, _, hw⟩ := DataW.trod_int ht h
  refine ⟨⟨a, ?_⟩, e⟩
  have hw' := hw
  simp [Lit.wf, IntKind.min, IntKind.max, IntKind.signed, IntKind.bits] at hw'
  omega
theorem trod_rowN {t e : TypeId} (ht : Try.prog.underlying t = some (.slice e)) (he : Try.prog.underlying e = some (.int .i64)) (hc : Try.prog.cellsOf e = 1) {fuel : Nat} {v : Value} {x : DataW H × List MemPlace} (h : DataW.trod enc Try.prog w base spare held fuel t [v] = some x) :
    ∃ A n c xs, v = .slice A n c ∧ RdI w A n c xs ∧ InI xs := by
  obtain ⟨A, n, c, xs, e1, hl, hr⟩ := trod_row (α := Num64) (f := fun p => [Value.int .i64 p.1]) ht hc (by omega) (trod_num he) h
  rw [flat1] at hr
  refine ⟨A, n, c, xs.map Subtype.val, e1, ⟨by simpa using hl, ?_⟩, fun x hx => ?_⟩
  · unfold ics
    rw [List.map_map]
    exact hr
  · obtain ⟨y, _, rfl⟩ := List.mem_map.1 hx
    exact y.2
theorem trod_slc {t e : TypeId} (ht : Try.prog.underlying t = some (.slice e)) {fuel : Nat} {cs : List Value} {x : DataW H × List MemPlace} (h : DataW.trod enc Try.prog w base spare held fuel t cs = some x) : ∃ v, cs = [v] := by
  rcases DataW.trod_slice ht h with ⟨e, _⟩ | ⟨a, len, cap, _, _, _, _, e, _⟩
  · exact ⟨_, e⟩
  · exact ⟨_, e⟩
abbrev RowAt (w : World) := { s : SlI // s.Ok w ∧ InI s.xs }
theorem trod_rows {t e k : TypeId} (ht : Try.prog.underlying t = some (.slice e)) (he : Try.prog.underlying e = some (.slice k)) (hk : Try.prog.underlying k = some (.int .i64)) (hce : Try.prog.cellsOf e = 1) (hck : Try.prog.cellsOf k = 1) {fuel : Nat} {v : Value} {x : DataW H × List MemPlace} (h : DataW.trod enc Try.prog w base spare held fuel t [v] = some x) :
    ∃ A n c rs, v = .slice A n c ∧ RdR w A n c rs ∧ AllOk w rs ∧ ∀ s ∈ rs, InI s.xs := by
  obtain ⟨A, n, c, rs, e1, hl, hr⟩ := trod_row (α := RowAt w) (f := fun p => [p.1.v]) ht hce (by omega) (fun {fuel cs x} hx => by
    obtain ⟨v, rfl⟩ := trod_slc he hx
    obtain ⟨A, n, c, xs, rfl, hr, hi⟩ := trod_rowN he hk hck hx
    exact ⟨⟨⟨A, n, c, xs⟩, hr, hi⟩, rfl⟩) h
  rw [flat1] at hr
  refine ⟨A, n, c, rs.map Subtype.val, e1, ⟨by simpa using hl, ?_⟩, fun s hs => ?_, fun s hs => ?_⟩
  · unfold rcs
    rw [List.map_map]
    exact hr
  · obtain ⟨y, _, rfl⟩ := List.mem_map.1 hs
    exact y.2.1
  · obtain ⟨y, _, rfl⟩ := List.mem_map.1 hs
    exact y.2.2
theorem open_row64 {r : Reach} {b0 : Nat} {v : Value} {d : DataW H} {p : List MemPlace} (hv : Value.okWide Try.prog w r b0 25 v) (h : DataW.Trod enc Try.prog w base spare held 25 v d p) : ∃ A n c xs, v = .slice A n c ∧ RdI w A n c xs ∧ InI xs := by
  obtain ⟨fuel, h⟩ := h
  obtain ⟨A, n, c, rfl⟩ := okWide_slice Try.underlying25 hv
  exact trod_rowN Try.underlying25 Try.underlying2 cellsI64 h
theorem open_rowInt {r : Reach} {b0 : Nat} {v : Value} {d : DataW H} {p : List MemPlace} (hv : Value.okWide Try.prog w r b0 40 v) (h : DataW.Trod enc Try.prog w base spare held 40 v d p) : ∃ A n c xs, v = .slice A n c ∧ RdI w A n c xs ∧ InI xs := by
  obtain ⟨fuel, h⟩ := h
  obtain ⟨A, n, c, rfl⟩ := okWide_slice Try.underlying40 hv
  exact trod_rowN Try.underlying40 Try.underlying3 cellsI h
theorem open_rows64 {r : Reach} {b0 : Nat} {v : Value} {d : DataW H} {p : List MemPlace} (hv : Value.okWide Try.prog w r b0 22 v) (h : DataW.Trod enc Try.prog w base spare held 22 v d p) : ∃ A n c rs, v = .slice A n c ∧ RdR w A n c rs ∧ AllOk w rs ∧ ∀ s ∈ rs, InI s.xs := by
  obtain ⟨fuel, h⟩ := h
  obtain ⟨A, n, c, rfl⟩ := okWide_slice Try.underlying22 hv
  exact trod_rows Try.underlying22 Try.underlying25 Try.underlying2 cellsRI64 cellsI64 h
theorem open_rowsInt {r : Reach} {b0 : Nat} {v : Value} {d : DataW H} {p : List MemPlace} (hv : Value.okWide Try.prog w r b0 33 v) (h : DataW.Trod enc Try.prog w base spare held 33 v d p) : ∃ A n c rs, v = .slice A n c ∧ RdR w A n c rs ∧ AllOk w rs ∧ ∀ s ∈ rs, InI s.xs := by
  obtain ⟨fuel, h⟩ := h
  obtain ⟨A, n, c, rfl⟩ := okWide_slice Try.underlying33 hv
  exact trod_rows Try.underlying33 Try.underlying40 Try.underlying3 cellsRI cellsI h
end
end Go.Proofs.Ytbfjkjkanckcjaa
