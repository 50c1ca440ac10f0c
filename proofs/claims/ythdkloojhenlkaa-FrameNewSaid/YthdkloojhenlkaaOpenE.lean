/- A slice of calls, opened. -/
import Derived.Test.YthdkloojhenlkaaOpen
import Derived.Test.YthdkloojhenlkaaPly
namespace Go.Proofs.Ythdkloojhenlkaa
open Go.ChangeShapes Go.WideShapes Go.ChangeAt Go.RowKit Go.WideElems Go.Deep

theorem cellsC : Try.prog.cellsOf 76 = 3 := by kernel_rfl
theorem cellsR : Try.prog.cellsOf 24 = 1 := by kernel_rfl
theorem flat3_at {α : Type} (a b c : α → Value) : ∀ (xs : List α) (i : Nat) (h : i < xs.length), (xs.flatMap fun p => [a p, b p, c p])[i * 3]? = some (a xs[i]) ∧ (xs.flatMap fun p => [a p, b p, c p])[i * 3 + 1]? = some (b xs[i]) ∧ (xs.flatMap fun p => [a p, b p, c p])[i * 3 + 2]? = some (c xs[i])
  | [], _, h => by simp at h
  | x :: xs, 0, _ => by simp
  | x :: xs, i + 1, h => by
    have := flat3_at a b c xs i (by simpa using h)
    have e : (i + 1) * 3 = i * 3 + 1 + 1 + 1 := by omega
    simpa [e, List.flatMap_cons] using this
/-- a call, as its cells say -/
structure CallRd (w : World) where
  d : Int
  n : Int
  A : Option Addr
  k : Nat
  c : Nat
  l : List V
  rd : RdV w A k c l
  lo : -9223372036854775808 ≤ n
  hi : n ≤ 9223372036854775807
section
variable {H : Type} {enc : TypeId × Value → H} {w : World} {base : Nat} {spare : Nat → Bool} {held : Bool}
theorem trod_C {fuel : Nat} {cs : List Value} {x : DataW H × List MemPlace} (h : DataW.trod enc Try.prog w base spare held fuel 76 cs = some x) : ∃ v : CallRd w, cs = [.int .i64 v.d, .int .i64 v.n, .slice v.A v.k v.c] := by
  obtain ⟨xs, n, _, _, hl, _, hf⟩ := DataW.trod_struct Try.underlying76 h
  rw [cellsC] at hl
  match cs, hl with
  | [c0, c1, c2], _ =>
    have h0 : DataW.trod enc Try.prog w base spare held n 3 (([c0, c1, c2].drop 0).take (Try.prog.cellsOf 3)) = xs[0]? := hf 0 _ rfl
    have h1 : DataW.trod enc Try.prog w base spare held n 3 (([c0, c1, c2].drop 1).take (Try.prog.cellsOf 3)) = xs[1]? := hf 1 _ rfl
    have h2 : DataW.trod enc Try.prog w base spare held n 24 (([c0, c1, c2].drop 2).take (Try.prog.cellsOf 24)) = xs[2]? := hf 2 _ rfl
    rw [cellsI] at h0 h1
    rw [cellsR] at h2
    have e : xs.length = 3 := by assumption
    match xs, e with
    | [y0, y1, y2], _ =>
      obtain ⟨a, e0, _⟩ := DataW.trod_int Try.underlying3 h0
      obtain ⟨b, e1, _, hw⟩ := DataW.trod_int Try.underlying3 h1
      simp at e0 e1
      obtain ⟨A, k, c, l, e2, hr⟩ := trod_rowV h2
      have hb : -9223372036854775808 ≤ b ∧ b ≤ 9223372036854775807 := by
        simp [Lit.wf, IntKind.min, IntKind.max, IntKind.signed, IntKind.bits] at hw
        omega
      exact ⟨⟨a, b, A, k, c, l, hr, hb.1, hb.2⟩, by rw [e0, e1, e2]⟩
theorem open_calls {r : Reach} {b0 : Nat} {v : Value} {d : DataW H} {p : List MemPlace} (hv : Value.okWide Try.prog w r b0 73 v) (h : DataW.Trod enc Try.prog w base spare held 73 v d p) : ∃ A n c cs, v = .slice A n c ∧ RdC w A n c cs := by
  obtain ⟨fuel, h⟩ := h
  obtain ⟨A, n, c, rfl⟩ := okWide_slice Try.underlying73 hv
  obtain ⟨A', n', c', xs, e, hl, hr⟩ := trod_row (α := CallRd w) (f := fun v => [.int .i64 v.d, .int .i64 v.n, .slice v.A v.k v.c]) Try.underlying73 cellsC (by omega) trod_C h
  cases e
  refine ⟨A, n, c, xs.map (fun v => ⟨v.d, v.n, v.l⟩), rfl, hr.1, hr.2.1, by simpa using hl, fun i hi => ?_⟩
  have hi' : i < xs.length := by simpa using hi
  obtain ⟨b, o, rfl, hb, hc⟩ := hr.2.2.2 (by omega)
  obtain ⟨q0, q1, q2⟩ := flat3_at (fun v : CallRd w => Value.int .i64 v.d) (fun v => Value.int .i64 v.n) (fun v => Value.slice v.A v.k v.c) xs i hi'
  refine ⟨b, o, xs[i].A, xs[i].k, xs[i].c, rfl, hb, ?_, ?_, ?_, ?_, ?_, ?_⟩
  · simpa using hc _ _ q0
  · simpa [Nat.add_assoc] using hc _ _ q1
  · simpa [Nat.add_assoc] using hc _ _ q2
  · simpa using xs[i].rd
  · simpa using xs[i].lo
  · simpa using xs[i].hi
end
end Go.Proofs.Ythdkloojhenlkaa
