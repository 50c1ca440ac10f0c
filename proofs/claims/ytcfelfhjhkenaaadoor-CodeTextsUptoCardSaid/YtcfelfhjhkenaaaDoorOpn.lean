/- Arguments opened: a program. -/
import Derived.Test.YtcfelfhjhkenaaaDoorLaw
import Derived.Test.YtcfelfhjhkenaaaDoorClose
import Derived.OpenShut
namespace Go.Proofs.YtcfelfhjhkenaaaDoor
open Go.ChangeShapes Go.WideShapes Go.ChangeAt Go.RowKit Go.WideElems Go.Deep
set_option linter.unusedVariables false
set_option linter.unusedSimpArgs false

theorem Tryd.laidOut : laidOutB Tryd.prog = true := by kernel_rfl
theorem Tryd.own : ownKnob Tryd.prog.godebug = none := by kernel_rfl
theorem cells3 : Tryd.prog.cellsOf 3 = 1 := by kernel_rfl
theorem cells2 : Tryd.prog.cellsOf 2 = 1 := by kernel_rfl
theorem cells9 : Tryd.prog.cellsOf 9 = 1 := by kernel_rfl
theorem cells4 : Tryd.prog.cellsOf 4 = 1 := by kernel_rfl
theorem cells45 : Tryd.prog.cellsOf 45 = 1 := by kernel_rfl
theorem cells46 : Tryd.prog.cellsOf 46 = 1 := by kernel_rfl
theorem cells47 : Tryd.prog.cellsOf 47 = 1 := by kernel_rfl
theorem cells49 : Tryd.prog.cellsOf 49 = 11 := by kernel_rfl
theorem cells64 : Tryd.prog.cellsOf 64 = 2 := by kernel_rfl
theorem cells77 : Tryd.prog.cellsOf 77 = 3 := by kernel_rfl
theorem wf_i64 {n : Int} (h : (Lit.int .i64 n).wf = true) : I64 n := by
  simp [Lit.wf, IntKind.min, IntKind.max, IntKind.signed, IntKind.bits] at h
  exact ⟨by omega, by omega⟩
theorem flatS (xs : List ByteArray) : xs.flatMap (fun s => [Value.string s]) = scs xs := by
  induction xs with
  | nil => rfl
  | cons x xs ih => simp only [List.flatMap_cons, ih]; rfl
section
variable {H : Type} {enc : TypeId × Value → H} {w : World} {base : Nat} {spare : Nat → Bool} {held : Bool}
theorem cell_lt {w : World} {b o : Nat} {v : Value} (h : w.cell? ⟨b, o, none⟩ = some v) : b < w.heap.size := by
  unfold World.cell? at h
  split at h
  · rename_i hh
    exact (Array.getElem?_eq_some_iff.1 hh).1
  · cases h
/-- a slice of elements of sz cells each, that each read as cells that f gives, reads as a row -/
theorem trod_row {e t : TypeId} {sz : Nat} {α : Type} {f : α → List Value} (ht : Tryd.prog.underlying t = some (.slice e)) (hsz : Tryd.prog.cellsOf e = sz) (hpos : 0 < sz)
    (hrd : ∀ {fuel : Nat} {cs : List Value} {x : DataW H × List MemPlace}, DataW.trod enc Tryd.prog w base spare held fuel e cs = some x → ∃ v : α, cs = f v)
    {fuel : Nat} {v : Value} {x : DataW H × List MemPlace} (h : DataW.trod enc Tryd.prog w base spare held fuel t [v] = some x) :
    ∃ (A : Option Addr) (n c : Nat) (xs : List α), v = .slice A n c ∧ xs.length = n ∧ Rd w A n c sz (xs.flatMap f) := by
  rcases open_slice ht h with ⟨e1, _⟩ | ⟨a, len, cap, m, n, D, Pl, e1, _, hl, hm, hmm, _, hi⟩
  · injection e1 with e1
    exact ⟨none, 0, 0, [], e1, rfl, Rd.nil_.2 (by omega)⟩
  · injection e1 with e1
    have hlm : len ≤ m := by rw [hmm]; split <;> omega
    have hex : ∀ i, i < len → ∃ u : α, (f u).length = sz ∧ ∀ j, j < sz → w.cell? (a.add (i * sz + j)) = (f u)[j]? := by
      intro i hi'
      obtain ⟨cs', hc, hy⟩ := hi i (by omega)
      rw [hsz] at hc
      obtain ⟨_, hcl, hat⟩ := World.cells?_some hc
      obtain ⟨u, rfl⟩ := hrd hy
      refine ⟨u, hcl, fun j hj => ?_⟩
      rw [← Go.Deep.add_add, hat j hj]
    have hxs : ∀ k, k ≤ len → ∃ xs : List α, xs.length = k ∧ (xs.flatMap f).length = k * sz ∧ ∀ j, j < k * sz → w.cell? (a.add j) = (xs.flatMap f)[j]? := by
      intro k
      induction k with
      | zero => exact fun _ => ⟨[], rfl, by simp, fun j hj => by simp at hj⟩
      | succ k ih =>
        intro hk
        obtain ⟨xs, h1, h2, h3⟩ := ih (by omega)
        obtain ⟨u, h4, h5⟩ := hex k (by omega)
        refine ⟨xs ++ [u], by simp [h1], by simp [h2, h4, Nat.succ_mul], fun j hj => ?_⟩
        rw [List.flatMap_append]
        by_cases hjk : j < k * sz
        · rw [h3 j hjk, List.getElem?_append_left (by omega)]
        · have h6 := h5 (j - k * sz) (by rw [Nat.succ_mul] at hj; omega)
          rw [show k * sz + (j - k * sz) = j from by omega] at h6
          rw [h6, List.getElem?_append_right (by omega), h2]
          simp
    obtain ⟨xs, h1, h2, h3⟩ := hxs len (Nat.le_refl _)
    refine ⟨some a, len, cap, xs, e1, h1, hl, by simpa [maxLen] using hm, h2, fun hn => ?_⟩
    have hall : ∀ j u, (xs.flatMap f)[j]? = some u → w.cell? (a.add j) = some u := by
      intro j u hu
      have hj : j < len * sz := by rw [← h2]; exact (List.getElem?_eq_some_iff.1 hu).1
      rw [h3 j hj, hu]
    have h0 : (xs.flatMap f)[0]? = some ((xs.flatMap f)[0]'(by rw [h2]; exact Nat.mul_pos hn hpos)) := List.getElem?_eq_getElem _
    have hc0 := hall 0 _ h0
    obtain ⟨b, o, sp⟩ := a
    cases sp with
    | some q =>
      exfalso
      revert hc0
      unfold World.cell? Addr.add
      split <;> (try split) <;> simp_all
    | none =>
      have hadd : ∀ j, (⟨b, o, none⟩ : Addr).add j = ⟨b, o + j, none⟩ := fun j => by unfold Addr.add; split <;> simp_all
      rw [hadd] at hc0
      exact ⟨b, o, rfl, cell_lt hc0, fun j u hu => by rw [← hadd]; exact hall j u hu⟩
theorem trod_str {fuel : Nat} {cs : List Value} {x : DataW H × List MemPlace} (h : DataW.trod enc Tryd.prog w base spare held fuel 9 cs = some x) : ∃ s : ByteArray, cs = [Value.string s] := by
  obtain ⟨s, e, _⟩ := DataW.trod_string Tryd.underlying9 h
  exact ⟨s, e⟩
theorem trod_rowS {fuel : Nat} {v : Value} {x : DataW H × List MemPlace} (h : DataW.trod enc Tryd.prog w base spare held fuel 45 [v] = some x) : ∃ A n c xs, v = .slice A n c ∧ RdS w A n c xs := by
  obtain ⟨A, n, c, xs, h1, h2, h3⟩ := trod_row (f := fun s => [Value.string s]) Tryd.underlying45 cells9 (by omega) trod_str h
  rw [flatS] at h3
  exact ⟨A, n, c, xs, h1, h2, h3⟩
set_option maxRecDepth 100000 in
theorem trod_val {fuel : Nat} {cs : List Value} {x : DataW H × List MemPlace} (h : DataW.trod enc Tryd.prog w base spare held fuel 77 cs = some x) : ∃ v : { v : ValD // v.Ok }, cs = valCs v.1 := by
  obtain ⟨xs, n, _, _, hl, _, hf⟩ := DataW.trod_struct Tryd.underlying77 h
  rw [cells77] at hl
  match cs, hl with
  | [c0, c1, c2], _ =>
    have h0 : DataW.trod enc Tryd.prog w base spare held n 3 (([c0, c1, c2].drop 0).take (Tryd.prog.cellsOf 3)) = xs[0]? := hf 0 _ rfl
    have h1 : DataW.trod enc Tryd.prog w base spare held n 2 (([c0, c1, c2].drop 1).take (Tryd.prog.cellsOf 2)) = xs[1]? := hf 1 _ rfl
    have h2 : DataW.trod enc Tryd.prog w base spare held n 9 (([c0, c1, c2].drop 2).take (Tryd.prog.cellsOf 9)) = xs[2]? := hf 2 _ rfl
    rw [cells3] at h0
    rw [cells2] at h1
    rw [cells9] at h2
    have e : xs.length = 3 := by assumption
    match xs, e with
    | [y0, y1, y2], _ =>
      obtain ⟨a, e0, _, k0⟩ := DataW.trod_int Tryd.underlying3 h0
      obtain ⟨b, e1, _, k1⟩ := DataW.trod_int Tryd.underlying2 h1
      obtain ⟨s, e2, _⟩ := DataW.trod_string Tryd.underlying9 h2
      simp at e0 e1 e2
      exact ⟨⟨⟨a, b, s⟩, wf_i64 k1⟩, by rw [e0, e1, e2]; rfl⟩
set_option maxRecDepth 100000 in
theorem trod_ins {fuel : Nat} {cs : List Value} {x : DataW H × List MemPlace} (h : DataW.trod enc Tryd.prog w base spare held fuel 64 cs = some x) : ∃ v : { v : Int × Int // I64 v.2 }, cs = insCs v.1 := by
  obtain ⟨xs, n, _, _, hl, _, hf⟩ := DataW.trod_struct Tryd.underlying64 h
  rw [cells64] at hl
  match cs, hl with
  | [c0, c1], _ =>
    have h0 : DataW.trod enc Tryd.prog w base spare held n 3 (([c0, c1].drop 0).take (Tryd.prog.cellsOf 3)) = xs[0]? := hf 0 _ rfl
    have h1 : DataW.trod enc Tryd.prog w base spare held n 3 (([c0, c1].drop 1).take (Tryd.prog.cellsOf 3)) = xs[1]? := hf 1 _ rfl
    rw [cells3] at h0 h1
    have e : xs.length = 2 := by assumption
    match xs, e with
    | [y0, y1], _ =>
      obtain ⟨a, e0, _, k0⟩ := DataW.trod_int Tryd.underlying3 h0
      obtain ⟨b, e1, _, k1⟩ := DataW.trod_int Tryd.underlying3 h1
      simp at e0 e1
      exact ⟨⟨(a, b), wf_i64 k1⟩, by rw [e0, e1]; rfl⟩
theorem trod_rowF {α : Type} {Q : α → Prop} {g : α → List Value} {e t : TypeId} {sz : Nat} (ht : Tryd.prog.underlying t = some (.slice e)) (hsz : Tryd.prog.cellsOf e = sz) (hpos : 0 < sz)
    (hrd : ∀ {fuel : Nat} {cs : List Value} {x : DataW H × List MemPlace}, DataW.trod enc Tryd.prog w base spare held fuel e cs = some x → ∃ v : { v : α // Q v }, cs = g v.1)
    {fuel : Nat} {v : Value} {x : DataW H × List MemPlace} (h : DataW.trod enc Tryd.prog w base spare held fuel t [v] = some x) :
    ∃ (A : Option Addr) (n c : Nat) (xs : List α), v = .slice A n c ∧ RdF g sz w A n c xs ∧ ∀ y ∈ xs, Q y := by
  obtain ⟨A, n, c, xs, h1, h2, h3⟩ := trod_row (α := { v : α // Q v }) (f := fun v => g v.1) ht hsz hpos hrd h
  refine ⟨A, n, c, xs.map (·.1), h1, ⟨by simpa using h2, by rw [List.flatMap_map]; exact h3⟩, fun y hy => ?_⟩
  obtain ⟨z, _, rfl⟩ := List.mem_map.1 hy
  exact z.2
set_option maxRecDepth 100000 in
theorem trod_code {fuel : Nat} {cs : List Value} {x : DataW H × List MemPlace} (h : DataW.trod enc Tryd.prog w base spare held fuel 49 cs = some x) : ∃ q : { q : CodeD × List Value // CodeAt w q.1 q.2 ∧ q.2.length = 11 ∧ q.1.Ok ∧ q.1.Num }, cs = q.1.2 := by
  obtain ⟨xs, n, _, _, hl, hx, hf⟩ := DataW.trod_struct Tryd.underlying49 h
  rw [cells49] at hl
  match cs, hl with
  | [d0, d1, d2, d3, d4, d5, d6, d7, d8, d9, d10], _ =>
    have h0 : DataW.trod enc Tryd.prog w base spare held n 9 (([d0, d1, d2, d3, d4, d5, d6, d7, d8, d9, d10].drop 0).take (Tryd.prog.cellsOf 9)) = xs[0]? := hf 0 _ rfl
    have h1 : DataW.trod enc Tryd.prog w base spare held n 3 (([d0, d1, d2, d3, d4, d5, d6, d7, d8, d9, d10].drop 1).take (Tryd.prog.cellsOf 3)) = xs[1]? := hf 1 _ rfl
    have h2 : DataW.trod enc Tryd.prog w base spare held n 3 (([d0, d1, d2, d3, d4, d5, d6, d7, d8, d9, d10].drop 2).take (Tryd.prog.cellsOf 3)) = xs[2]? := hf 2 _ rfl
    have h3 : DataW.trod enc Tryd.prog w base spare held n 3 (([d0, d1, d2, d3, d4, d5, d6, d7, d8, d9, d10].drop 3).take (Tryd.prog.cellsOf 3)) = xs[3]? := hf 3 _ rfl
    have h4 : DataW.trod enc Tryd.prog w base spare held n 4 (([d0, d1, d2, d3, d4, d5, d6, d7, d8, d9, d10].drop 4).take (Tryd.prog.cellsOf 4)) = xs[4]? := hf 4 _ rfl
    have h5 : DataW.trod enc Tryd.prog w base spare held n 45 (([d0, d1, d2, d3, d4, d5, d6, d7, d8, d9, d10].drop 5).take (Tryd.prog.cellsOf 45)) = xs[5]? := hf 5 _ rfl
    have h6 : DataW.trod enc Tryd.prog w base spare held n 45 (([d0, d1, d2, d3, d4, d5, d6, d7, d8, d9, d10].drop 6).take (Tryd.prog.cellsOf 45)) = xs[6]? := hf 6 _ rfl
    have h7 : DataW.trod enc Tryd.prog w base spare held n 45 (([d0, d1, d2, d3, d4, d5, d6, d7, d8, d9, d10].drop 7).take (Tryd.prog.cellsOf 45)) = xs[7]? := hf 7 _ rfl
    have h8 : DataW.trod enc Tryd.prog w base spare held n 45 (([d0, d1, d2, d3, d4, d5, d6, d7, d8, d9, d10].drop 8).take (Tryd.prog.cellsOf 45)) = xs[8]? := hf 8 _ rfl
    have h9 : DataW.trod enc Tryd.prog w base spare held n 46 (([d0, d1, d2, d3, d4, d5, d6, d7, d8, d9, d10].drop 9).take (Tryd.prog.cellsOf 46)) = xs[9]? := hf 9 _ rfl
    have h10 : DataW.trod enc Tryd.prog w base spare held n 47 (([d0, d1, d2, d3, d4, d5, d6, d7, d8, d9, d10].drop 10).take (Tryd.prog.cellsOf 47)) = xs[10]? := hf 10 _ rfl
    rw [cells9] at h0
    rw [cells3] at h1 h2 h3
    rw [cells4] at h4
    rw [cells45] at h5 h6 h7 h8
    rw [cells46] at h9
    rw [cells47] at h10
    have e : xs.length = 11 := by assumption
    match xs, e with
    | [y0, y1, y2, y3, y4, y5, y6, y7, y8, y9, y10], _ =>
      obtain ⟨s, e0, _⟩ := DataW.trod_string Tryd.underlying9 h0
      obtain ⟨a1, e1, _, k1⟩ := DataW.trod_int Tryd.underlying3 h1
      obtain ⟨a2, e2, _, k2⟩ := DataW.trod_int Tryd.underlying3 h2
      obtain ⟨a3, e3, _, k3⟩ := DataW.trod_int Tryd.underlying3 h3
      obtain ⟨b4, e4, _⟩ := DataW.trod_bool Tryd.underlying4 h4
      obtain ⟨A5, n5, c5, l5, e5, r5⟩ := trod_rowS (v := d5) h5
      obtain ⟨A6, n6, c6, l6, e6, r6⟩ := trod_rowS (v := d6) h6
      obtain ⟨A7, n7, c7, l7, e7, r7⟩ := trod_rowS (v := d7) h7
      obtain ⟨A8, n8, c8, l8, e8, r8⟩ := trod_rowS (v := d8) h8
      obtain ⟨A9, n9, c9, l9, e9, r9, q9⟩ := trod_rowF (Q := ValD.Ok) Tryd.underlying46 cells77 (by omega) trod_val (v := d9) h9
      obtain ⟨A10, n10, c10, l10, e10, r10, q10⟩ := trod_rowF (Q := fun v : Int × Int => I64 v.2) Tryd.underlying47 cells64 (by omega) trod_ins (v := d10) h10
      simp at e0 e1 e2 e3 e4
      refine ⟨⟨(⟨s, a1, a2, a3, b4, l5, l6, l7, l8, l9, l10⟩, [d0, d1, d2, d3, d4, d5, d6, d7, d8, d9, d10]), ⟨A5, n5, c5, A6, n6, c6, A7, n7, c7, A8, n8, c8, A9, n9, c9, A10, n10, c10, by rw [e0, e1, e2, e3, e4, e5, e6, e7, e8, e9, e10], r5, r6, r7, r8, r9, r10⟩, rfl, q9, wf_i64 k1, wf_i64 k2, wf_i64 k3, q10⟩, rfl⟩
set_option maxRecDepth 100000 in
theorem open_prog {r : Reach} {b0 : Nat} {v : Value} {d : DataW H} {p : List MemPlace} (hv : Value.okWide Tryd.prog w r b0 23 v) (h : DataW.Trod enc Tryd.prog w base spare held 23 v d p) :
    ∃ A n c ps, v = .slice A n c ∧ ProgAt w A n c ps ∧ (∀ q ∈ ps, q.Ok) ∧ ∀ q ∈ ps, q.Num := by
  obtain ⟨fuel, h⟩ := h
  obtain ⟨A, n, c, rfl⟩ := okWide_slice Tryd.underlying23 hv
  obtain ⟨A', n', c', xs, e, hl, hr⟩ := trod_row (α := { q : CodeD × List Value // CodeAt w q.1 q.2 ∧ q.2.length = 11 ∧ q.1.Ok ∧ q.1.Num }) (f := fun q => q.1.2) Tryd.underlying23 cells49 (by omega) trod_code h
  cases e
  refine ⟨A, n, c, xs.map (·.1.1), rfl, ⟨by simpa using hl, xs.map (·.1.2), by simpa using hl, fun cs hc => ?_, fun i x cs hx hc => ?_, ?_⟩, fun q hq => ?_, fun q hq => ?_⟩
  · obtain ⟨z, _, rfl⟩ := List.mem_map.1 hc
    exact z.2.2.1
  · rw [List.getElem?_map] at hx hc
    obtain ⟨z, hz, rfl⟩ := Option.map_eq_some_iff.1 hx
    rw [hz] at hc
    obtain rfl := Option.some.inj hc
    exact z.2.1
  · rw [List.flatMap_map]
    exact hr
  · obtain ⟨z, _, rfl⟩ := List.mem_map.1 hq
    exact z.2.2.2.1
  · obtain ⟨z, _, rfl⟩ := List.mem_map.1 hq
    exact z.2.2.2.2
end
end Go.Proofs.YtcfelfhjhkenaaaDoor
