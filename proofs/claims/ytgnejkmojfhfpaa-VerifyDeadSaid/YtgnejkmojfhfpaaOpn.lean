/- Arguments opened: a program, a number, an instruction, a row of numbers. -/
import Derived.Test.YtgnejkmojfhfpaaPrg
import Derived.Test.YtgnejkmojfhfpaaClose
import Derived.OpenShut
import Derived.SizedLaws
namespace Go.Proofs.Ytgnejkmojfhfpaa
open Go.ChangeShapes Go.WideShapes Go.ChangeAt Go.RowKit Go.WideElems Go.Deep
set_option linter.unusedVariables false
set_option linter.unusedSimpArgs false

theorem Try.laidOut : laidOutB Try.prog = true := by kernel_rfl
theorem Try.own : ownKnob Try.prog.godebug = none := by kernel_rfl
theorem clls3 : Try.prog.cellsOf 3 = 1 := by kernel_rfl
theorem clls2 : Try.prog.cellsOf 2 = 1 := by kernel_rfl
theorem clls9 : Try.prog.cellsOf 9 = 1 := by kernel_rfl
theorem clls4 : Try.prog.cellsOf 4 = 1 := by kernel_rfl
theorem clls34 : Try.prog.cellsOf 34 = 1 := by kernel_rfl
theorem clls35 : Try.prog.cellsOf 35 = 1 := by kernel_rfl
theorem clls36 : Try.prog.cellsOf 36 = 1 := by kernel_rfl
theorem clls38 : Try.prog.cellsOf 38 = 11 := by kernel_rfl
theorem clls43 : Try.prog.cellsOf 43 = 2 := by kernel_rfl
theorem clls87 : Try.prog.cellsOf 87 = 3 := by kernel_rfl
theorem byts9 : Try.prog.bytesOf 9 = 16 := by kernel_rfl
theorem byts87 : Try.prog.bytesOf 87 = 32 := by kernel_rfl
theorem byts43 : Try.prog.bytesOf 43 = 16 := by kernel_rfl
theorem byts38 : Try.prog.bytesOf 38 = 192 := by kernel_rfl
theorem byts3 : Try.prog.bytesOf 3 = 8 := by kernel_rfl
theorem flds38 : (match Try.prog.underlying 38 with | some (.struct fs) => fs.toList.map (·.type) | _ => []) = [9, 3, 3, 3, 4, 34, 34, 34, 34, 35, 36] := by kernel_rfl
theorem flatS (xs : List ByteArray) : xs.flatMap (fun s => [Value.string s]) = scs xs := by
  induction xs with
  | nil => rfl
  | cons x xs ih => simp only [List.flatMap_cons, ih]; rfl
section
variable {H : Type} {enc : TypeId × Value → H} {w : World} {base : Nat} {spare : Nat → Bool} {held : Bool}
theorem cell_lt {w : World} {b o : Nat} {v : Value} (h : w.cell? ⟨b, o, none⟩ = some v) : b < w.heap.size := by
  unfold World.cell? at h
  split at h
  · rename_i hh
    exact (Array.getElem?_eq_some_iff.1 hh).1
  · cases h
theorem weightsAll_mem {P : Program} {e : TypeId} : ∀ {l : List (DataW H)} {d : DataW H}, d ∈ l → ∀ k ∈ d.weights P e, k ∈ DataW.weightsAll P e l
  | d0 :: l, d, hd, k, hk => by
    simp only [DataW.weightsAll, List.mem_append]
    rcases List.mem_cons.1 hd with rfl | hd
    · exact .inl hk
    · exact .inr (weightsAll_mem hd k hk)
/-- nothing of it is greater than memory -/
def Reach_ (t : TypeId) (d : DataW H) : Prop := ∀ k ∈ d.weights Try.prog t, k ≤ 140737488351232
/-- a slice of elements of sz cells each, that each read as cells that f gives, reads as a row -/
theorem trod_row {α : Type} {e t : TypeId} {sz by_ : Nat} {f : α → List Value} (ht : Try.prog.underlying t = some (.slice e)) (hsz : Try.prog.cellsOf e = sz) (hby : Try.prog.bytesOf e = by_) (hpos : 0 < sz)
    (hrd : ∀ {fuel : Nat} {cs : List Value} {x : DataW H × List MemPlace}, DataW.trod enc Try.prog w base spare held fuel e cs = some x → Reach_ e x.1 → ∃ v : α, cs = f v)
    {fuel : Nat} {v : Value} {x : DataW H × List MemPlace} (h : DataW.trod enc Try.prog w base spare held fuel t [v] = some x) (hw : Reach_ t x.1) :
    ∃ (A : Option Addr) (n c : Nat) (xs : List α), v = .slice A n c ∧ xs.length = n ∧ Rd w A n c sz (xs.flatMap f) ∧ n * by_ ≤ 140737488351232 := by
  rcases open_slice ht h with ⟨e1, ex⟩ | ⟨a, len, cap, m, n, D, Pl, e1, _, hl, hm, hmm, ex, hi⟩
  · injection e1 with e1
    exact ⟨none, 0, 0, [], e1, rfl, Rd.nil_.2 (by omega), by omega⟩
  · injection e1 with e1
    have hlm : len ≤ m := by rw [hmm]; split <;> omega
    have hwx : ∀ k ∈ (DataW.slice ((List.range len).map D) ((List.range (m - len)).map fun j => D (len + j))).weights Try.prog t, k ≤ 140737488351232 := by
      unfold Reach_ at hw
      rw [ex] at hw
      exact hw
    simp only [DataW.weights, ht] at hwx
    have hb : len * by_ ≤ 140737488351232 := by
      have h1 := hwx _ (List.mem_cons_self ..)
      rw [hby] at h1
      simp only [List.length_map, List.length_range] at h1
      have := Nat.mul_le_mul_right by_ (show len ≤ len + (m - len) by omega)
      omega
    have hel : ∀ i, i < len → Reach_ e (D i) := fun i hi k hk => by
      refine hwx k (List.mem_cons_of_mem _ (List.mem_append_left _ (weightsAll_mem ?_ k hk)))
      exact List.mem_map.2 ⟨i, List.mem_range.2 hi, rfl⟩
    have hex : ∀ i, i < len → ∃ u : α, (f u).length = sz ∧ ∀ j, j < sz → w.cell? (a.add (i * sz + j)) = (f u)[j]? := by
      intro i hi'
      obtain ⟨cs', hc, hy⟩ := hi i (by omega)
      rw [hsz] at hc
      obtain ⟨_, hcl, hat⟩ := World.cells?_some hc
      obtain ⟨u, rfl⟩ := hrd hy (hel i hi')
      refine ⟨u, hcl, fun j hj => ?_⟩
      rw [← Go.Deep.add_add, hat j hj]
    have hxs : ∀ k, k ≤ len → ∃ xs : List α, xs.length = k ∧ (xs.flatMap f).length = k * sz ∧ ∀ j, j < k * sz → w.cell? (a.add j) = (xs.flatMap f)[j]? := by
      intro k
      induction k with
      | zero => exact fun _ => ⟨[], rfl, by simp, fun j hj => by simp at hj⟩
      | succ k ih =>
        intro hk
        obtain ⟨xs, h1, h2, h3⟩ := ih (by omega)
        obtain ⟨u, h4, h5⟩ := hex k (by omega)
        refine ⟨xs ++ [u], by simp [h1], by simp [h2, h4, Nat.succ_mul], fun j hj => ?_⟩
        rw [List.flatMap_append]
        by_cases hjk : j < k * sz
        · rw [h3 j hjk, List.getElem?_append_left (by omega)]
        · have h6 := h5 (j - k * sz) (by rw [Nat.succ_mul] at hj; omega)
          rw [show k * sz + (j - k * sz) = j from by omega] at h6
          rw [h6, List.getElem?_append_right (by omega), h2]
          simp
    obtain ⟨xs, h1, h2, h3⟩ := hxs len (Nat.le_refl _)
    refine ⟨some a, len, cap, xs, e1, h1, ⟨hl, by simpa [maxLen] using hm, h2, fun hn => ?_⟩, hb⟩
    have hall : ∀ j u, (xs.flatMap f)[j]? = some u → w.cell? (a.add j) = some u := by
      intro j u hu
      have hj : j < len * sz := by rw [← h2]; exact (List.getElem?_eq_some_iff.1 hu).1
      rw [h3 j hj, hu]
    have h0 : (xs.flatMap f)[0]? = some ((xs.flatMap f)[0]'(by rw [h2]; exact Nat.mul_pos hn hpos)) := List.getElem?_eq_getElem _
    have hc0 := hall 0 _ h0
    obtain ⟨b, o, sp⟩ := a
    cases sp with
    | some q =>
      exfalso
      revert hc0
      unfold World.cell? Addr.add
      split <;> (try split) <;> simp_all
    | none =>
      have hadd : ∀ j, (⟨b, o, none⟩ : Addr).add j = ⟨b, o + j, none⟩ := fun j => by unfold Addr.add; split <;> simp_all
      rw [hadd] at hc0
      exact ⟨b, o, rfl, cell_lt hc0, fun j u hu => by rw [← hadd]; exact hall j u hu⟩
theorem trod_str {fuel : Nat} {cs : List Value} {x : DataW H × List MemPlace} (h : DataW.trod enc Try.prog w base spare held fuel 9 cs = some x) : ∃ s : ByteArray, cs = [Value.string s] := by
  obtain ⟨s, e, _⟩ := DataW.trod_string Try.underlying9 h
  exact ⟨s, e⟩
theorem trod_rowS {fuel : Nat} {v : Value} {x : DataW H × List MemPlace} (h : DataW.trod enc Try.prog w base spare held fuel 34 [v] = some x) (hw : Reach_ 34 x.1) : ∃ A n c xs, v = .slice A n c ∧ RdS w A n c xs ∧ n ≤ Most := by
  obtain ⟨A, n, c, xs, h1, h2, h3, h4⟩ := trod_row (f := fun s => [Value.string s]) Try.underlying34 clls9 byts9 (by omega) (fun h _ => trod_str h) h hw
  rw [flatS] at h3
  exact ⟨A, n, c, xs, h1, ⟨h2, h3⟩, by unfold Most; omega⟩
set_option maxRecDepth 100000 in
theorem trod_val {fuel : Nat} {cs : List Value} {x : DataW H × List MemPlace} (h : DataW.trod enc Try.prog w base spare held fuel 87 cs = some x) : ∃ v : ValD, cs = valCs v := by
  obtain ⟨xs, n, _, _, hl, _, hf⟩ := DataW.trod_struct Try.underlying87 h
  rw [clls87] at hl
  match cs, hl with
  | [c0, c1, c2], _ =>
    have h0 : DataW.trod enc Try.prog w base spare held n 3 (([c0, c1, c2].drop 0).take (Try.prog.cellsOf 3)) = xs[0]? := hf 0 _ rfl
    have h1 : DataW.trod enc Try.prog w base spare held n 2 (([c0, c1, c2].drop 1).take (Try.prog.cellsOf 2)) = xs[1]? := hf 1 _ rfl
    have h2 : DataW.trod enc Try.prog w base spare held n 9 (([c0, c1, c2].drop 2).take (Try.prog.cellsOf 9)) = xs[2]? := hf 2 _ rfl
    rw [clls3] at h0
    rw [clls2] at h1
    rw [clls9] at h2
    have e : xs.length = 3 := by assumption
    match xs, e with
    | [y0, y1, y2], _ =>
      obtain ⟨a, e0, _, k0⟩ := DataW.trod_int Try.underlying3 h0
      obtain ⟨b, e1, _, k1⟩ := DataW.trod_int Try.underlying2 h1
      obtain ⟨s, e2, _⟩ := DataW.trod_string Try.underlying9 h2
      simp at e0 e1 e2
      exact ⟨⟨a, b, s⟩, by rw [e0, e1, e2]; rfl⟩
set_option maxRecDepth 100000 in
theorem trod_ins {fuel : Nat} {cs : List Value} {x : DataW H × List MemPlace} (h : DataW.trod enc Try.prog w base spare held fuel 43 cs = some x) : ∃ v : Int × Int, cs = insCs v := by
  obtain ⟨xs, n, _, _, hl, _, hf⟩ := DataW.trod_struct Try.underlying43 h
  rw [clls43] at hl
  match cs, hl with
  | [c0, c1], _ =>
    have h0 : DataW.trod enc Try.prog w base spare held n 3 (([c0, c1].drop 0).take (Try.prog.cellsOf 3)) = xs[0]? := hf 0 _ rfl
    have h1 : DataW.trod enc Try.prog w base spare held n 3 (([c0, c1].drop 1).take (Try.prog.cellsOf 3)) = xs[1]? := hf 1 _ rfl
    rw [clls3] at h0 h1
    have e : xs.length = 2 := by assumption
    match xs, e with
    | [y0, y1], _ =>
      obtain ⟨a, e0, _, k0⟩ := DataW.trod_int Try.underlying3 h0
      obtain ⟨b, e1, _, k1⟩ := DataW.trod_int Try.underlying3 h1
      simp at e0 e1
      exact ⟨(a, b), by rw [e0, e1]; rfl⟩
set_option maxRecDepth 100000 in
theorem trod_code {fuel : Nat} {cs : List Value} {x : DataW H × List MemPlace} (h : DataW.trod enc Try.prog w base spare held fuel 38 cs = some x) (hw : Reach_ 38 x.1) : ∃ q : { q : CodeD × List Value // CodeAt w q.1 q.2 ∧ q.2.length = 11 }, cs = q.1.2 := by
  obtain ⟨xs, n, _, ex, hl, hx, hf⟩ := DataW.trod_struct Try.underlying38 h
  rw [clls38] at hl
  have hwx : ∀ (j : Nat) (t : TypeId) (d : DataW H × List MemPlace), [9, 3, 3, 3, 4, 34, 34, 34, 34, 35, 36][j]? = some t → xs[j]? = some d → Reach_ t d.1 := by
    intro j t d ht hd k hk
    unfold Reach_ at hw
    rw [ex] at hw
    refine hw k ?_
    have hfl := flds38
    simp only [DataW.weights]
    cases hu : Try.prog.underlying 38 with
    | none => rw [hu] at hfl; cases hfl
    | some u =>
      rw [hu] at hfl
      cases u <;> simp only at hfl <;> first | cases hfl | skip
      simp only
      rw [hfl]
      exact DataW.weights_mem_each (P := Try.prog) (j := j) (t := t) (d := d.1) ht (by rw [List.getElem?_map, hd]; rfl) k hk
  match cs, hl with
  | [d0, d1, d2, d3, d4, d5, d6, d7, d8, d9, d10], _ =>
    have h0 : DataW.trod enc Try.prog w base spare held n 9 (([d0, d1, d2, d3, d4, d5, d6, d7, d8, d9, d10].drop 0).take (Try.prog.cellsOf 9)) = xs[0]? := hf 0 _ rfl
    have h1 : DataW.trod enc Try.prog w base spare held n 3 (([d0, d1, d2, d3, d4, d5, d6, d7, d8, d9, d10].drop 1).take (Try.prog.cellsOf 3)) = xs[1]? := hf 1 _ rfl
    have h2 : DataW.trod enc Try.prog w base spare held n 3 (([d0, d1, d2, d3, d4, d5, d6, d7, d8, d9, d10].drop 2).take (Try.prog.cellsOf 3)) = xs[2]? := hf 2 _ rfl
    have h3 : DataW.trod enc Try.prog w base spare held n 3 (([d0, d1, d2, d3, d4, d5, d6, d7, d8, d9, d10].drop 3).take (Try.prog.cellsOf 3)) = xs[3]? := hf 3 _ rfl
    have h4 : DataW.trod enc Try.prog w base spare held n 4 (([d0, d1, d2, d3, d4, d5, d6, d7, d8, d9, d10].drop 4).take (Try.prog.cellsOf 4)) = xs[4]? := hf 4 _ rfl
    have h5 : DataW.trod enc Try.prog w base spare held n 34 (([d0, d1, d2, d3, d4, d5, d6, d7, d8, d9, d10].drop 5).take (Try.prog.cellsOf 34)) = xs[5]? := hf 5 _ rfl
    have h6 : DataW.trod enc Try.prog w base spare held n 34 (([d0, d1, d2, d3, d4, d5, d6, d7, d8, d9, d10].drop 6).take (Try.prog.cellsOf 34)) = xs[6]? := hf 6 _ rfl
    have h7 : DataW.trod enc Try.prog w base spare held n 34 (([d0, d1, d2, d3, d4, d5, d6, d7, d8, d9, d10].drop 7).take (Try.prog.cellsOf 34)) = xs[7]? := hf 7 _ rfl
    have h8 : DataW.trod enc Try.prog w base spare held n 34 (([d0, d1, d2, d3, d4, d5, d6, d7, d8, d9, d10].drop 8).take (Try.prog.cellsOf 34)) = xs[8]? := hf 8 _ rfl
    have h9 : DataW.trod enc Try.prog w base spare held n 35 (([d0, d1, d2, d3, d4, d5, d6, d7, d8, d9, d10].drop 9).take (Try.prog.cellsOf 35)) = xs[9]? := hf 9 _ rfl
    have h10 : DataW.trod enc Try.prog w base spare held n 36 (([d0, d1, d2, d3, d4, d5, d6, d7, d8, d9, d10].drop 10).take (Try.prog.cellsOf 36)) = xs[10]? := hf 10 _ rfl
    rw [clls9] at h0
    rw [clls3] at h1 h2 h3
    rw [clls4] at h4
    rw [clls34] at h5 h6 h7 h8
    rw [clls35] at h9
    rw [clls36] at h10
    have e : xs.length = 11 := by assumption
    match xs, e with
    | [y0, y1, y2, y3, y4, y5, y6, y7, y8, y9, y10], _ =>
      obtain ⟨s, e0, _⟩ := DataW.trod_string Try.underlying9 h0
      obtain ⟨a1, e1, _, k1⟩ := DataW.trod_int Try.underlying3 h1
      obtain ⟨a2, e2, _, k2⟩ := DataW.trod_int Try.underlying3 h2
      obtain ⟨a3, e3, _, k3⟩ := DataW.trod_int Try.underlying3 h3
      obtain ⟨b4, e4, _⟩ := DataW.trod_bool Try.underlying4 h4
      obtain ⟨A5, n5, c5, l5, e5, r5, m5⟩ := trod_rowS (v := d5) h5 (hwx 5 34 y5 rfl rfl)
      obtain ⟨A6, n6, c6, l6, e6, r6, m6⟩ := trod_rowS (v := d6) h6 (hwx 6 34 y6 rfl rfl)
      obtain ⟨A7, n7, c7, l7, e7, r7, m7⟩ := trod_rowS (v := d7) h7 (hwx 7 34 y7 rfl rfl)
      obtain ⟨A8, n8, c8, l8, e8, r8, m8⟩ := trod_rowS (v := d8) h8 (hwx 8 34 y8 rfl rfl)
      obtain ⟨A9, n9, c9, l9, e9, q9, r9, m9⟩ := trod_row (f := valCs) Try.underlying35 clls87 byts87 (by omega) (fun h _ => trod_val h) (v := d9) h9 (hwx 9 35 y9 rfl rfl)
      obtain ⟨A10, n10, c10, l10, e10, q10, r10, m10⟩ := trod_row (f := insCs) Try.underlying36 clls43 byts43 (by omega) (fun h _ => trod_ins h) (v := d10) h10 (hwx 10 36 y10 rfl rfl)
      simp at e0 e1 e2 e3 e4
      exact ⟨⟨(⟨s, a1, a2, a3, b4, l5, l6, l7, l8, l9, l10⟩, [d0, d1, d2, d3, d4, d5, d6, d7, d8, d9, d10]), ⟨A5, n5, c5, A6, n6, c6, A7, n7, c7, A8, n8, c8, A9, n9, c9, A10, n10, c10, by rw [e0, e1, e2, e3, e4, e5, e6, e7, e8, e9, e10], r5, r6, r7, r8, ⟨q9, r9⟩, ⟨q10, r10⟩, m5, m6, m7, m8, by unfold Most; omega, by unfold Most; omega⟩, rfl⟩, rfl⟩
set_option maxRecDepth 100000 in
theorem open_prog {r : Reach} {b0 : Nat} {v : Value} {d : DataW H} {p : List MemPlace} (hv : Value.okWide Try.prog w r b0 23 v) (h : DataW.Trod enc Try.prog w base spare held 23 v d p) (hw : Reach_ 23 d) :
    ∃ A n c ps, v = .slice A n c ∧ ProgAt w A n c ps := by
  obtain ⟨fuel, h⟩ := h
  obtain ⟨A, n, c, rfl⟩ := okWide_slice Try.underlying23 hv
  obtain ⟨A', n', c', xs, e, hl, hr, hm⟩ := trod_row (α := { q : CodeD × List Value // CodeAt w q.1 q.2 ∧ q.2.length = 11 }) (f := fun q => q.1.2) Try.underlying23 clls38 byts38 (by omega) (fun h hw => trod_code h hw) h hw
  cases e
  refine ⟨A, n, c, xs.map (·.1.1), rfl, by simpa using hl, ⟨xs.map (·.1.2), by simpa using hl, fun cs hc => ?_, fun i x cs hx hc => ?_, ?_⟩, by unfold Most; omega⟩
  · obtain ⟨z, _, rfl⟩ := List.mem_map.1 hc
    exact z.2.2
  · rw [List.getElem?_map] at hx hc
    obtain ⟨z, hz, rfl⟩ := Option.map_eq_some_iff.1 hx
    rw [hz] at hc
    obtain rfl := Option.some.inj hc
    exact z.2.1
  · rw [List.flatMap_map]
    exact hr
theorem trod_num {fuel : Nat} {cs : List Value} {x : DataW H × List MemPlace} (h : DataW.trod enc Try.prog w base spare held fuel 3 cs = some x) : ∃ v : Int, cs = [Value.int .i64 v] := by
  obtain ⟨a, e0, _, _⟩ := DataW.trod_int Try.underlying3 h
  exact ⟨a, e0⟩
theorem flatI (xs : List Int) : xs.flatMap (fun s => [Value.int .i64 s]) = xs.map (Value.int .i64) := by
  induction xs with
  | nil => rfl
  | cons x xs ih => simp only [List.flatMap_cons, ih]; rfl
theorem open_ints_ {r : Reach} {b0 : Nat} {v : Value} {d : DataW H} {p : List MemPlace} (hv : Value.okWide Try.prog w r b0 25 v) (h : DataW.Trod enc Try.prog w base spare held 25 v d p) (hw : Reach_ 25 d) :
    ∃ A n c, ∃ xs : List Int, v = .slice A n c ∧ xs.length = n ∧ Rd w A n c 1 (xs.map (Value.int .i64)) := by
  obtain ⟨fuel, h⟩ := h
  obtain ⟨A, n, c, rfl⟩ := okWide_slice Try.underlying25 hv
  obtain ⟨A', n', c', xs, e, hl, hr, hm⟩ := trod_row (f := fun s => [Value.int .i64 s]) Try.underlying25 clls3 byts3 (by omega) (fun h _ => trod_num h) h hw
  cases e
  rw [flatI] at hr
  exact ⟨A, n, c, xs, rfl, hl, hr⟩
theorem open_ins {r : Reach} {b0 : Nat} {v : Value} {d : DataW H} {p : List MemPlace} (hv : Value.okWide Try.prog w r b0 43 v) (h : DataW.Trod enc Try.prog w base spare held 43 v d p) : ∃ op a, v = .agg #[.int .i64 op, .int .i64 a] := by
  obtain ⟨cs, rfl, _⟩ := okWide_struct Try.underlying43 hv
  obtain ⟨fuel, h⟩ := h
  obtain ⟨x, e⟩ := trod_ins h
  obtain ⟨l⟩ := cs
  simp [Value.cells, insCs] at e
  exact ⟨x.1, x.2, by rw [e]⟩
end
end Go.Proofs.Ytgnejkmojfhfpaa
