/- Arguments opened: a program, and how much it is. -/
import Derived.Test.YtcfelfhjhkenaaaDoorOpn
import Derived.Test.YtcfelfhjhkenaaaDoorTxw
import Derived.Test.YtcfelfhjhkenaaaDoorLNa
import Derived.Lib.ItoaLen
import Derived.Test.YtcfelfhjhkenaaaDoorRows
namespace Go.Proofs.YtcfelfhjhkenaaaDoor
open Go.ChangeShapes Go.WideShapes Go.ChangeAt Go.RowKit Go.WideElems Go.Deep
set_option linter.unusedVariables false
set_option linter.unusedSimpArgs false

theorem bulk_one {H : Type} (d : DataW H) : 1 ≤ Rows.uptoBulk d := by
  cases d with
  | lit l => cases l <;> simp [Rows.uptoBulk]
  | nil => simp [Rows.uptoBulk]
  | ptr d => simp [Rows.uptoBulk]
  | slice elems spare => simp [Rows.uptoBulk]
  | agg parts => simp [Rows.uptoBulk]
  | iface t d => simp [Rows.uptoBulk]
  | map entries => simp [Rows.uptoBulk]
  | held h => simp [Rows.uptoBulk]
theorem bulkAll_append {H : Type} (l r : List (DataW H)) : Rows.uptoBulkAll (l ++ r) = Rows.uptoBulkAll l + Rows.uptoBulkAll r := by
  induction l with
  | nil => simp [Rows.uptoBulkAll]
  | cons x l ih => simp only [List.cons_append, Rows.uptoBulkAll, ih]; omega
theorem bulkAll_len {H : Type} (l : List (DataW H)) : l.length ≤ Rows.uptoBulkAll l := by
  induction l with
  | nil => simp [Rows.uptoBulkAll]
  | cons x r ih => have := bulk_one x; simp only [Rows.uptoBulkAll, List.length_cons]; omega
/-- how much a code is -/
def codeWt (c : CodeD) : Nat := 1 + c.name.size + c.ins.length
section
variable {H : Type} {enc : TypeId × Value → H} {w : World} {base : Nat} {spare : Nat → Bool} {held : Bool}
theorem slice_wt {e t : TypeId} (ht : Tryd.prog.underlying t = some (.slice e)) {fuel : Nat} {A : Option Addr} {n c : Nat} {x : DataW H × List MemPlace} (h : DataW.trod enc Tryd.prog w base spare held fuel t [.slice A n c] = some x) : n ≤ Rows.uptoBulk x.1 := by
  rcases open_slice ht h with ⟨e1, ex⟩ | ⟨a, len, cap, m, k, D, Pl, e1, _, hl, hm, hmm, ex, hi⟩
  · injection e1 with e1
    injection e1 with e1 e2 e3
    omega
  · injection e1 with e1
    injection e1 with e1 e2 e3
    rw [ex]
    have := bulkAll_len ((List.range len).map D)
    simp only [Rows.uptoBulk]
    simp only [List.length_map, List.length_range] at this
    omega
/-- a slice of elements of sz cells each, that each read as cells that f gives, reads as a row -/
theorem trod_rowB {α : Type} {wt : α → Nat} {e t : TypeId} {sz : Nat} {f : α → List Value} (ht : Tryd.prog.underlying t = some (.slice e)) (hsz : Tryd.prog.cellsOf e = sz) (hpos : 0 < sz)
    (hrd : ∀ {fuel : Nat} {cs : List Value} {x : DataW H × List MemPlace}, DataW.trod enc Tryd.prog w base spare held fuel e cs = some x → ∃ v : α, cs = f v ∧ wt v ≤ Rows.uptoBulk x.1)
    {fuel : Nat} {v : Value} {x : DataW H × List MemPlace} (h : DataW.trod enc Tryd.prog w base spare held fuel t [v] = some x) :
    ∃ (A : Option Addr) (n c : Nat) (xs : List α), v = .slice A n c ∧ xs.length = n ∧ Rd w A n c sz (xs.flatMap f) ∧ (xs.map wt).sum ≤ Rows.uptoBulk x.1 := by
  rcases open_slice ht h with ⟨e1, ex⟩ | ⟨a, len, cap, m, n, D, Pl, e1, _, hl, hm, hmm, ex, hi⟩
  · injection e1 with e1
    exact ⟨none, 0, 0, [], e1, rfl, Rd.nil_.2 (by omega), by simp⟩
  · injection e1 with e1
    have hlm : len ≤ m := by rw [hmm]; split <;> omega
    have hex : ∀ i, i < len → ∃ u : α, (f u).length = sz ∧ (∀ j, j < sz → w.cell? (a.add (i * sz + j)) = (f u)[j]?) ∧ wt u ≤ Rows.uptoBulk (D i) := by
      intro i hi'
      obtain ⟨cs', hc, hy⟩ := hi i (by omega)
      rw [hsz] at hc
      obtain ⟨_, hcl, hat⟩ := World.cells?_some hc
      obtain ⟨u, rfl, hu⟩ := hrd hy
      refine ⟨u, hcl, fun j hj => ?_, hu⟩
      rw [← Go.Deep.add_add, hat j hj]
    have hxs : ∀ k, k ≤ len → ∃ xs : List α, xs.length = k ∧ (xs.flatMap f).length = k * sz ∧ (∀ j, j < k * sz → w.cell? (a.add j) = (xs.flatMap f)[j]?) ∧ (xs.map wt).sum ≤ Rows.uptoBulkAll ((List.range k).map D) := by
      intro k
      induction k with
      | zero => exact fun _ => ⟨[], rfl, by simp, fun j hj => by simp at hj, by simp⟩
      | succ k ih =>
        intro hk
        obtain ⟨xs, h1, h2, h3, hs⟩ := ih (by omega)
        obtain ⟨u, h4, h5, hu⟩ := hex k (by omega)
        refine ⟨xs ++ [u], by simp [h1], by simp [h2, h4, Nat.succ_mul], fun j hj => ?_, by
          rw [List.range_succ]
          simp only [List.map_append, bulkAll_append, List.sum_append, List.map_cons, List.map_nil, Rows.uptoBulkAll, List.sum_cons, List.sum_nil]
          omega⟩
        rw [List.flatMap_append]
        by_cases hjk : j < k * sz
        · rw [h3 j hjk, List.getElem?_append_left (by omega)]
        · have h6 := h5 (j - k * sz) (by rw [Nat.succ_mul] at hj; omega)
          rw [show k * sz + (j - k * sz) = j from by omega] at h6
          rw [h6, List.getElem?_append_right (by omega), h2]
          simp
    obtain ⟨xs, h1, h2, h3, hs⟩ := hxs len (Nat.le_refl _)
    refine ⟨some a, len, cap, xs, e1, h1, ⟨hl, by simpa [maxLen] using hm, h2, fun hn => ?_⟩, by rw [ex]; simp only [Rows.uptoBulk]; omega⟩
    have hall : ∀ j u, (xs.flatMap f)[j]? = some u → w.cell? (a.add j) = some u := by
      intro j u hu
      have hj : j < len * sz := by rw [← h2]; exact (List.getElem?_eq_some_iff.1 hu).1
      rw [h3 j hj, hu]
    have h0 : (xs.flatMap f)[0]? = some ((xs.flatMap f)[0]'(by rw [h2]; exact Nat.mul_pos hn hpos)) := List.getElem?_eq_getElem _
    have hc0 := hall 0 _ h0
    obtain ⟨b, o, sp⟩ := a
    cases sp with
    | some q =>
      exfalso
      revert hc0
      unfold World.cell? Addr.add
      split <;> (try split) <;> simp_all
    | none =>
      have hadd : ∀ j, (⟨b, o, none⟩ : Addr).add j = ⟨b, o + j, none⟩ := fun j => by unfold Addr.add; split <;> simp_all
      rw [hadd] at hc0
      exact ⟨b, o, rfl, cell_lt hc0, fun j u hu => by rw [← hadd]; exact hall j u hu⟩
set_option maxRecDepth 100000 in
theorem trod_codeB {fuel : Nat} {cs : List Value} {x : DataW H × List MemPlace} (h : DataW.trod enc Tryd.prog w base spare held fuel 49 cs = some x) : ∃ q : { q : CodeD × List Value // CodeAt w q.1 q.2 ∧ q.2.length = 11 ∧ q.1.Ok ∧ q.1.Num }, cs = q.1.2 ∧ codeWt q.1.1 ≤ Rows.uptoBulk x.1 := by
  obtain ⟨xs, n, _, ex, hl, hx, hf⟩ := DataW.trod_struct Tryd.underlying49 h
  rw [cells49] at hl
  match cs, hl with
  | [d0, d1, d2, d3, d4, d5, d6, d7, d8, d9, d10], _ =>
    have h0 : DataW.trod enc Tryd.prog w base spare held n 9 (([d0, d1, d2, d3, d4, d5, d6, d7, d8, d9, d10].drop 0).take (Tryd.prog.cellsOf 9)) = xs[0]? := hf 0 _ rfl
    have h1 : DataW.trod enc Tryd.prog w base spare held n 3 (([d0, d1, d2, d3, d4, d5, d6, d7, d8, d9, d10].drop 1).take (Tryd.prog.cellsOf 3)) = xs[1]? := hf 1 _ rfl
    have h2 : DataW.trod enc Tryd.prog w base spare held n 3 (([d0, d1, d2, d3, d4, d5, d6, d7, d8, d9, d10].drop 2).take (Tryd.prog.cellsOf 3)) = xs[2]? := hf 2 _ rfl
    have h3 : DataW.trod enc Tryd.prog w base spare held n 3 (([d0, d1, d2, d3, d4, d5, d6, d7, d8, d9, d10].drop 3).take (Tryd.prog.cellsOf 3)) = xs[3]? := hf 3 _ rfl
    have h4 : DataW.trod enc Tryd.prog w base spare held n 4 (([d0, d1, d2, d3, d4, d5, d6, d7, d8, d9, d10].drop 4).take (Tryd.prog.cellsOf 4)) = xs[4]? := hf 4 _ rfl
    have h5 : DataW.trod enc Tryd.prog w base spare held n 45 (([d0, d1, d2, d3, d4, d5, d6, d7, d8, d9, d10].drop 5).take (Tryd.prog.cellsOf 45)) = xs[5]? := hf 5 _ rfl
    have h6 : DataW.trod enc Tryd.prog w base spare held n 45 (([d0, d1, d2, d3, d4, d5, d6, d7, d8, d9, d10].drop 6).take (Tryd.prog.cellsOf 45)) = xs[6]? := hf 6 _ rfl
    have h7 : DataW.trod enc Tryd.prog w base spare held n 45 (([d0, d1, d2, d3, d4, d5, d6, d7, d8, d9, d10].drop 7).take (Tryd.prog.cellsOf 45)) = xs[7]? := hf 7 _ rfl
    have h8 : DataW.trod enc Tryd.prog w base spare held n 45 (([d0, d1, d2, d3, d4, d5, d6, d7, d8, d9, d10].drop 8).take (Tryd.prog.cellsOf 45)) = xs[8]? := hf 8 _ rfl
    have h9 : DataW.trod enc Tryd.prog w base spare held n 46 (([d0, d1, d2, d3, d4, d5, d6, d7, d8, d9, d10].drop 9).take (Tryd.prog.cellsOf 46)) = xs[9]? := hf 9 _ rfl
    have h10 : DataW.trod enc Tryd.prog w base spare held n 47 (([d0, d1, d2, d3, d4, d5, d6, d7, d8, d9, d10].drop 10).take (Tryd.prog.cellsOf 47)) = xs[10]? := hf 10 _ rfl
    rw [cells9] at h0
    rw [cells3] at h1 h2 h3
    rw [cells4] at h4
    rw [cells45] at h5 h6 h7 h8
    rw [cells46] at h9
    rw [cells47] at h10
    have e : xs.length = 11 := by assumption
    match xs, e with
    | [y0, y1, y2, y3, y4, y5, y6, y7, y8, y9, y10], _ =>
      obtain ⟨s, e0, x0, _⟩ := DataW.trod_string Tryd.underlying9 h0
      obtain ⟨a1, e1, _, k1⟩ := DataW.trod_int Tryd.underlying3 h1
      obtain ⟨a2, e2, _, k2⟩ := DataW.trod_int Tryd.underlying3 h2
      obtain ⟨a3, e3, _, k3⟩ := DataW.trod_int Tryd.underlying3 h3
      obtain ⟨b4, e4, _⟩ := DataW.trod_bool Tryd.underlying4 h4
      obtain ⟨A5, n5, c5, l5, e5, r5⟩ := trod_rowS (v := d5) h5
      obtain ⟨A6, n6, c6, l6, e6, r6⟩ := trod_rowS (v := d6) h6
      obtain ⟨A7, n7, c7, l7, e7, r7⟩ := trod_rowS (v := d7) h7
      obtain ⟨A8, n8, c8, l8, e8, r8⟩ := trod_rowS (v := d8) h8
      obtain ⟨A9, n9, c9, l9, e9, r9, q9⟩ := trod_rowF (Q := ValD.Ok) Tryd.underlying46 cells77 (by omega) trod_val (v := d9) h9
      obtain ⟨A10, n10, c10, l10, e10, r10, q10⟩ := trod_rowF (Q := fun v : Int × Int => I64 v.2) Tryd.underlying47 cells64 (by omega) trod_ins (v := d10) h10
      have b10 := slice_wt Tryd.underlying47 (e10 ▸ h10)
      simp at e0 e1 e2 e3 e4
      refine ⟨⟨(⟨s, a1, a2, a3, b4, l5, l6, l7, l8, l9, l10⟩, [d0, d1, d2, d3, d4, d5, d6, d7, d8, d9, d10]), ⟨A5, n5, c5, A6, n6, c6, A7, n7, c7, A8, n8, c8, A9, n9, c9, A10, n10, c10, by rw [e0, e1, e2, e3, e4, e5, e6, e7, e8, e9, e10], r5, r6, r7, r8, r9, r10⟩, rfl, q9, wf_i64 k1, wf_i64 k2, wf_i64 k3, q10⟩, rfl, by
        have hn : l10.length = n10 := r10.1
        rw [ex]
        simp only [codeWt, Rows.uptoBulk, List.map_cons, List.map_nil, Rows.uptoBulkAll, x0]
        have : s.data.toList.length = s.size := sizeB s
        omega⟩
set_option maxRecDepth 100000 in
theorem open_progB {r : Reach} {b0 : Nat} {v : Value} {d : DataW H} {p : List MemPlace} (hv : Value.okWide Tryd.prog w r b0 23 v) (h : DataW.Trod enc Tryd.prog w base spare held 23 v d p) :
    ∃ A n c ps, v = .slice A n c ∧ ProgAt w A n c ps ∧ (∀ q ∈ ps, q.Ok) ∧ (∀ q ∈ ps, q.Num) ∧ (ps.map codeWt).sum ≤ Rows.uptoBulk d := by
  obtain ⟨fuel, h⟩ := h
  obtain ⟨A, n, c, rfl⟩ := okWide_slice Tryd.underlying23 hv
  obtain ⟨A', n', c', xs, e, hl, hr, hw⟩ := trod_rowB (wt := fun q => codeWt q.1.1) (α := { q : CodeD × List Value // CodeAt w q.1 q.2 ∧ q.2.length = 11 ∧ q.1.Ok ∧ q.1.Num }) (f := fun q => q.1.2) Tryd.underlying23 cells49 (by omega) trod_codeB h
  cases e
  refine ⟨A, n, c, xs.map (·.1.1), rfl, ⟨by simpa using hl, xs.map (·.1.2), by simpa using hl, fun cs hc => ?_, fun i x cs hx hc => ?_, ?_⟩, fun q hq => ?_, fun q hq => ?_, by rw [List.map_map]; exact hw⟩
  · obtain ⟨z, _, rfl⟩ := List.mem_map.1 hc
    exact z.2.2.1
  · rw [List.getElem?_map] at hx hc
    obtain ⟨z, hz, rfl⟩ := Option.map_eq_some_iff.1 hx
    rw [hz] at hc
    obtain rfl := Option.some.inj hc
    exact z.2.1
  · rw [List.flatMap_map]
    exact hr
  · obtain ⟨z, _, rfl⟩ := List.mem_map.1 hq
    exact z.2.2.2.1
  · obtain ⟨z, _, rfl⟩ := List.mem_map.1 hq
    exact z.2.2.2.2
end
theorem numbered_le {α : Type} {f : Nat → α → List UInt8} {g : α → Nat} {m : Nat} : ∀ (l : List α) (i : Nat), i + l.length ≤ m → (∀ k x, x ∈ l → k ≤ m → (f k x).length ≤ g x) → (numbered f i l).length ≤ (l.map g).sum
  | [], i, _, _ => by simp [numbered]
  | x :: l, i, hi, h => by
    simp only [numbered, List.length_append, List.map_cons, List.sum_cons]
    simp only [List.length_cons] at hi
    have h1 := h i x (by simp) (by omega)
    have h2 := numbered_le (f := f) (g := g) l (i + 1) (by omega) fun k y hy hk => h k y (by simp [hy]) hk
    omega
theorem words_small : ∀ x ∈ wordsL, x.length ≤ 16 := by decide +kernel
theorem name_len (op : Int) : (nameB op).length ≤ 16 := by
  rcases Classical.em (1 ≤ op ∧ op < 57) with h | h
  · obtain ⟨i, _, hi, e⟩ := nameB_in h
    rw [e]
    exact words_small _ (List.getElem_mem hi)
  · rw [nameB_out h]
    decide
theorem insT_len {k : Nat} {x : Int × Int} (hk : k ≤ 9223372036854775807) (hx : I64 x.2) : (insT k x).length ≤ 80 := by
  have h1 := Lib.itoa_length_le (k : Int) (by omega) (by omega)
  have h2 := Lib.itoa_length_le x.2 hx.1 hx.2
  have h3 := name_len x.1
  unfold insT
  split <;> simp only [List.length_append, List.length_cons, List.length_nil] <;> omega
theorem codeT_len {k : Nat} {c : CodeD} (hk : k ≤ 9223372036854775807) (hc : c.Num) (hl : c.ins.length ≤ 9223372036854775807) : (codeT k c).length ≤ 200 * codeWt c := by
  have h1 := Lib.itoa_length_le (k : Int) (by omega) (by omega)
  have h2 := Lib.itoa_length_le c.kind hc.1.1 hc.1.2
  have h3 := Lib.itoa_length_le c.params hc.2.1.1 hc.2.1.2
  have h4 := Lib.itoa_length_le c.defaults hc.2.2.1.1 hc.2.2.1.2
  have h5 := numbered_le (f := insT) (g := fun _ => 80) (m := 9223372036854775807) c.ins 0 (by omega) fun k x hx hk => insT_len hk (hc.2.2.2 x hx)
  have h6 : (c.ins.map fun _ => 80).sum = 80 * c.ins.length := by
    induction c.ins with
    | nil => rfl
    | cons x l ih => simp only [List.map_cons, List.sum_cons, List.length_cons, ih]; omega
  have h7 : c.name.data.toList.length = c.name.size := sizeB c.name
  have h8 : (if c.gen then [32, 103, 101, 110] else [] : List UInt8).length ≤ 4 := by split <;> simp
  unfold codeT headT codeWt
  simp only [List.length_append, List.length_cons, List.length_nil]
  omega
theorem wt_mul (p : List CodeD) : (p.map fun c => 200 * codeWt c).sum = 200 * (p.map codeWt).sum := by
  induction p with
  | nil => rfl
  | cons x p ih => simp only [List.map_cons, List.sum_cons, ih]; omega
theorem wt_mem {p : List CodeD} {c : CodeD} (h : c ∈ p) : codeWt c ≤ (p.map codeWt).sum := by
  induction p with
  | nil => cases h
  | cons x p ih =>
    simp only [List.map_cons, List.sum_cons]
    rcases List.mem_cons.1 h with rfl | h
    · omega
    · have := ih h; omega
theorem wt_len (p : List CodeD) : p.length ≤ (p.map codeWt).sum := by
  induction p with
  | nil => simp
  | cons x p ih =>
    simp only [List.map_cons, List.sum_cons, List.length_cons]
    have : 1 ≤ codeWt x := by unfold codeWt; omega
    omega
theorem text_small {p : List CodeD} (hn : ∀ x ∈ p, x.Num) (hw : (p.map codeWt).sum ≤ 1048576) : (textT p).length ≤ 140737488355328 := by
  have h0 := wt_len p
  have h1 := numbered_le (f := codeT) (g := fun c => 200 * codeWt c) (m := 9223372036854775807) p 0 (by omega) fun k x hx hk => codeT_len hk (hn x hx) (by
    have h2 := wt_mem hx
    have h3 : x.ins.length ≤ codeWt x := by unfold codeWt; omega
    omega)
  rw [wt_mul] at h1
  unfold textT
  omega
end Go.Proofs.YtcfelfhjhkenaaaDoor
