/- The reference's flow: how it begins. -/
import Derived.Test.YtgnejkmojfhfpaaRfs
import Derived.Test.YtgnejkmojfhfpaaHmk
namespace Go.Proofs.Ytgnejkmojfhfpaa
open Go.RowKit
set_option linter.unusedVariables false
set_option linter.unusedSimpArgs false

theorem info_St : (Try.prog.info? 41).map (fun i => (i.zero, i.size, i.bytes)) = some (some (.agg #[.int .i64 0, .slice none 0 0]), 2, 32) := by kernel_rfl
theorem made_st (n : Nat) : madeCells #[.int .i64 0, .slice none 0 0] (n * 2) = ((List.replicate n ((0, none, 0, 0) : StC)).flatMap stCs).toArray := by
  apply Array.ext
  · rw [size_madeCells, List.size_toArray, flat_len, List.length_replicate]
  · intro i h1 h2
    rw [size_madeCells] at h1
    have hf := flat_at (f := stCs) (m := 2) (List.replicate n ((0, none, 0, 0) : StC)) (i / 2) (i % 2) (0, none, 0, 0) (#[Value.int .i64 0, .slice none 0 0][i % 2]'(by simp; omega)) (fun _ _ => rfl)
      (by rw [List.getElem?_replicate, if_pos (by omega)]) (by
        have hm : i % 2 = 0 ∨ i % 2 = 1 := by omega
        rcases hm with h | h <;> simp [h, stCs])
    rw [show i / 2 * 2 + i % 2 = i by omega] at hf
    have h3 := List.getElem?_eq_getElem (by simpa using h2 : i < ((List.replicate n ((0, none, 0, 0) : StC)).flatMap stCs).length)
    rw [h3] at hf
    injection hf with hf
    have e2 : ((List.replicate n ((0, none, 0, 0) : StC)).flatMap stCs).toArray[i]'h2 = ((List.replicate n ((0, none, 0, 0) : StC)).flatMap stCs)[i]'(by simpa using h2) := List.getElem_toArray _
    rw [e2, hf]
    have hm : i % 2 = 0 ∨ i % 2 = 1 := by omega
    rcases hm with h | h <;> simp [madeCells, h]
theorem make_S (n : Nat) (hn : n ≤ 8796093022208) (w : World) : (Instr.makeSlice 100 (.int .i64 (n : Int)) (.int .i64 (n : Int))).run Try.prog w = .ok (.slice (some ⟨w.heap.size, 0, none⟩) n n) (w.alloc (.cells ((List.replicate n ((0, none, 0, 0) : StC)).flatMap stCs).toArray 41)) := by
  obtain ⟨i0, hi, hz0, hz1, hz2⟩ := info_parts info_St
  have := run_make_rowN (P := Try.prog) 100 41 i0 _ Try.underlying100 hi hz0 .i64 .i64 n n (Nat.le_refl _) (by rw [hz2]; omega) (by omega) w
  rw [hz1] at this
  rw [this, ← made_st]
  rfl
theorem bvs_rep (n : Nat) (v : Bool) : (bvs (List.replicate n v)).toArray = Array.replicate n (.bool v) := by
  apply Array.ext'
  simp [bvs]
theorem rstart (W : World) (n : Nat) (hn : 0 < n) :
    RfAt W n (W.heap.size + 1 + 1) W.heap.size (W.heap.size + 1) (((W.alloc (.cells ((Array.replicate n (.bool false)).setIfInBounds 0 (.bool true)) 4)).alloc (.cells (Array.replicate n (.bool false)) 4)).alloc (.cells ((List.replicate n ((0, none, 0, 0) : StC)).flatMap stCs).toArray 41))
      (startF n) ((List.replicate n false).set 0 true) (List.replicate n false) (List.replicate n (0, none, 0, 0)) := by
  have z1 : (W.alloc (.cells ((Array.replicate n (.bool false)).setIfInBounds 0 (.bool true)) 4)).heap.size = W.heap.size + 1 := by simp
  have z2 : ((W.alloc (.cells ((Array.replicate n (.bool false)).setIfInBounds 0 (.bool true)) 4)).alloc (.cells (Array.replicate n (.bool false)) 4)).heap.size = W.heap.size + 1 + 1 := by simp
  have b1 := ((Blk.new W 4 ((Array.replicate n (.bool false)).setIfInBounds 0 (.bool true))).alloc (.cells (Array.replicate n (.bool false)) 4)).alloc (.cells ((List.replicate n ((0, none, 0, 0) : StC)).flatMap stCs).toArray 41)
  have b2 := (Blk.new (W.alloc (.cells ((Array.replicate n (.bool false)).setIfInBounds 0 (.bool true)) 4)) 4 (Array.replicate n (.bool false))).alloc (.cells ((List.replicate n ((0, none, 0, 0) : StC)).flatMap stCs).toArray 41)
  have b3 := Blk.new ((W.alloc (.cells ((Array.replicate n (.bool false)).setIfInBounds 0 (.bool true)) 4)).alloc (.cells (Array.replicate n (.bool false)) 4)) 41 ((List.replicate n ((0, none, 0, 0) : StC)).flatMap stCs).toArray
  rw [z1] at b2
  rw [z2] at b3
  clear z1 z2
  refine ⟨(by repeat (first | exact Below.refl _ _ | assumption | refine Below.setCell ?_ (by first | (simp; done) | (simp; omega) | omega) _ | refine below_drewN ?_ _ | refine Below.drew ?_ | refine Below.alloc ?_ (by first | (simp; done) | (simp; omega) | omega) _)), by omega, by omega, by omega, by omega, by simp [startF], by simp [startF], by simp, by simp, by simp, ?_, ?_, b3, fun i o b d p q h1 h2 h3 h4 h5 => ?_⟩
  · rw [bvs_set, bvs_rep]
    exact b1
  · rw [bvs_rep]
    exact b2
  · simp only [startF, List.getElem?_set, List.getElem?_replicate, List.length_replicate] at h1 h2 h3 h4 h5
    by_cases e : 0 = i
    · subst e
      simp only [if_true, hn] at h1 h2 h3 h4 h5
      cases h1
      cases h2
      cases h3
      cases h4
      cases h5
      exact ⟨rfl, rfl, rfl, ⟨rfl, Rd.nil_.2 (by show (0 : Nat) ≤ 9223372036854775807; omega)⟩, fun b o e => by cases e⟩
    · simp only [if_neg e] at h1 h2 h4
      split at h1
      · rename_i hlt
        simp only [hlt, if_true] at h2 h3 h4
        cases h1
        cases h2
        cases h3
        cases h4
        exact ⟨rfl, rfl, rfl⟩
      · cases h1
theorem start_undone {p : ProgD} {ins : List (Int × Int)} : undone (startF ins.length) ≤ ins.length := by
  unfold undone
  have := List.countP_le_length (p := fun i => !doneB (startF ins.length) i) (l := List.range (startF ins.length).st.length)
  simp only [startF, List.length_range, List.length_set, List.length_replicate] at this ⊢
  omega
/-- what holds ahead of each look of the reference -/
def FlowI (w : World) (n sb kb db : Nat) (p : ProgD) (ins : List (Int × Int)) (W : World) (i k : Nat) : Prop := ∃ f kn dn ss q,
  RfAt w n sb kb db W f kn dn ss ∧ Good p ins q f ∧ Deep f q ∧ q + undone f ≤ n ∧ (∀ j : Nat, j < i → f.op[j]? ≠ some true) ∧ undone f * (n + 1) + (n - i) < k ∧ runE p ins f = runE p ins (startF n)
theorem wpList_appendN {ops : Array Oper} {rest : List Oper} {o : Oper} {a : Act} {Q : Exit → Act → World → Prop} (w : World) (hgd : o.guard = none) (s x : Operand)
    (ho : o.op = .call { callee := .builtin .append, args := #[s, x], argTypes := #[25, 25] })
    (v : Value) (n : Nat) (xs : List Value) (hs : a.eval s = v) (hown : Own w 3 1 v n xs)
    (g : Nat) (y : Int) (hx : a.eval x = .slice (some ⟨g, 0, none⟩) 1 1) (hr : w.cell? ⟨g, 0, none⟩ = some (.int .i64 y)) (hg : g < w.heap.size) (hn : n ≤ 1000000)
    (h : ∀ v' w', Own w' 3 1 v' (n + 1) (xs ++ [.int .i64 y]) → w.grownBy w' v.ownBlock → (v'.ownBlock = v.ownBlock ∨ v'.ownBlock = some w.heap.size) → wpList Try.prog ops Q rest (a.put o.dst v') w') : wpList Try.prog ops Q (o :: rest) a w := by
  obtain ⟨i0, hi, hz0, hz1, hz2⟩ := info_parts info_I
  refine wpList_append_Own (P := Try.prog) w hgd s x 25 ho 3 i0 _ 1 8 Try.underlying25 hi hz0 hz1 hz2 rfl v n xs hs hown (some ⟨g, 0, none⟩) 1 1 [.int .i64 y] hx ⟨by omega, by omega, rfl, fun _ => ⟨g, 0, rfl, hg, fun j u hu => ?_⟩⟩ (fun u hu => by simp at hu; rw [hu]; rfl) (by omega) (by omega) h
  cases j with
  | zero => simp at hu; subst hu; simpa using hr
  | succ j => simp at hu
/-- the heights so far -/
def hgs (f : Fl) (j : Nat) : List Value := (f.st.take j).map fun o => Value.int .i64 (heightOf o)
theorem hgs_next {f : Fl} {j : Nat} {o : Option St} (ho : f.st[j]? = some o) : hgs f j ++ [.int .i64 (heightOf o)] = hgs f (j + 1) := by
  unfold hgs
  rw [List.take_add_one, ho]
  simp
end Go.Proofs.Ytgnejkmojfhfpaa
