/- What the table of instructions answers. -/
import Derived.Test.YtgnejkmojfhfpaaEfs
import Derived.Laws.EntriesVeiled
namespace Go.Proofs.Ytgnejkmojfhfpaa
open Go.RowKit
set_option linter.unusedVariables false
set_option linter.unusedSimpArgs false

theorem IsEff.keep {w w' : World} {g : Nat} (h : IsEff w g) (hg : w'.heap[g]? = w.heap[g]?) (hk : ∀ b t cs, Blk w b t cs → Blk w' b t cs) : IsEff w' g := by
  obtain ⟨es, clock, h1, h2, h3⟩ := h
  refine ⟨es, clock, hg.trans h1, fun e he => ?_, h3⟩
  obtain ⟨n, e1, e2⟩ := h2 e he
  exact ⟨n, e1, e2.keep hk⟩
theorem IsEff.lt {w : World} {g : Nat} (h : IsEff w g) : g < w.heap.size := by
  obtain ⟨es, clock, h1, _⟩ := h
  exact (Array.getElem?_eq_some_iff.1 h1).1
theorem IsEff.new {w w' : World} {g : Nat} (h : IsEff w g) (hb : Below w.heap.size w w') : IsEff w' g := h.keep (hb.block g h.lt) fun _ _ _ h => h.new' hb
theorem zero76 (w : World) : (zeroValue 76).run Try.prog w = .ok (.agg #[.nilFunc, .nilFunc, .int .i64 0]) w := by kernel_rfl
theorem eff_keys {w : World} {es : Array MapEntry} (h2 : ∀ e ∈ es.toList, ∃ n, e.key = .int .i64 n ∧ Entry w n e.val) : ∀ x ∈ es.toList, MapKept.IsKey (.int .i64) x.key := fun x hx => by
  obtain ⟨m, e1, _⟩ := h2 x hx
  rw [e1]
  rfl
theorem look_none {w : World} {g : Nat} (h : IsEff w g) {n : Int} (he : effOf n = none) {w' : World} (hw : w'.heap[g]? = w.heap[g]?) :
    (Instr.lookup 60 (.map (some g)) (.int .i64 n) true).run Try.prog w' = .ok (.tuple #[.agg #[.nilFunc, .nilFunc, .int .i64 0], .bool false]) w' := by
  obtain ⟨es, clock, h1, h2, h3⟩ := h
  have h1' : w'.heap[g]? = some (.map es clock) := hw.trans h1
  have hkey : MapKept.IsKey (.int .i64) (.int .i64 n) := rfl
  have hno : Instr.findNow (.int .i64) (.int .i64 n) es.toList 0 = some none := by
    rcases MapKept.findNow_spec hkey es.toList 0 (eff_keys h2) with ⟨e1, _⟩ | ⟨j, e, _, e2, e3⟩
    · exact e1
    · exfalso
      obtain ⟨m, e4, kd, tk, lv, vm, vt, e5, _⟩ := h2 e (List.mem_of_getElem? e2)
      rw [e4] at e3
      cases e3
      rw [he] at e5
      cases e5
  simp only [Instr.lookup, Sem.run_bind, run_underlying Try.underlying60, Result.andThen_ok, MapKept.run_getObj_map h1', MapKept.run_checkKey Try.underlying3 hkey, MapKept.run_findKey Try.underlying3 hno, zero76, Sem.run_pure, if_true]
theorem look_some {w : World} {g : Nat} (h : IsEff w g) {n : Int} {kd : Kd} {tk : Tk} {lv : Int} (he : effOf n = some (kd, tk, lv)) :
    ∃ vm vt, KdIs w vm kd ∧ TkIs w vt tk ∧ (∀ w', w'.heap[g]? = w.heap[g]? → (Instr.lookup 60 (.map (some g)) (.int .i64 n) true).run Try.prog w' = .ok (.tuple #[.agg #[vm, vt, .int .i64 lv], .bool true]) w') ∧
      (∀ w', w'.heap[g]? = w.heap[g]? → (Instr.lookup 60 (.map (some g)) (.int .i64 n) false).run Try.prog w' = .ok (.agg #[vm, vt, .int .i64 lv]) w') := by
  obtain ⟨es, clock, h1, h2, h3⟩ := h
  have hl := effOf_le he
  have hkey : MapKept.IsKey (.int .i64) (.int .i64 n) := rfl
  rcases MapKept.findNow_spec hkey es.toList 0 (eff_keys h2) with ⟨e1, e2⟩ | ⟨j, e, hf, e2, e3⟩
  · exfalso
    obtain ⟨e, e3, e4⟩ := h3 n hl.2.2.1 hl.2.2.2
    exact e2 e e3 e4
  · obtain ⟨m, e4, kd', tk', lv', vm, vt, e5, e6, e7, e8⟩ := h2 e (List.mem_of_getElem? e2)
    rw [e4] at e3
    cases e3
    rw [he] at e5
    cases e5
    refine ⟨vm, vt, e7, e8, fun w' hw => ?_, fun w' hw => ?_⟩
    · have h1' : w'.heap[g]? = some (.map es clock) := hw.trans h1
      simp only [Instr.lookup, Sem.run_bind, run_underlying Try.underlying60, Result.andThen_ok, MapKept.run_getObj_map h1', MapKept.run_checkKey Try.underlying3 hkey, MapKept.run_findKey Try.underlying3 hf, Sem.run_pure, if_true, e6]
    · have h1' : w'.heap[g]? = some (.map es clock) := hw.trans h1
      simp only [Instr.lookup, Sem.run_bind, run_underlying Try.underlying60, Result.andThen_ok, MapKept.run_getObj_map h1', MapKept.run_checkKey Try.underlying3 hkey, MapKept.run_findKey Try.underlying3 hf, Sem.run_pure, if_false, e6, Bool.false_eq_true]
theorem jumps_any (op : Int) (w : World) : Calls Try.prog 18 #[.int .i64 op] w fun e w' => e = .returned (.bool (jumpsB op)) ∧ w = w' := by
  by_cases h : (36 ≤ op ∧ op ≤ 40) ∨ op = 42 ∨ op = 47
  · rw [show jumpsB op = true from decide_eq_true h]
    have h' : op = 36 ∨ op = 37 ∨ op = 38 ∨ op = 39 ∨ op = 40 ∨ op = 42 ∨ op = 47 := by omega
    clear h
    rcases h' with rfl | rfl | rfl | rfl | rfl | rfl | rfl
    all_goals
      go_enter Try.func18, Try.ntmps18
      go_wp2_with fail
      go_ret
      exact ⟨rfl, rfl⟩
  · rw [show jumpsB op = false from decide_eq_false h]
    have h36 : (op == 36) = false := by simp; omega
    have h37 : (op == 37) = false := by simp; omega
    have h38 : (op == 38) = false := by simp; omega
    have h39 : (op == 39) = false := by simp; omega
    have h40 : (op == 40) = false := by simp; omega
    have h42 : (op == 42) = false := by simp; omega
    have h47 : (op == 47) = false := by simp; omega
    clear h
    go_enter Try.func18, Try.ntmps18
    go_wp2_with fail
    go_ret
    exact ⟨rfl, rfl⟩
end Go.Proofs.Ytgnejkmojfhfpaa
