/- ExpressOnes in plain words: all operators behind minuses, and behind nots. -/
import Derived.Test.YtjdcicopjipmnaaDoorBnp
namespace Go.Proofs.YtjdcicopjipmnaaDoor
set_option linter.unusedVariables false
set_option linter.unusedSimpArgs false
def restL (k : Nat) (x y : Int) : List TokD := ([numT x] ++ opT k) ++ [numT y]
/-- with these ahead: the last node -/
def oneOk (t : TokD) (op : Int) (inside : Bool) (k m : Nat) (x y : Int) : Bool := match parsed (rep [t] m ++ restL k x y) with
  | none => false
  | some r =>
    let T := treeOf r.1.ns
    decide (r.1.e = 0) && decide (T.length = 3 + m) && (match T[2 + m]? with
      | some nd => if inside then decide (nd.op = op) else decide (nd.op = opO k) && decide (nd.s = opX k)
      | none => false)
set_option maxRecDepth 100000 in
theorem minus_all (x y : Int) : ((List.range 18).all fun k => (List.range 8).all fun m => oneOk (signT gMinus) 10 (decide (opL k = 9)) k (m + 1) x y) = true := by kernel_rfl
set_option maxRecDepth 100000 in
theorem not_all (x y : Int) : ((List.range 18).all fun k => (List.range 8).all fun m => oneOk (wordT kNot) 11 (decide (4 < opL k)) k (m + 1) x y) = true := by kernel_rfl
theorem minus_ok (x y : Int) {k m : Nat} (hk : k < 18) (h1 : 1 ≤ m) (h8 : m ≤ 8) : oneOk (signT gMinus) 10 (decide (opL k = 9)) k m x y = true := by
  have := List.all_eq_true.1 (List.all_eq_true.1 (minus_all x y) k (List.mem_range.2 hk)) (m - 1) (List.mem_range.2 (by omega))
  rwa [show m - 1 + 1 = m from by omega] at this
theorem not_ok (x y : Int) {k m : Nat} (hk : k < 18) (h1 : 1 ≤ m) (h8 : m ≤ 8) : oneOk (wordT kNot) 11 (decide (4 < opL k)) k m x y = true := by
  have := List.all_eq_true.1 (List.all_eq_true.1 (not_all x y) k (List.mem_range.2 hk)) (m - 1) (List.mem_range.2 (by omega))
  rwa [show m - 1 + 1 = m from by omega] at this
theorem one_run {t : TokD} {op : Int} {ins : Bool} {k m : Nat} {x y : Int} (h : oneOk t op ins k m x y = true) : ∃ r nd, parsed (rep [t] m ++ restL k x y) = some r ∧ r.1.e = 0 ∧ (treeOf r.1.ns).length = 3 + m ∧ (treeOf r.1.ns)[2 + m]? = some nd ∧ ((ins = true ∧ nd.op = op) ∨ (ins = false ∧ nd.op = opO k ∧ nd.s = opX k)) := by
  unfold oneOk at h
  split at h
  · cases h
  · rename_i r hr
    simp only [Bool.and_eq_true, decide_eq_true_eq] at h
    obtain ⟨⟨h1, h2⟩, h3⟩ := h
    split at h3
    · rename_i nd hn
      refine ⟨r, nd, hr, h1, h2, hn, ?_⟩
      cases ins
      · simpa using h3
      · simpa using h3
    · cases h3
end Go.Proofs.YtjdcicopjipmnaaDoor
