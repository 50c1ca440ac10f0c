/- ExpressBinds in plain words: all pairs of operators. -/
import Derived.Test.YtjdcicopjipmnaaDoorOpr
namespace Go.Proofs.YtjdcicopjipmnaaDoor
set_option linter.unusedVariables false
set_option linter.unusedSimpArgs false
def bindL (i k : Nat) (a b c : Int) : List TokD := (([numT a] ++ opT i) ++ [numT b] ++ opT k) ++ [numT c]
def bindLeft (i k : Nat) : Bool := decide (opL k < opL i) || (decide (opL i = opL k) && decide (opL i ≠ 9))
def nodeIs (T : List NodeD) (j : Nat) (op : Int) (s : ByteArray) (kids : List Int) : Bool := match T[j]? with
  | some x => decide (x.op = op) && decide (x.s = s) && decide (x.kids = kids)
  | none => false
theorem nodeIs_at {T : List NodeD} {j : Nat} {op : Int} {s : ByteArray} {kids : List Int} (h : nodeIs T j op s kids = true) : ∃ a n, T[j]? = some ⟨op, a, s, n, kids⟩ := by
  unfold nodeIs at h
  split at h
  · rename_i x hx
    simp only [Bool.and_eq_true, decide_eq_true_eq] at h
    obtain ⟨⟨rfl, rfl⟩, rfl⟩ := h
    exact ⟨x.at_, x.n, hx⟩
  · cases h
def bindOk (i k : Nat) (a b c : Int) : Bool := match parsed (bindL i k a b c) with
  | none => false
  | some r =>
    let T := treeOf r.1.ns
    if opL i = 5 ∧ opL k = 5 then decide (r.1.e = 30) && decide (usedOf r = 2 + (opT i).length)
    else decide (r.1.e = 0) && decide (nodeOf r = 4) && decide (usedOf r = (bindL i k a b c).length) && decide (T.length = 5) &&
      (if bindLeft i k then nodeIs T 4 (opO k) (opX k) [2, 3] && nodeIs T 2 (opO i) (opX i) [0, 1]
       else nodeIs T 4 (opO i) (opX i) [0, 3] && nodeIs T 3 (opO k) (opX k) [1, 2])
set_option maxRecDepth 100000 in
theorem bind_all (a b c : Int) : ((List.range 18).all fun i => (List.range 18).all fun k => bindOk i k a b c) = true := by kernel_rfl
theorem bind_ok (a b c : Int) {i k : Nat} (hi : i < 18) (hk : k < 18) : bindOk i k a b c = true :=
  List.all_eq_true.1 (List.all_eq_true.1 (bind_all a b c) i (List.mem_range.2 hi)) k (List.mem_range.2 hk)
end Go.Proofs.YtjdcicopjipmnaaDoor
