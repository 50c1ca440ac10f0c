/- ExpressLambdas in plain words: all lambdas of up to 8 parameters. -/
import Derived.Test.YtjdcicopjipmnaaDoorShw
namespace Go.Proofs.YtjdcicopjipmnaaDoor
set_option linter.unusedVariables false
set_option linter.unusedSimpArgs false
def bitN (b i : Nat) : Bool := decide (b / 2 ^ i % 2 = 1)
def kP : ByteArray := ⟨#[112]⟩
/-- tokens, late, wrong, with: behind so many parameters -/
def lamS (b : Nat) : Nat → List TokD × Bool × Int × Nat
  | 0 => ([wordT kLambda], false, -1, 0)
  | i + 1 =>
    let s := lamS b i
    let l := if 0 < i then s.1 ++ [signT gComma] else s.1
    if bitN b i then (l ++ [wordT kP, signT gEq, numT i], true, s.2.2.1, s.2.2.2 + 1)
    else (l ++ [wordT kP], s.2.1, if s.2.1 = true ∧ s.2.2.1 < 0 then (l.length : Int) else s.2.2.1, s.2.2.2)
def lamL (b n : Nat) : List TokD := (lamS b n).1 ++ [signT gColon, wordT kP, wordT kIf, wordT kP, wordT kElse, wordT kLambda, signT gColon, numT 1]
def lamOk (b n : Nat) : Bool := match parsed (lamL b n) with
  | none => false
  | some r =>
    let T := treeOf r.1.ns
    if 0 ≤ (lamS b n).2.2.1 then decide (r.1.e = 30) && decide (usedOf r = (lamS b n).2.2.1) && decide (nodeOf r = -1)
    else decide (r.1.e = 0) && decide (usedOf r = (lamL b n).length) && decide (T.length = n + (lamS b n).2.2.2 + 6) &&
      (match T[T.length - 1]?, T[T.length - 2]? with
        | some x, some y => decide (x.op = 21) && decide (x.kids.length = n + 1) && decide (y.op = 16)
        | _, _ => false)
set_option maxRecDepth 100000 in
theorem lam_all : ((List.range 9).all fun n => (List.range (2 ^ n)).all fun b => lamOk b n) = true := by kernel_rfl
theorem bit_mod (b n i : Nat) (h : i < n) : bitN (b % 2 ^ n) i = bitN b i := by
  have h1 := Nat.testBit_mod_two_pow b n i
  rw [decide_eq_true h, Bool.true_and, Nat.testBit_eq_decide_div_mod_eq, Nat.testBit_eq_decide_div_mod_eq] at h1
  exact h1
theorem lamS_mod (b n : Nat) : ∀ i, i ≤ n → lamS (b % 2 ^ n) i = lamS b i
  | 0, _ => rfl
  | i + 1, h => by
    unfold lamS
    rw [lamS_mod b n i (by omega), bit_mod b n i (by omega)]
theorem lam_ok (b n : Nat) (hn : n ≤ 8) : lamOk b n = true := by
  have h1 := List.all_eq_true.1 (List.all_eq_true.1 lam_all n (List.mem_range.2 (by omega))) (b % 2 ^ n) (List.mem_range.2 (Nat.mod_lt _ (Nat.two_pow_pos n)))
  unfold lamOk lamL at h1 ⊢
  rw [lamS_mod b n n (Nat.le_refl _)] at h1
  exact h1
end Go.Proofs.YtjdcicopjipmnaaDoor
