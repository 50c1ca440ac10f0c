/- An atom behind which nothing goes on is an expression (plain); the parse of a word ahead of a number. -/
import Derived.Test.YtjdcicopjipmnaaDoorShw
namespace Go.Proofs.YtjdcicopjipmnaaDoor
set_option linter.unusedVariables false
set_option linter.unusedSimpArgs false
/-- all with which an expression goes on -/
def opsL : List ByteArray := [gDot, gLp, gLb, gPow, gStar, gDiv, gMod, gPlus, gMinus, gEqq, gNe, gLt, gLe, gGt, gGe, kIn, kNot, kIs, kAnd, kOr, kIf]
section
variable {L : List TokD} {s s1 : PS} {x : Int} {ex : Ex}
theorem any_none {l : List ByteArray} (h : ∀ t ∈ l, isP L s t 0 = false) : anyP L l s = (s, ⟨#[]⟩, false) := anyP_no fun j t ht => h t (List.mem_of_getElem? ht)
theorem take_none {t : ByteArray} (h : isP L s t 0 = false) : takeP L t s = (s, false) := by
  unfold takeP
  rw [any_none (l := [t]) (by intro u hu; rw [List.mem_singleton.1 hu]; exact h)]
/-- nothing goes on -/
def Quiet (L : List TokD) (s : PS) : Prop := ∀ t ∈ opsL, isP L s t 0 = false
theorem Quiet.sub (h : Quiet L s) {l : List ByteArray} (hl : ∀ t ∈ l, t ∈ opsL) : anyP L l s = (s, ⟨#[]⟩, false) := any_none fun t ht => h t (hl t ht)
theorem Quiet.take (h : Quiet L s) {t : ByteArray} (ht : t ∈ opsL) : takeP L t s = (s, false) := take_none (h t ht)
theorem Quiet.cmp (h : Quiet L s) : compares L s = (⟨#[]⟩, 0) := by
  unfold compares
  rw [h gEqq (by simp [opsL]), h gNe (by simp [opsL]), h gLt (by simp [opsL]), h gLe (by simp [opsL]), h gGt (by simp [opsL]), h gGe (by simp [opsL]), h kIn (by simp [opsL]), h kNot (by simp [opsL]), h kIs (by simp [opsL])]
  rfl
theorem Quiet.bad (h : s.e ≠ 0) : Quiet L s := fun t _ => isP_bad h t 0
theorem left_quiet (h : Quiet L s1) {part : Ex} {op : Int} {signs : List ByteArray} (hs : ∀ t ∈ signs, t ∈ opsL) (m : Nat) (x : Int) : leftE L part op signs (m + 1) s1 x = some (s1, x) := by
  unfold leftE
  simp only [h.sub hs, if_true]
theorem parts_quiet (h : Quiet L s1) {part : Ex} (hp : part s = some (s1, x)) {op : Int} {signs : List ByteArray} (hs : ∀ t ∈ signs, t ∈ opsL) (m : Nat) : partsE L part op signs (m + 1) s = some (s1, x) := by
  unfold partsE
  rw [hp]
  exact left_quiet h hs m x
theorem post_quiet (h : Quiet L s1) (m0 : Nat) (a : Int) (m : Nat) (x : Int) : postE ex L m0 a (m + 1) s1 x = some (s1, x) := by
  unfold postE
  simp only [h.sub (l := [gDot, gLp, gLb]) (by simp [opsL]), if_true]
theorem postfix_quiet (h : Quiet L s1) {m : Nat} (ha : atomE ex L (m + 1) s = some (s1, x)) : postfixE ex L (m + 1) s = some (s1, x) := by
  unfold postfixE
  rw [ha]
  exact post_quiet h _ _ _ _
theorem factor_quiet (h : Quiet L s1) {m0 m : Nat} (hm : isP L s gMinus 0 = false) (ha : postfixE ex L m0 s = some (s1, x)) : factorE ex L m0 (m + 1) s = some (s1, x) := by
  unfold factorE
  simp only [take_none hm, ha, h.take (t := gPow) (by simp [opsL]), Bool.false_eq_true, if_false]
theorem sum_quiet (h : Quiet L s1) {m : Nat} (hm : isP L s gMinus 0 = false) (ha : atomE ex L (m + 1) s = some (s1, x)) : sumE ex L (m + 1) s = some (s1, x) :=
  parts_quiet h (parts_quiet h (factor_quiet h hm (postfix_quiet h ha)) (by simp [opsL]) m) (by simp [opsL]) m
theorem not_quiet (h : Quiet L s1) {m0 m : Nat} (hn : isP L s kNot 0 = false) (ha : sumE ex L m0 s = some (s1, x)) : notE ex L m0 (m + 1) s = some (s1, x) := by
  unfold notE
  simp only [take_none hn, ha, h.cmp, Bool.false_eq_true, if_false, if_true]
theorem or_quiet (h : Quiet L s1) {m : Nat} (hn : isP L s kNot 0 = false) (ha : sumE ex L (m + 1) s = some (s1, x)) : orE ex L (m + 1) s = some (s1, x) :=
  parts_quiet h (parts_quiet h (not_quiet h hn ha) (by simp [opsL]) m) (by simp [opsL]) m
theorem expr_quiet (h : Quiet L s1) {m : Nat} (hl : isP L s kLambda 0 = false) (ho : orE ex L (m + 1) s = some (s1, x)) : exprB ex L (m + 1) s = some (s1, x) := by
  unfold exprB
  simp only [take_none hl, ho, h.take (t := kIf) (by simp [opsL]), Bool.false_eq_true, if_false]
/-- an atom behind which nothing goes on -/
theorem expr_atom (h : Quiet L s1) {m : Nat} (hl : isP L s kLambda 0 = false) (hn : isP L s kNot 0 = false) (hm : isP L s gMinus 0 = false) (ha : atomE (exprE L (m + 1)) L (m + 1) s = some (s1, x)) : exprE L (m + 2) s = some (s1, x) :=
  expr_quiet h hl (or_quiet h hn (sum_quiet h hm ha))
end
/-- where a token of neither kind stands nothing goes on -/
theorem quiet_kind {L : List TokD} {s : PS} (h1 : (tokP L s 0).k ≠ 1) (h4 : (tokP L s 0).k ≠ 4) (t : ByteArray) : isP L s t 0 = false := by
  unfold isP
  rw [Bool.and_eq_false_iff]
  refine .inl (decide_eq_false ?_)
  split <;> assumption
theorem isP_ne {L : List TokD} {s : PS} {t : ByteArray} {b : Nat} (h : (tokP L s b).s ≠ t) : isP L s t b = false := by
  unfold isP
  rw [Bool.and_eq_false_iff]
  exact .inr (decide_eq_false h)
def wordsL (t : ByteArray) (n : Int) : List TokD := [wordT t, numT n]
theorem kw_ne {t k : ByteArray} (h : nameB t = true) (hk : kwB k = true) : t ≠ k := by
  rintro rfl
  unfold nameB at h
  split at h
  · cases h
  · rw [hk] at h
    simp at h
theorem word_none {t : ByteArray} (h1 : t ≠ kNone) (h2 : t ≠ kTrue) (h3 : t ≠ kFalse) : wordOp t = none := by
  unfold wordOp
  rw [if_neg h1, if_neg h2, if_neg h3]
theorem words_at0 (t : ByteArray) (n : Int) (m : Nat) (hw : wordOp t = none) : atomE (exprE (wordsL t n) m) (wordsL t n) m startS = if nameB t = true then some (⟨1, 0, 0, [⟨6, 0, t, 0, []⟩], [1]⟩, 0) else some (⟨0, 0, 30, [], []⟩, -1) := by
  have e : tokP (wordsL t n) startS 0 = wordT t := rfl
  unfold atomE
  simp only [e]
  rw [if_neg (by show ¬ (1 : Int) = 2; decide), if_neg (by show ¬ (1 : Int) = 3; decide), if_pos (show (wordT t).k = 1 from rfl)]
  rw [show wordOp (wordT t).s = none from hw]
  simp only
  cases h : nameB (wordT t).s with
  | true => rw [if_pos rfl, if_pos (show nameB t = true from h)]; rfl
  | false => rw [if_neg Bool.false_ne_true, if_neg (by rw [show nameB t = false from h]; exact Bool.false_ne_true)]; rfl
/-- a name -/
theorem words_name {t : ByteArray} (n : Int) (h : nameB t = true) : parsed (wordsL t n) = some (⟨1, 0, 0, [⟨6, 0, t, 0, []⟩], [1]⟩, 0) := by
  have hw := word_none (kw_ne h (k := kNone) (by decide)) (kw_ne h (k := kTrue) (by decide)) (kw_ne h (k := kFalse) (by decide))
  have h0 : ∀ k, kwB k = true → isP (wordsL t n) startS k 0 = false := fun k hk => isP_ne (kw_ne h hk)
  refine expr_atom (m := 3) (fun u _ => quiet_kind ?_ ?_ u) (h0 _ (by decide)) (h0 _ (by decide)) ?_ ?_
  · show (2 : Int) ≠ 1; decide
  · show (2 : Int) ≠ 4; decide
  · unfold isP
    rw [show kwB gMinus = false from by decide]
    rfl
  · rw [words_at0 t n 4 hw, if_pos h]
/-- no expression -/
theorem words_bad {t : ByteArray} (n : Int) (h : nameB t = false) (h1 : t ≠ kNone) (h2 : t ≠ kTrue) (h3 : t ≠ kFalse) (h4 : t ≠ kNot) (h5 : t ≠ kLambda) : parsed (wordsL t n) = some (⟨0, 0, 30, [], []⟩, -1) := by
  refine expr_atom (m := 3) (Quiet.bad (by show (30 : Int) ≠ 0; decide)) (isP_ne h5) (isP_ne h4) ?_ ?_
  · unfold isP
    rw [show kwB gMinus = false from by decide]
    rfl
  · rw [words_at0 t n 4 (word_none h1 h2 h3), if_neg (by rw [h]; exact Bool.false_ne_true)]
set_option maxRecDepth 100000 in
theorem words_none (n : Int) : parsed (wordsL kNone n) = some (⟨1, 0, 0, [⟨1, 0, ⟨#[]⟩, 0, []⟩], [1]⟩, 0) := by kernel_rfl
set_option maxRecDepth 100000 in
theorem words_true (n : Int) : parsed (wordsL kTrue n) = some (⟨1, 0, 0, [⟨2, 0, ⟨#[]⟩, 0, []⟩], [1]⟩, 0) := by kernel_rfl
set_option maxRecDepth 100000 in
theorem words_false (n : Int) : parsed (wordsL kFalse n) = some (⟨1, 0, 0, [⟨3, 0, ⟨#[]⟩, 0, []⟩], [1]⟩, 0) := by kernel_rfl
set_option maxRecDepth 100000 in
theorem words_not (n : Int) : parsed (wordsL kNot n) = some (⟨2, 0, 0, [⟨4, 0, ⟨#[]⟩, n, []⟩, ⟨11, 0, ⟨#[]⟩, 0, [0]⟩], [1, 2]⟩, 1) := by kernel_rfl
set_option maxRecDepth 100000 in
theorem words_lambda (n : Int) : parsed (wordsL kLambda n) = some (⟨1, 1, 30, [], []⟩, -1) := by kernel_rfl
theorem tree_one (x : NodeD) (h : x.kids = []) : treeOf [x] = [x] := by
  obtain ⟨a, b, c, d, k⟩ := x
  subst h
  rfl
theorem tree_not (n : Int) : treeOf [⟨4, 0, ⟨#[]⟩, n, []⟩, ⟨11, 0, ⟨#[]⟩, 0, [0]⟩] = [⟨4, 0, ⟨#[]⟩, n, []⟩, ⟨11, 0, ⟨#[]⟩, 0, [0]⟩] := by rfl
end Go.Proofs.YtjdcicopjipmnaaDoor
