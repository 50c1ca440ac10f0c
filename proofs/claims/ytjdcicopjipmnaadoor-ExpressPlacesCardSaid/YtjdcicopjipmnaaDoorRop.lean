/- ExpressRows in plain words: lists, tuples, dicts and calls of up to 12 items. -/
import Derived.Test.YtjdcicopjipmnaaDoorBnp
namespace Go.Proofs.YtjdcicopjipmnaaDoor
set_option linter.unusedVariables false
set_option linter.unusedSimpArgs false
def kF : ByteArray := ⟨#[102]⟩
def kX : ByteArray := ⟨#[120]⟩
/-- kinds: 0 a list, 1 a tuple, 2 a dict, 3 a call -/
def rowOpen : Nat → List TokD
  | 0 => [signT gLb]
  | 1 => [signT gLp]
  | 2 => [signT gLc]
  | _ => [wordT kF, signT gLp]
def rowEnd : Nat → TokD
  | 0 => signT gRb
  | 1 => signT gRp
  | 2 => signT gRc
  | _ => signT gRp
def rowOp : Nat → Int
  | 0 => 7
  | 1 => 8
  | 2 => 9
  | _ => 17
def rowL (f : Nat) : Nat → List TokD
  | 0 => rowOpen f
  | i + 1 => (if 0 < i then rowL f i ++ [signT gComma] else rowL f i) ++ [numT i] ++ (if f = 2 then [signT gColon, wordT kX] else [])
def rowKids (f m : Nat) : Nat := if f = 3 then m + 1 else if f = 2 then 2 * m else m
def lastIs (T : List NodeD) (op : Int) (k : Nat) : Bool := match T[T.length - 1]? with
  | some nd => decide (nd.op = op) && decide (nd.kids.length = k)
  | none => false
theorem lastIs_at {T : List NodeD} {op : Int} {k : Nat} (h : lastIs T op k = true) : ∃ a s n ks, T[T.length - 1]? = some ⟨op, a, s, n, ks⟩ ∧ ks.length = k ∧ 0 < T.length := by
  unfold lastIs at h
  split at h
  · rename_i nd hn
    simp only [Bool.and_eq_true, decide_eq_true_eq] at h
    obtain ⟨rfl, h2⟩ := h
    exact ⟨nd.at_, nd.s, nd.n, nd.kids, hn, h2, by have := (List.getElem?_eq_some_iff.1 hn).1; omega⟩
  · cases h
def rowPlain (f m : Nat) : Bool := match parsed (rowL f m ++ [rowEnd f]) with
  | none => false
  | some r => decide (r.1.e = 0) && (if f = 1 ∧ m = 1 then decide ((treeOf r.1.ns).length = 1) else lastIs (treeOf r.1.ns) (rowOp f) (rowKids f m))
def rowComma (f m : Nat) : Bool := match parsed (rowL f m ++ [signT gComma, rowEnd f]) with
  | none => false
  | some r => if m = 0 then decide (r.1.e = 30) && decide (usedOf r = (rowL f m).length)
    else decide (r.1.e = 0) && decide (usedOf r = (rowL f m).length + 2) && lastIs (treeOf r.1.ns) (rowOp f) (rowKids f m)
def rowTwo (f m : Nat) : Bool := match parsed (rowL f m ++ [signT gComma, signT gComma, rowEnd f]) with
  | none => false
  | some r => decide (r.1.e = 30) && (if m = 0 then true else decide (usedOf r = (rowL f m).length + 1))
set_option maxRecDepth 100000 in
theorem row_all : ((List.range 4).all fun f => (List.range 13).all fun m => rowPlain f m && rowComma f m && rowTwo f m) = true := by kernel_rfl
theorem row_ok {f m : Nat} (hf : f < 4) (hm : m < 13) : rowPlain f m = true ∧ rowComma f m = true ∧ rowTwo f m = true := by
  have := List.all_eq_true.1 (List.all_eq_true.1 row_all f (List.mem_range.2 hf)) m (List.mem_range.2 hm)
  simp only [Bool.and_eq_true] at this
  exact ⟨this.1.1, this.1.2, this.2⟩
theorem rowPlain_run {f m : Nat} (h : rowPlain f m = true) : ∃ r, parsed (rowL f m ++ [rowEnd f]) = some r ∧ r.1.e = 0 ∧ ((f = 1 ∧ m = 1 ∧ (treeOf r.1.ns).length = 1) ∨ (¬ (f = 1 ∧ m = 1) ∧ lastIs (treeOf r.1.ns) (rowOp f) (rowKids f m) = true)) := by
  unfold rowPlain at h
  split at h
  · cases h
  · rename_i r hr
    simp only [Bool.and_eq_true, decide_eq_true_eq] at h
    refine ⟨r, hr, h.1, ?_⟩
    have h2 := h.2
    split at h2
    · rename_i hc
      exact .inl ⟨hc.1, hc.2, of_decide_eq_true h2⟩
    · rename_i hc
      exact .inr ⟨hc, h2⟩
theorem rowComma_run {f m : Nat} (h : rowComma f m = true) : ∃ r, parsed (rowL f m ++ [signT gComma, rowEnd f]) = some r ∧ ((m = 0 ∧ r.1.e = 30 ∧ usedOf r = (rowL f m).length) ∨ (m ≠ 0 ∧ r.1.e = 0 ∧ usedOf r = (rowL f m).length + 2 ∧ lastIs (treeOf r.1.ns) (rowOp f) (rowKids f m) = true)) := by
  unfold rowComma at h
  split at h
  · cases h
  · rename_i r hr
    refine ⟨r, hr, ?_⟩
    split at h
    · rename_i hc
      simp only [Bool.and_eq_true, decide_eq_true_eq] at h
      exact .inl ⟨hc, h⟩
    · rename_i hc
      simp only [Bool.and_eq_true, decide_eq_true_eq] at h
      exact .inr ⟨hc, h.1.1, h.1.2, h.2⟩
theorem rowTwo_run {f m : Nat} (h : rowTwo f m = true) : ∃ r, parsed (rowL f m ++ [signT gComma, signT gComma, rowEnd f]) = some r ∧ r.1.e = 30 ∧ (m ≠ 0 → usedOf r = (rowL f m).length + 1) := by
  unfold rowTwo at h
  split at h
  · cases h
  · rename_i r hr
    simp only [Bool.and_eq_true, decide_eq_true_eq] at h
    refine ⟨r, hr, h.1, fun hm => ?_⟩
    have h2 := h.2
    rw [if_neg hm] at h2
    exact of_decide_eq_true h2
theorem rowL_len (f : Nat) : ∀ m, (rowL f m).length ≤ 2 + 5 * m
  | 0 => by unfold rowL rowOpen; split <;> simp
  | m + 1 => by
    have := rowL_len f m
    unfold rowL
    split <;> split <;> simp <;> omega
theorem rowOpen_small (f : Nat) : ∀ t ∈ rowOpen f, t.s.size ≤ maxLen := by
  intro t ht
  unfold rowOpen at ht
  split at ht <;> simp only [List.mem_cons, List.not_mem_nil, or_false] at ht
  · rw [ht]; exact sml (by decide)
  · rw [ht]; exact sml (by decide)
  · rw [ht]; exact sml (by decide)
  · rcases ht with rfl | rfl <;> exact sml (by decide)
theorem rowEnd_small (f : Nat) : (rowEnd f).s.size ≤ maxLen := by
  unfold rowEnd
  split <;> exact sml (by decide)
theorem rowL_small (f : Nat) : ∀ m, ∀ t ∈ rowL f m, t.s.size ≤ maxLen
  | 0, t, ht => rowOpen_small f t ht
  | m + 1, t, ht => by
    unfold rowL at ht
    rcases List.mem_append.1 ht with h | h
    · rcases List.mem_append.1 h with h | h
      · split at h
        · rcases List.mem_append.1 h with h | h
          · exact rowL_small f m t h
          · rw [List.mem_singleton.1 h]; exact sml (by decide)
        · exact rowL_small f m t h
      · rw [List.mem_singleton.1 h]; exact Nat.zero_le _
    · split at h
      · simp only [List.mem_cons, List.not_mem_nil, or_false] at h
        rcases h with rfl | rfl <;> exact sml (by decide)
      · cases h
end Go.Proofs.YtjdcicopjipmnaaDoor
