/- A drawn region of many operations that only read: the check of its order, an operation at a time (the kernel's memory). Over any program. -/
import Derived.Deep.QuietTactic
import Derived.BigQuiet
namespace Go.Proofs.YtcfelfhjhkenaaaDoor

/-- operation number k may come first of o and the rest -/
def lexOp (md : Region.Mode) (ops : Array Oper) (k : Nat) (o : Oper) (rest : List Oper) : Bool :=
  o.after.all (fun e => !Region.binds md e || decide (e.on < k)) && rest.all (fun oj => oj.after.any (fun e => Region.binds md e && e.on == k) || o.apart ops oj)
def Lex (md : Region.Mode) (ops : Array Oper) : Nat → List Oper → Prop
  | _, [] => True
  | k, o :: rest => lexOp md ops k o rest = true ∧ Lex md ops (k + 1) rest
theorem Lex.nil {md : Region.Mode} {ops : Array Oper} {k : Nat} : Lex md ops k [] := trivial
theorem Lex.cons {md : Region.Mode} {ops : Array Oper} {k : Nat} {o : Oper} {rest : List Oper} (h : lexOp md ops k o rest = true) (h' : Lex md ops (k + 1) rest) : Lex md ops k (o :: rest) := ⟨h, h'⟩

theorem getD_true_of_false {l : Array Bool} {i : Nat} (h : l.getD i false = true) : l.getD i true = true := by
  simp only [Array.getD_eq_getD_getElem?] at h ⊢
  cases hh : l[i]? <;> simp_all

theorem lexFrom_of {md : Region.Mode} {ops : Array Oper} : ∀ (l : List Oper) (k : Nat) (listed : Array Bool), (∀ j, l[j]? = ops[k + j]?) → (∀ i, i < k → listed.getD i false = true) → (∀ i, k ≤ i → i < ops.size → listed.getD i true = false) →
    k + l.length = ops.size → Lex md ops k l → Region.lexFrom md ops l.length k listed = true
  | [], k, listed, _, hlo, _, hk, _ => by
    simp only [List.length_nil, Region.lexFrom, List.isEmpty_iff, List.eq_nil_iff_forall_not_mem]
    intro j hj
    obtain ⟨h0, o, ho, _⟩ := mem_ready.1 hj
    have hlt := (Array.getElem?_eq_some_iff.1 ho).1
    have := getD_true_of_false (hlo j (by simp at hk; omega))
    rw [this] at h0
    cases h0
  | o :: rest, k, listed, hl, hlo, hhi, hk, hL => by
    have hks : k < ops.size := by simp at hk; omega
    have hko : ops[k]? = some o := by simpa using (hl 0).symm
    obtain ⟨h1, h2⟩ := hL
    simp only [lexOp, Bool.and_eq_true] at h1
    obtain ⟨h1, h3⟩ := h1
    have h1 := Array.all_eq_true'.1 h1
    have h3 := List.all_eq_true.1 h3
    simp only [List.length_cons, Region.lexFrom, Bool.and_eq_true]
    refine ⟨⟨?_, ?_⟩, lexFrom_of rest (k + 1) _ (fun j => ?_) (fun i hi => ?_) (fun i hi hi2 => ?_) (by simp at hk; omega) h2⟩
    · rw [List.contains_iff_mem, mem_ready]
      refine ⟨hhi k (Nat.le_refl _) hks, o, hko, fun e he hb => ?_⟩
      have := h1 e he
      simp only [hb, Bool.not_true, Bool.false_or, decide_eq_true_eq] at this
      exact hlo _ this
    · unfold Region.free
      simp only [hko, List.all_eq_true, List.mem_range]
      intro j hj
      rcases Nat.lt_trichotomy j k with h | h | h
      · simp only [getD_true_of_false (hlo j h), Bool.or_true, Bool.true_or]
      · simp [h]
      · obtain ⟨m, rfl⟩ : ∃ m, j = k + 1 + m := ⟨j - k - 1, by omega⟩
        have hm := hl (m + 1)
        rw [show k + (m + 1) = k + 1 + m from by omega] at hm
        rw [List.getElem?_cons_succ] at hm
        have hoj : ops[k + 1 + m]? = some ops[k + 1 + m] := Array.getElem?_eq_getElem hj
        rw [hoj] at hm ⊢
        have h4 := h3 _ (List.mem_of_getElem? hm)
        simp only [h4, Bool.or_true]
    · have := hl (j + 1)
      rw [List.getElem?_cons_succ] at this
      rw [this]
      congr 1
      omega
    · by_cases e : i = k
      · subst e
        have := hhi i (Nat.le_refl _) hks
        simp only [Array.getD_eq_getD_getElem?] at this ⊢
        cases hh : listed[i]? with
        | none => rw [hh] at this; cases this
        | some b =>
          have hlt := (Array.getElem?_eq_some_iff.1 hh).1
          simp [hlt]
      · exact getD_set_true (hlo i (by omega))
    · rw [getD_set_ne true (by omega)]
      exact hhi i (by omega) hi2

theorem wp_region_quiet_big {P : Program} {id : Nat} {Q : Exit → Act → World → Prop} {a : Act} {w : World} {l : List Oper} (hm : P.follows .mixedOrders = true) (hs : Region.noSelect l.toArray = true) (hB : Lex .any l.toArray 0 l)
    (h : wpQuiet P l.toArray (fun w' => ∃ n, w' = w.drewN n) (fun a' => ∀ w', (∃ n, w' = w.drewN n) → Q .normal a' w') l a) : (Code.region id l.toArray true).wp P Q a w := by
  refine wp_region_quiet_lit hm ?_ h
  unfold Region.lexB
  rw [hs, Bool.true_and]
  have := lexFrom_of (md := .any) (ops := l.toArray) l 0 (Array.replicate l.toArray.size false) (fun j => by simp) (fun i hi => absurd hi (by omega)) (fun i _ hi => by simp at hi; simp [hi]) (by simp) hB
  simpa using this
end Go.Proofs.YtcfelfhjhkenaaaDoor
