/- Trees of tokens: how many nodes and tokens there are. Tokens of any tree that is laid flat. bare: a tree without places; told, of any fuel; what the parse of a tree's tokens is. one: an expression of a tree that is made, and its tokens. ExpressBack: the walk. -/
import Derived.Test.YtjdcicopjipmnaaDoorZag
import Derived.Test.YtjdcicopjipmnaaDoorZaj
import Derived.Test.YtjdcicopjipmnaaDoorZak
import Derived.Test.YtjdcicopjipmnaaDoorZax
namespace Go.Proofs.YtjdcicopjipmnaaDoor
set_option maxRecDepth 100000
set_option maxHeartbeats 40000000
section
set_option linter.unusedVariables false
set_option linter.unusedSimpArgs false
theorem dep_mem : ∀ {ks : List Tr} {d : Int}, Tr.depm ks ≤ d → ∀ k ∈ ks, Tr.dep k ≤ d
 | [], d, h, k, hk => by cases hk
 | x :: ks, d, h, k, hk => by
  simp only [Tr.depm] at h
  rcases List.mem_cons.1 hk with rfl | hk
  ·omega
  ·exact dep_mem (by omega) k hk
theorem dep_pos (e : Tr) : 1 ≤ Tr.dep e := by
 obtain ⟨op, n, s, ks⟩ := e
 have := depm_nn ks
 simp only [Tr.dep]
 omega
theorem sizes_pow {N : Nat} : ∀ {ks : List Tr}, (∀ k ∈ ks, Tr.size k ≤ N) → Tr.sizes ks ≤ ks.length * N
 | [], h => by simp [Tr.sizes]
 | x :: ks, h => by
  have h1 := h x (by simp)
  have h2 := sizes_pow (ks := ks) fun k hk => h k (by simp [hk])
  simp only [Tr.sizes, List.length_cons, Nat.succ_mul]
  omega
def SzOk (e : Tr) : Prop := ∀ d : Nat, Tr.dep e ≤ d → Tr.size e ≤ 6 ^ d
theorem sz_node {op n : Int} {s : ByteArray} {ks : List Tr} (hk : ∀ k ∈ ks, SzOk k) (h5 : ks.length ≤ 5) : SzOk (.mk op n s ks) := by
 intro d hd
 cases d with
 | zero => have := dep_pos (.mk op n s ks); omega
 | succ d =>
  have hd2 : Tr.depm ks ≤ d := by simp only [Tr.dep] at hd; omega
  have h1 := sizes_pow (N := 6 ^ d) fun k hk1 => hk k hk1 d (dep_mem hd2 k hk1)
  have h2 : ks.length * 6 ^ d ≤ 5 * 6 ^ d := Nat.mul_le_mul_right _ h5
  have h3 : 0 < 6 ^ d := Nat.pow_pos (by decide)
  simp only [Tr.size, Nat.pow_succ]
  omega
theorem good_size {e : Tr} (h : Good e) : SzOk e := by
 induction h with
 | none_ => exact sz_node (by simp) (by simp)
 | true_ => exact sz_node (by simp) (by simp)
 | false_ => exact sz_node (by simp) (by simp)
 | int_ => exact sz_node (by simp) (by simp)
 | str_ => exact sz_node (by simp) (by simp)
 | name_ => exact sz_node (by simp) (by simp)
 | list_ ks hk h4 ih => exact sz_node ih (by omega)
 | tuple_ ks hk h4 ih => exact sz_node ih (by omega)
 | dict_ ks hk he h4 ih => exact sz_node ih (by omega)
 | neg_ a ha ih => exact sz_node (by simpa using ih) (by simp)
 | not_ a ha ih => exact sz_node (by simpa using ih) (by simp)
 | bin_ s a b hs ha hb iha ihb => exact sz_node (by simpa using ⟨iha, ihb⟩) (by simp)
 | cmp_ s a b hs ha hb iha ihb => exact sz_node (by simpa using ⟨iha, ihb⟩) (by simp)
 | and_ a b ha hb iha ihb => exact sz_node (by simpa using ⟨iha, ihb⟩) (by simp)
 | or_ a b ha hb iha ihb => exact sz_node (by simpa using ⟨iha, ihb⟩) (by simp)
 | if_ a b c ha hb hc iha ihb ihc => exact sz_node (by simpa using ⟨iha, ihb, ihc⟩) (by simp)
 | call_ f ks hf hk h4 ihf ihk => exact sz_node (by simpa using ⟨ihf, ihk⟩) (by simp; omega)
 | attr_ s a h1 h2 ha ih => exact sz_node (by simpa using ih) (by simp)
 | index_ a b ha hb iha ihb => exact sz_node (by simpa using ⟨iha, ihb⟩) (by simp)
 | slice_ a b c ha hb hc iha ihb ihc => exact sz_node (by simpa using ⟨iha, ihb, ihc⟩) (by simp)
 | lambda_ s a h1 h2 ha ih => exact sz_node (by simpa using ⟨sz_node (by simp) (by simp), ih⟩) (by simp)
def TkLe (e : Tr) : Prop := (Tr.toks e).length + 4 ≤ 8 * Tr.size e
theorem rows_le (all : Bool) : ∀ {ks : List Tr}, (∀ k ∈ ks, TkLe k) → (rowsT all (Tr.tokss ks)).length ≤ 8 * Tr.sizes ks
 | [], h => by simp [Tr.tokss, rowsT, Tr.sizes]
 | x :: ks, h => by
  have h1 : (Tr.toks x).length + 4 ≤ 8 * Tr.size x := h x (by simp)
  have h2 := rows_le all (ks := ks) fun k hk => h k (by simp [hk])
  have h3 : (if (all || !(Tr.tokss ks).isEmpty) = true then [signT gComma] else []).length ≤ 1 := by split <;> simp
  simp only [Tr.tokss, rowsT, Tr.sizes, List.length_append]
  omega
theorem pairs_le : ∀ {ks : List Tr}, (∀ k ∈ ks, TkLe k) → (pairsT (Tr.tokss ks)).length ≤ 8 * Tr.sizes ks
 | [], h => by simp [Tr.tokss, pairsT, Tr.sizes]
 | [x], h => by simp [Tr.tokss, pairsT, Tr.sizes]
 | x :: y :: ks, h => by
  have h1 : (Tr.toks x).length + 4 ≤ 8 * Tr.size x := h x (by simp)
  have h2 : (Tr.toks y).length + 4 ≤ 8 * Tr.size y := h y (by simp)
  have h3 := pairs_le (ks := ks) fun k hk => h k (by simp [hk])
  simp only [Tr.tokss, pairsT, Tr.sizes, List.length_append, List.length_cons]
  omega
theorem opWords_le (s : ByteArray) : (opWords s).length ≤ 2 := by
 unfold opWords
 split
 ·simp
 ·split
  ·simp
  ·split <;> simp
theorem good_toks {e : Tr} (h : Good e) : TkLe e := by
 induction h with
 | none_ => simp [TkLe, Tr.toks, Tr.tokss, lay, Tr.size, Tr.sizes]
 | true_ => simp [TkLe, Tr.toks, Tr.tokss, lay, Tr.size, Tr.sizes]
 | false_ => simp [TkLe, Tr.toks, Tr.tokss, lay, Tr.size, Tr.sizes]
 | int_ => simp [TkLe, Tr.toks, Tr.tokss, lay, Tr.size, Tr.sizes]
 | str_ => simp [TkLe, Tr.toks, Tr.tokss, lay, Tr.size, Tr.sizes]
 | name_ => simp [TkLe, Tr.toks, Tr.tokss, lay, Tr.size, Tr.sizes]
 | list_ ks hk h4 ih => have := rows_le false ih; simp [TkLe, Tr.toks, lay, Tr.size]; omega
 | tuple_ ks hk h4 ih => have := rows_le true ih; simp [TkLe, Tr.toks, lay, Tr.size]; omega
 | dict_ ks hk he h4 ih => have := pairs_le ih; simp [TkLe, Tr.toks, lay, Tr.size]; omega
 | neg_ a ha ih => simp [TkLe, Tr.toks, Tr.tokss, lay, Tr.size, Tr.sizes, nthT, insideT] at ih ⊢; omega
 | not_ a ha ih => simp [TkLe, Tr.toks, Tr.tokss, lay, Tr.size, Tr.sizes, nthT, insideT] at ih ⊢; omega
 | bin_ s a b hs ha hb iha ihb => have := opWords_le s; simp [TkLe, Tr.toks, Tr.tokss, lay, Tr.size, Tr.sizes, nthT, insideT] at iha ihb ⊢; omega
 | cmp_ s a b hs ha hb iha ihb => have := opWords_le s; simp [TkLe, Tr.toks, Tr.tokss, lay, Tr.size, Tr.sizes, nthT, insideT] at iha ihb ⊢; omega
 | and_ a b ha hb iha ihb => simp [TkLe, Tr.toks, Tr.tokss, lay, Tr.size, Tr.sizes, nthT, insideT] at iha ihb ⊢; omega
 | or_ a b ha hb iha ihb => simp [TkLe, Tr.toks, Tr.tokss, lay, Tr.size, Tr.sizes, nthT, insideT] at iha ihb ⊢; omega
 | if_ a b c ha hb hc iha ihb ihc => simp [TkLe, Tr.toks, Tr.tokss, lay, Tr.size, Tr.sizes, nthT, insideT] at iha ihb ihc ⊢; omega
 | call_ f ks hf hk h4 ihf ihk => have := rows_le false ihk; simp [TkLe, Tr.toks, Tr.tokss, lay, Tr.size, Tr.sizes, nthT, insideT] at ihf ⊢; omega
 | attr_ s a h1 h2 ha ih => simp [TkLe, Tr.toks, Tr.tokss, lay, Tr.size, Tr.sizes, nthT, insideT] at ih ⊢; omega
 | index_ a b ha hb iha ihb => simp [TkLe, Tr.toks, Tr.tokss, lay, Tr.size, Tr.sizes, nthT, insideT] at iha ihb ⊢; omega
 | slice_ a b c ha hb hc iha ihb ihc => simp [TkLe, Tr.toks, Tr.tokss, lay, Tr.size, Tr.sizes, nthT, insideT] at iha ihb ihc ⊢; omega
 | lambda_ s a h1 h2 ha ih => simp [TkLe, Tr.toks, Tr.tokss, lay, Tr.size, Tr.sizes, nthT, insideT, rowsT] at ih ⊢; omega
theorem good_lim {e : Tr} (h : Good e) (hd : Tr.dep e ≤ 12) : Tr.size e ≤ 2176782336 ∧ (Tr.toks e).length + 4 ≤ 17414258688 := by
 have h1 := good_size h 12 hd
 have h2 : (Tr.toks e).length + 4 ≤ 8 * Tr.size e := good_toks h
 omega
theorem rows_all {P : TokD → Prop} (hc : P (signT gComma)) (all : Bool) : ∀ {l : List (List TokD)}, (∀ t ∈ l, ∀ x ∈ t, P x) → ∀ x ∈ rowsT all l, P x
 | [], h, x, hx => by cases hx
 | t :: l, h, x, hx => by
  simp only [rowsT, List.mem_append] at hx
  rcases hx with hx | hx | hx
  ·exact h t (by simp) x hx
  ·split at hx
   ·rw [List.mem_singleton.1 hx]; exact hc
   ·cases hx
  ·exact rows_all hc all (fun t ht => h t (by simp [ht])) x hx
theorem pairs_all {P : TokD → Prop} (hc : P (signT gComma)) (hd : P (signT gColon)) : ∀ {l : List (List TokD)}, (∀ t ∈ l, ∀ x ∈ t, P x) → ∀ x ∈ pairsT l, P x
 | [], h, x, hx => by simp [pairsT] at hx
 | [t], h, x, hx => by simp [pairsT] at hx
 | k :: v :: r, h, x, hx => by
  simp only [pairsT, List.mem_append, List.mem_cons] at hx
  rcases hx with hx | rfl | hx | rfl | hx
  ·exact h k (by simp) x hx
  ·exact hd
  ·exact h v (by simp) x hx
  ·exact hc
  ·exact pairs_all hc hd (fun t ht => h t (by simp [ht])) x hx
theorem tokss_all {P : TokD → Prop} : ∀ {ks : List Tr}, (∀ k ∈ ks, ∀ x ∈ Tr.toks k, P x) → ∀ t ∈ Tr.tokss ks, ∀ x ∈ t, P x
 | [], h, t, ht => by simp [Tr.tokss] at ht
 | k :: ks, h, t, ht => by
  simp only [Tr.tokss, List.mem_cons] at ht
  rcases ht with rfl | ht
  ·exact h k (by simp)
  ·exact tokss_all (fun k hk => h k (by simp [hk])) t ht
abbrev Short (t : TokD) : Prop := t.s.size ≤ 64
theorem inside_all {P : TokD → Prop} (h1 : P (signT gLp)) (h2 : P (signT gRp)) {l : List TokD} (h : ∀ x ∈ l, P x) : ∀ x ∈ insideT l, P x := by
 intro x hx
 simp only [insideT, List.mem_cons, List.mem_append, List.not_mem_nil, or_false] at hx
 rcases hx with rfl | hx | rfl
 ·exact h1
 ·exact h x hx
 ·exact h2
theorem opWords_short {s : ByteArray} (h : s.size ≤ 64) : ∀ x ∈ opWords s, Short x := by
 intro x hx
 unfold opWords at hx
 split at hx
 ·simp at hx; rcases hx with rfl | rfl <;> (show ByteArray.size _ ≤ 64; decide)
 ·split at hx
  ·simp at hx; rcases hx with rfl | rfl <;> (show ByteArray.size _ ≤ 64; decide)
  ·split at hx
   ·simp at hx; subst hx; exact h
   ·simp at hx; subst hx; exact h
theorem bin_short : ∀ s ∈ binaries, s.size ≤ 64 := by decide
theorem cmp_short : ∀ s ∈ comparers, s.size ≤ 64 := by decide
theorem good_short {e : Tr} (h : Good e) : ∀ x ∈ Tr.toks e, Short x := by
 have sg : ∀ {u : ByteArray}, u.size ≤ 64 → Short (signT u) := fun h => h
 have wd : ∀ {u : ByteArray}, u.size ≤ 64 → Short (wordT u) := fun h => h
 have ins : ∀ {l : List TokD}, (∀ x ∈ l, Short x) → ∀ x ∈ insideT l, Short x := fun h => inside_all (show ByteArray.size _ ≤ 64 by decide) (show ByteArray.size _ ≤ 64 by decide) h
 have app : ∀ {l l' : List TokD}, (∀ x ∈ l, Short x) → (∀ x ∈ l', Short x) → ∀ x ∈ l ++ l', Short x := fun h h' x hx => (List.mem_append.1 hx).elim (h x) (h' x)
 have con : ∀ {t : TokD} {l : List TokD}, Short t → (∀ x ∈ l, Short x) → ∀ x ∈ t :: l, Short x := fun h h' x hx => (List.mem_cons.1 hx).elim (fun e => by rw [e]; exact h) (h' x)
 have nil : ∀ x ∈ ([] : List TokD), Short x := fun x hx => by cases hx
 induction h with
 | none_ => exact con (wd (by decide)) nil
 | true_ => exact con (wd (by decide)) nil
 | false_ => exact con (wd (by decide)) nil
 | int_ n h1 h2 => exact con (show Short (numT n) from Nat.zero_le 64) nil
 | str_ s h => exact con h nil
 | name_ s h h2 => exact con h nil
 | list_ ks hk h4 ih => exact con (sg (by decide)) (app (rows_all (sg (by decide)) false (tokss_all ih)) (con (sg (by decide)) nil))
 | tuple_ ks hk h4 ih => exact con (sg (by decide)) (app (rows_all (sg (by decide)) true (tokss_all ih)) (con (sg (by decide)) nil))
 | dict_ ks hk he h4 ih => exact con (sg (by decide)) (app (pairs_all (sg (by decide)) (sg (by decide)) (tokss_all ih)) (con (sg (by decide)) nil))
 | neg_ a ha ih => exact con (sg (by decide)) (ins ih)
 | not_ a ha ih => exact con (wd (by decide)) (ins ih)
 | bin_ s a b hs ha hb iha ihb => exact app (ins iha) (app (opWords_short (bin_short s hs)) (ins ihb))
 | cmp_ s a b hs ha hb iha ihb => exact app (ins iha) (app (opWords_short (cmp_short s hs)) (ins ihb))
 | and_ a b ha hb iha ihb => exact app (ins iha) (con (wd (by decide)) (ins ihb))
 | or_ a b ha hb iha ihb => exact app (ins iha) (con (wd (by decide)) (ins ihb))
 | if_ a b c ha hb hc iha ihb ihc => exact app (ins iha) (con (wd (by decide)) (app (ins ihb) (con (wd (by decide)) (ins ihc))))
 | call_ f ks hf hk h4 ihf ihk => exact app (ins ihf) (con (sg (by decide)) (app (rows_all (sg (by decide)) false (tokss_all ihk)) (con (sg (by decide)) nil)))
 | attr_ s a h1 h2 ha ih => exact app (ins ih) (con (sg (by decide)) (con (wd h1) nil))
 | index_ a b ha hb iha ihb => exact app (ins iha) (con (sg (by decide)) (app ihb (con (sg (by decide)) nil)))
 | slice_ a b c ha hb hc iha ihb ihc => exact app (ins iha) (con (sg (by decide)) (app ihb (con (sg (by decide)) (app ihc (con (sg (by decide)) nil)))))
 | lambda_ s a h1 h2 ha ih => exact con (wd (by decide)) (app (con (wd h1) nil) (con (sg (by decide)) ih))
end
section
open Go.RowKit
set_option linter.unusedVariables false
set_option linter.unusedSimpArgs false
def Tks (T : List NodeD) (A : Option Addr) (m c : Nat) (k : Tr) : Prop := ∀ (pre post : List NodeD), T = pre ++ (Tr.flat pre.length k ++ post) → TkAt T A m c (pre.length + Tr.size k - 1) k
section
variable {T pre post : List NodeD} {A : Option Addr} {m c : Nat} {op n : Int} {s : ByteArray} {ks : List Tr}
theorem flat_top (h : T = pre ++ (Tr.flat pre.length (.mk op n s ks) ++ post)) : T[pre.length + Tr.size (.mk op n s ks) - 1]? = some ⟨op, 0, s, n, Tr.idxs pre.length ks⟩ := by
 subst h
 rw [List.getElem?_append_right (by simp only [Tr.size]; omega)]
 simp only [Tr.size, Tr.flat]
 rw [show pre.length + (Tr.sizes ks + 1) - 1 - pre.length = Tr.sizes ks from by omega, List.append_assoc, List.getElem?_append_right (by rw [flats_len]; exact Nat.le_refl _), flats_len, Nat.sub_self]
 rfl
theorem flats_in (h : T = pre ++ (Tr.flat pre.length (.mk op n s ks) ++ post)) : T = pre ++ (Tr.flats pre.length ks ++ ([⟨op, 0, s, n, Tr.idxs pre.length ks⟩] ++ post)) := by
 rw [h]
 simp only [Tr.flat, List.append_assoc]
theorem kids_all : ∀ {ks : List Tr} {pre post : List NodeD}, (∀ k ∈ ks, Tks T A m c k) → T = pre ++ (Tr.flats pre.length ks ++ post) → ∀ p, p < ks.length → ∃ (j : Nat) (k : Tr), (Tr.idxs pre.length ks)[p]? = some (j : Int) ∧ ks[p]? = some k ∧ TkAt T A m c j k
 | [], pre, post, h, hT, p, hp => absurd hp (by simp)
 | k :: ks, pre, post, h, hT, 0, hp =>
  ⟨pre.length + Tr.size k - 1, k, by have := size_pos k; simp only [Tr.idxs, List.getElem?_cons_zero]; congr 1; omega, rfl, h k (by simp) pre (Tr.flats (pre.length + Tr.size k) ks ++ post) (by rw [hT]; simp only [Tr.flats, List.append_assoc])⟩
 | k :: ks, pre, post, h, hT, p + 1, hp => by
  have e : (pre ++ Tr.flat pre.length k).length = pre.length + Tr.size k := by rw [List.length_append, flat_len]
  have := kids_all (ks := ks) (pre := pre ++ Tr.flat pre.length k) (post := post) (fun k hk => h k (by simp [hk])) (by rw [e, hT]; simp only [Tr.flats, List.append_assoc]) p (by simpa using hp)
  rw [e] at this
  exact this
theorem kid1 {a : Tr} (h : ∀ k ∈ [a], Tks T A m c k) (hT : T = pre ++ (Tr.flats pre.length [a] ++ post)) : ∃ j : Nat, Tr.idxs pre.length [a] = [(j : Int)] ∧ TkAt T A m c j a := by
 obtain ⟨j, k, h1, h2, h3⟩ := kids_all h hT 0 (by simp)
 obtain rfl : a = k := by simpa using h2
 exact ⟨j, by simpa [Tr.idxs] using h1, h3⟩
theorem kid2 {a b : Tr} (h : ∀ k ∈ [a, b], Tks T A m c k) (hT : T = pre ++ (Tr.flats pre.length [a, b] ++ post)) : ∃ i j : Nat, Tr.idxs pre.length [a, b] = [(i : Int), (j : Int)] ∧ TkAt T A m c i a ∧ TkAt T A m c j b := by
 obtain ⟨i, k, h1, h2, h3⟩ := kids_all h hT 0 (by simp)
 obtain rfl : a = k := by simpa using h2
 obtain ⟨j, k, g1, g2, g3⟩ := kids_all h hT 1 (by simp)
 obtain rfl : b = k := by simpa using g2
 refine ⟨i, j, ?_, h3, g3⟩
 simp only [Tr.idxs, List.getElem?_cons_zero, List.getElem?_cons_succ, Option.some.injEq] at h1 g1 ⊢
 rw [h1, g1]
theorem kid3 {a b d : Tr} (h : ∀ k ∈ [a, b, d], Tks T A m c k) (hT : T = pre ++ (Tr.flats pre.length [a, b, d] ++ post)) : ∃ i j l : Nat, Tr.idxs pre.length [a, b, d] = [(i : Int), (j : Int), (l : Int)] ∧ TkAt T A m c i a ∧ TkAt T A m c j b ∧ TkAt T A m c l d := by
 obtain ⟨i, k, h1, h2, h3⟩ := kids_all h hT 0 (by simp)
 obtain rfl : a = k := by simpa using h2
 obtain ⟨j, k, g1, g2, g3⟩ := kids_all h hT 1 (by simp)
 obtain rfl : b = k := by simpa using g2
 obtain ⟨l, k, f1, f2, f3⟩ := kids_all h hT 2 (by simp)
 obtain rfl : d = k := by simpa using f2
 refine ⟨i, j, l, ?_, h3, g3, f3⟩
 simp only [Tr.idxs, List.getElem?_cons_zero, List.getElem?_cons_succ, Option.some.injEq] at h1 g1 f1 ⊢
 rw [h1, g1, f1]
end
theorem dep_kid {op n : Int} {s : ByteArray} {ks : List Tr} (h : Tr.dep (.mk op n s ks) ≤ 12) : ∀ k ∈ ks, Tr.dep k ≤ 12 := dep_mem (by simp only [Tr.dep] at h; omega)
theorem lim12 {e : Tr} (h : Good e) (hd : Tr.dep e ≤ 12) : (Tr.toks e).length ≤ 549755813888 := by have := good_lim h hd; omega
theorem tks_all {T : List NodeD} {A : Option Addr} {m c : Nat} (hm : T.length = m) {e : Tr} (h : Good e) : Tr.dep e ≤ 12 → Tks T A m c e := by
 induction h with
 | none_ => exact fun _ pre post hT => tok33_1 hm (flat_top hT)
 | true_ => exact fun _ pre post hT => tok33_2 hm (flat_top hT)
 | false_ => exact fun _ pre post hT => tok33_3 hm (flat_top hT)
 | int_ n h1 h2 => exact fun _ pre post hT => tok33_4 hm (flat_top hT)
 | str_ s h1 => exact fun _ pre post hT => tok33_5 hm (flat_top hT)
 | name_ s h1 h2 => exact fun _ pre post hT => tok33_6 hm (flat_top hT)
 | list_ ks hk h4 ih => exact fun hd pre post hT => tok33_7 hm (flat_top hT) (idxs_len _ _) rfl (by omega) (kids_all (fun k hk1 => ih k hk1 (dep_kid hd k hk1)) (flats_in hT)) (lim12 (.list_ ks hk h4) hd)
 | tuple_ ks hk h4 ih => exact fun hd pre post hT => tok33_8 hm (flat_top hT) (idxs_len _ _) rfl (by omega) (kids_all (fun k hk1 => ih k hk1 (dep_kid hd k hk1)) (flats_in hT)) (lim12 (.tuple_ ks hk h4) hd)
 | dict_ ks hk he h4 ih => exact fun hd pre post hT => tok33_9 hm (flat_top hT) (idxs_len _ _) (more54_9 hm (flat_top hT) (idxs_len _ _) rfl he (by omega) (kids_all (fun k hk1 => ih k hk1 (dep_kid hd k hk1)) (flats_in hT)) (lim12 (.dict_ ks hk he h4) hd))
 | neg_ a ha ih =>
  intro hd pre post hT
  obtain ⟨j, hj, h1⟩ := kid1 (by simpa using ih (dep_kid hd a (by simp))) (flats_in hT)
  exact tok33_10 hm (by rw [← hj]; exact flat_top hT) h1 (lim12 (.neg_ a ha) hd)
 | not_ a ha ih =>
  intro hd pre post hT
  obtain ⟨j, hj, h1⟩ := kid1 (by simpa using ih (dep_kid hd a (by simp))) (flats_in hT)
  exact tok33_11 hm (by rw [← hj]; exact flat_top hT) h1 (lim12 (.not_ a ha) hd)
 | bin_ s a b hs ha hb iha ihb =>
  intro hd pre post hT
  obtain ⟨i, j, hj, h1, h2⟩ := kid2 (by simpa using ⟨iha (dep_kid hd a (by simp)), ihb (dep_kid hd b (by simp))⟩) (flats_in hT)
  exact tok33_12 hm (by rw [← hj]; exact flat_top hT) h1 h2 (lim12 (.bin_ s a b hs ha hb) hd)
 | cmp_ s a b hs ha hb iha ihb =>
  intro hd pre post hT
  obtain ⟨i, j, hj, h1, h2⟩ := kid2 (by simpa using ⟨iha (dep_kid hd a (by simp)), ihb (dep_kid hd b (by simp))⟩) (flats_in hT)
  exact tok33_13 hm (by rw [← hj]; exact flat_top hT) h1 h2 (lim12 (.cmp_ s a b hs ha hb) hd)
 | and_ a b ha hb iha ihb =>
  intro hd pre post hT
  obtain ⟨i, j, hj, h1, h2⟩ := kid2 (by simpa using ⟨iha (dep_kid hd a (by simp)), ihb (dep_kid hd b (by simp))⟩) (flats_in hT)
  exact tok33_14 hm (by rw [← hj]; exact flat_top hT) h1 h2 (lim12 (.and_ a b ha hb) hd)
 | or_ a b ha hb iha ihb =>
  intro hd pre post hT
  obtain ⟨i, j, hj, h1, h2⟩ := kid2 (by simpa using ⟨iha (dep_kid hd a (by simp)), ihb (dep_kid hd b (by simp))⟩) (flats_in hT)
  exact tok33_15 hm (by rw [← hj]; exact flat_top hT) h1 h2 (lim12 (.or_ a b ha hb) hd)
 | if_ a b d ha hb hc iha ihb ihc =>
  intro hd pre post hT
  obtain ⟨i, j, l, hj, h1, h2, h3⟩ := kid3 (by simpa using ⟨iha (dep_kid hd a (by simp)), ihb (dep_kid hd b (by simp)), ihc (dep_kid hd d (by simp))⟩) (flats_in hT)
  exact tok33_16 hm (by rw [← hj]; exact flat_top hT) h1 h2 h3 (lim12 (.if_ a b d ha hb hc) hd)
 | call_ f ks hf hk h4 ihf ihk =>
  intro hd pre post hT
  have hall := kids_all (ks := f :: ks) (by simpa using ⟨ihf (dep_kid hd f (by simp)), fun k hk1 => ihk k hk1 (dep_kid hd k (by simp [hk1]))⟩) (flats_in hT)
  obtain ⟨j, k, h1, h2, h3⟩ := hall 0 (by simp)
  obtain rfl : f = k := by simpa using h2
  have hi : Tr.idxs pre.length (f :: ks) = (j : Int) :: Tr.idxs (pre.length + Tr.size f) ks := by
   simp only [Tr.idxs, List.getElem?_cons_zero, Option.some.injEq] at h1 ⊢
   rw [h1]
  have hx := flat_top hT
  rw [hi] at hx
  exact tok33_17 hm hx rfl (more54_17 hm hx (idxs_len _ _) rfl (by omega) h3 (fun p hp => by
   obtain ⟨j, k, g1, g2, g3⟩ := hall (p + 1) (by simpa using hp)
   exact ⟨j, k, by simpa [Tr.idxs] using g1, by simpa using g2, g3⟩) (lim12 (.call_ f ks hf hk h4) hd))
 | attr_ s a h1 h2 ha ih =>
  intro hd pre post hT
  obtain ⟨j, hj, h3⟩ := kid1 (by simpa using ih (dep_kid hd a (by simp))) (flats_in hT)
  have hx := flat_top hT
  rw [hj] at hx
  exact tok33_18 hm hx rfl (more54_18 hm hx h3 (lim12 (.attr_ s a h1 h2 ha) hd))
 | index_ a b ha hb iha ihb =>
  intro hd pre post hT
  obtain ⟨i, j, hj, h1, h2⟩ := kid2 (by simpa using ⟨iha (dep_kid hd a (by simp)), ihb (dep_kid hd b (by simp))⟩) (flats_in hT)
  have hx := flat_top hT
  rw [hj] at hx
  exact tok33_19 hm hx rfl (more54_19 hm hx h1 h2 (lim12 (.index_ a b ha hb) hd))
 | slice_ a b d ha hb hc iha ihb ihc =>
  intro hd pre post hT
  obtain ⟨i, j, l, hj, h1, h2, h3⟩ := kid3 (by simpa using ⟨iha (dep_kid hd a (by simp)), ihb (dep_kid hd b (by simp)), ihc (dep_kid hd d (by simp))⟩) (flats_in hT)
  have hx := flat_top hT
  rw [hj] at hx
  exact tok33_20 hm hx rfl (more54_20 hm hx h1 h2 h3 (lim12 (.slice_ a b d ha hb hc) hd))
 | lambda_ s a h1 h2 ha ih =>
  intro hd pre post hT
  obtain ⟨i, j, hj, g1, g2⟩ := kid2 (a := .mk 22 0 s []) (b := a) (by
   simp only [List.mem_cons, List.not_mem_nil, or_false, forall_eq_or_imp, forall_eq]
   exact ⟨fun pre post hT => tok33_22 hm (flat_top hT) rfl (more54_22 hm (flat_top hT)), ih (dep_kid hd a (by simp))⟩) (flats_in hT)
  have hx := flat_top hT
  rw [hj] at hx
  exact tok33_21 hm hx rfl (more54_21 hm hx g1 g2 (lim12 (.lambda_ s a h1 h2 ha) hd))
end
section
open Go.RowKit
set_option linter.unusedVariables false
set_option linter.unusedSimpArgs false
theorem set_all {α : Type} {f : α → α} {l : List α} {i : Nat} {x : α} (hx : l[i]? = some x) : ((l.take i).map f ++ l.drop i).set i (f x) = (l.take (i + 1)).map f ++ l.drop (i + 1) := by
 have hq := (List.getElem?_eq_some_iff.1 hx).1
 have h1 : l.drop i = x :: l.drop (i + 1) := by
  rw [List.drop_eq_getElem_cons hq, (List.getElem?_eq_some_iff.1 hx).2]
 rw [List.set_append_right _ _ (by rw [List.length_map, List.length_take]; omega), List.length_map, List.length_take, Nat.min_eq_left (Nat.le_of_lt hq), Nat.sub_self, h1, List.set_cons_zero, List.take_add_one, hx]
 simp
theorem at_all {α : Type} {f : α → α} {l : List α} {i : Nat} {x : α} (hx : l[i]? = some x) : ((l.take i).map f ++ l.drop i)[i]? = some x := by
 have hq := (List.getElem?_eq_some_iff.1 hx).1
 rw [List.getElem?_append_right (by rw [List.length_map, List.length_take]; omega), List.length_map, List.length_take, Nat.min_eq_left (Nat.le_of_lt hq), Nat.sub_self, List.getElem?_drop, Nat.add_zero]
 exact hx
theorem set_same {Z : List NdS} {T : List NodeD} (hZ : Z.map (·.x) = T) (h0 : ∀ x ∈ T, x.at_ = 0) : (Z.map fun z => setZ 0 z).map (·.x) = T := by
 subst hZ
 rw [List.map_map]
 refine List.map_congr_left fun z hz => ?_
 have := h0 z.x (List.mem_map.2 ⟨z, hz, rfl⟩)
 show ({ z.x with at_ := 0 } : NodeD) = z.x
 rw [← this]
theorem bare_any {w : World} {A : Option Addr} {n c : Nat} {T : List NodeD} (h : RowN (fun _ => False) w (.slice A n c) T) (hn : n ≤ 549755813888) (h0 : ∀ x ∈ T, x.at_ = 0) : Calls Tryd.prog 18 #[.slice A n c] w fun e w' => ∃ A1 c1, e = .returned (.slice A1 n c1) ∧ RdT w' A1 n c1 T ∧ Below w.heap.size w w' := by
 obtain ⟨Z, hZ, hZl, hzr, hzk⟩ := h.rdm
 have HZ := qh hZ
 have HZL := qh hZl
 have HZR := qh hzr
 have HZK := qh hzk
 have H0 := qh h0
 clear h hZ hZl hzr hzk h0
 go_enter Tryd.func18, Tryd.ntmps18
 go_upto_region 3 with (at_builtin; go_must (refine wpList_appendZ _ rfl _ _ rfl (.slice (some ⟨w.heap.size, 0, none⟩) 0 0) [] rfl (Own.made w #[] 0 (by omega) rfl) A n c Z rfl (HZR.out.bel bl1) HZL.out (by simp only [List.length_nil]; omega) ?_); intro v6 w6 ho6 hg6 hn6; simp only [List.nil_append] at ho6; have HOZ0 := qh ho6; have HBZ0 : Hid (Below w.heap.size w w6) := qh (Below.trans (show Below w.heap.size w (w.alloc (.cells #[] 51)) from bl1) (grown_below hg6 (by simp) (fun b e => by have e2 : w.heap.size = b := (by simpa [Value.ownBlock] using e); omega))); have HNB : Hid (∀ b, v6.ownBlock = some b → w.heap.size ≤ b) := qh (fun b e => by rcases hn6 with h | h <;> rw [h] at e; (have e2 : w.heap.size = b := (by simpa [Value.ownBlock] using e); omega); (injection e with e; simp at e; omega)); clear hg6 hn6)
 obtain ⟨A11, c11, rfl, -, -⟩ := Own.rd HOZ0.out
 have HOZ : Hid (OwnZ w6 (.slice A11 n c11) Z) := qh (by have := HOZ0.out; rw [HZL.out] at this; exact this)
 rw [HZL.out] at HNB ⊢
 clear HOZ0 ho6
 go_loopw [4] (fun v4 wr => ∃ (j : Nat) (Y : List NdS), j ≤ n ∧ v4 = .int .i64 j ∧ Hid (Y = (Z.take j).map (fun z => setZ 0 z) ++ Z.drop j) ∧ Hid (Y.length = n) ∧ Hid (OwnZ wr (.slice A11 n c11) Y) ∧ Hid (Below w.heap.size w wr)) (fun v4 _ => n - (intOf v4).toNat)
 case atStart => exact ⟨0, Z, Nat.zero_le _, rfl, qh (by simp), HZL, HOZ, HBZ0⟩
 case round =>
  obtain ⟨j, Y, hj, rfl, HY, HYl, HO, HBW⟩ := hrel
  clear HOZ HBZ0
  by_cases hltj : j < n
  ·obtain ⟨z, hz⟩ : ∃ z, Z[j]? = some z := ⟨_, List.getElem?_eq_getElem (by rw [HZL.out]; exact hltj)⟩
   have hYz : Y[j]? = some z := by rw [HY.out]; exact at_all hz
   obtain ⟨b, rfl, cur, hcur⟩ := HO.out.at0 (by omega)
   obtain ⟨p1, f1, hset⟩ := HO.out.set_ HYl.out hYz 0
   have hbb : w.heap.size ≤ b := HNB.out b rfl
   have hblt := hcur.lt
   have HS := qh hset
   have HZz := qh hz
   clear hz hYz hset hcur
   go_wp2_with fail
   go_round
   case rel => exact ⟨j + 1, Y.set j (setZ 0 z), by omega, by go_num, qh (by rw [HY.out]; exact set_all HZz.out), qh (by rw [List.length_set]; exact HYl.out), HS, qh (Below.setCell HBW.out hbb _)⟩
   case measure => simp [intOf]; omega
  ·obtain rfl : j = n := by omega
   go_wp2_with fail
   go_ret
   have hYe : Y = Z.map fun z => setZ 0 z := by rw [HY.out, List.take_of_length_le (by rw [HZL.out]; exact Nat.le_refl _), List.drop_of_length_le (by rw [HZL.out]; exact Nat.le_refl _), List.append_nil]
   subst hYe
   refine ⟨A11, c11, rfl, ?_, HBW.out⟩
   have := HO.out.back (f := fun _ => 0) HYl.out HZK.out HBW.out
   rw [set_same HZ.out H0.out] at this
   exact this
theorem good_tree {e : Tr} (h : Good e) (hd : Tr.dep e ≤ 12) : treeOf (Tr.flat 0 e) = Tr.flat 0 e := by
 obtain ⟨r, hr⟩ := exprE_start (Tr.toks e)
 have h1 := back_plain (rest := []) h (by omega) (by decide) (by rw [List.append_nil]; exact hr)
 have h2 := (parsed_bk hr (by rw [h1])).1.tree
 rw [h1] at h2
 exact h2
theorem good_parse {e : Tr} (h : Good e) (hd : Tr.dep e ≤ 12) {rest : List TokD} (hr : noT hExpr ((rest[0]?).getD zeroT) = true) :
  ∃ r, parsed (Tr.toks e ++ rest) = some r ∧ nodeOf r = (Tr.size e : Int) - 1 ∧ usedOf r = ((Tr.toks e).length : Int) ∧ r.1.e = 0 ∧ treeOf r.1.ns = Tr.flat 0 e := by
 obtain ⟨r, hp⟩ := exprE_start (Tr.toks e ++ rest)
 have h1 := back_plain h (by omega) hr hp
 refine ⟨r, hp, ?_⟩
 subst h1
 exact ⟨by simp [nodeOf], by simp [usedOf], rfl, good_tree h hd⟩
end
section
open Go.RowKit
set_option linter.unusedVariables false
set_option linter.unusedSimpArgs false
theorem Rd.first {w : World} {A : Option Addr} {n c m : Nat} {S : List Int} (h : Rd w A n c 1 (ics S)) (hm : m ≤ n) : Rd w A m c 1 (ics (S.take m)) := by
 obtain ⟨h1, h2, h3, h4⟩ := h
 rw [ics_length] at h3
 refine ⟨by omega, by omega, by rw [ics_length, List.length_take]; omega, fun hm0 => ?_⟩
 obtain ⟨b, o, e, hb, hc⟩ := h4 (by omega)
 refine ⟨b, o, e, hb, fun j u hj => hc j u ?_⟩
 simp only [ics, List.map_take] at hj ⊢
 rw [List.getElem?_take] at hj
 split at hj
 ·exact hj
 ·cases hj
theorem Fz.set0 {B : Nat} {w : World} {b n c i : Nat} {Z : List NdS} {z : NdS} (h : Fz B w (.slice (some ⟨b, 0, none⟩) n c) Z) (hn : Z.length = n) (hi : Z[i]? = some z) (u : Int) : Fz B (w.setCell ⟨b, i * 5 + 1, none⟩ (.int .i64 u)) (.slice (some ⟨b, 0, none⟩) n c) (Z.set i (setZ u z)) :=
 ⟨(h.own.set_ hn hi u).2.2, h.new, fun y hy => by
  have hk : OwnI w y.v y.x.kids ∧ (∀ b, y.v.ownBlock = some b → B ≤ b) ∧ y.x.kids.length ≤ 4398046511103 := by
   rcases List.mem_or_eq_of_mem_set hy with hy | rfl
   ·exact h.kid y hy
   ·exact h.kid z (List.mem_of_getElem? hi)
  exact ⟨hk.1.keep fun k hk2 => Below.heap_setCell w ⟨b, i * 5 + 1, none⟩ _ k fun e => by
   have e : k = b := e
   subst e
   exact own_own_ne h.own hk.1 (by decide) (by rfl) hk2, hk.2⟩⟩
theorem Fz.row {B : Nat} {w : World} {v : Value} {Z : List NdS} {T : List NodeD} (h : Fz B w v Z) (hT : Z.map (·.x) = T) : RowN (fun _ => False) w v T :=
 ⟨Z, hT, h.own, fun z hz => ⟨(h.kid z hz).1, fun _ _ hf => hf, (h.kid z hz).2.2⟩⟩
theorem OwnI.rdm {w : World} {A : Option Addr} {n c : Nat} {xs : List Int} (h : OwnI w (.slice A n c) xs) (hn : xs.length = n) : Rd w A n c 1 (ics xs) := by
 obtain ⟨A', c', e, hr, -⟩ := Own.rd h
 injection e with e1 e2 e3
 subst e1 e3
 rw [hn] at hr
 exact hr
def OneP (w : World) (e : Ending) (w' : World) : Prop :=
 ∃ (A1 A2 : Option Addr) (c1 c2 r1 r2 : Nat), e = .returned (.tuple #[.slice A1 r1 c1, .slice A2 r2 c2]) ∧ Below w.heap.size w w' ∧
  (r1 ≠ 0 → ∃ t : Tr, Good t ∧ Tr.dep t ≤ 12 ∧ Tr.size t = r1 ∧ (Tr.toks t).length = r2 ∧ RowN (fun _ => False) w' (.slice A1 r1 c1) (Tr.flat 0 t) ∧ Tz w.heap.size w' (.slice A2 r2 c2) (Tr.toks t))
theorem one_any {w : World} {A : Option Addr} {n c b : Nat} {S : List Int} (hrd : Rd w A n c 1 (ics S)) (hl : S.length = n) (hsr : ∀ x ∈ S, -9223372036854775808 ≤ x ∧ x ≤ 9223372036854775807) (hA : ∀ b o, A = some ⟨b, o, none⟩ → b < w.heap.size) (hb : b < 256) : Calls Tryd.prog 15 #[.slice A n c, .int .u8 b] w (OneP w) := by
 unfold OneP
 obtain ⟨m, hmn, hm40, hmin⟩ : ∃ m : Nat, m ≤ n ∧ m ≤ 40 ∧ min (n : Int) 40 = (m : Int) := ⟨min n 40, by omega, by omega, by omega⟩
 have hc1 := hrd.1
 have HRD := qh (hrd.first hmn)
 have HSL : Hid ((S.take m).length = m) := qh (by rw [List.length_take]; omega)
 have HSR : Hid (∀ x ∈ S.take m, -9223372036854775808 ≤ x ∧ x ≤ 9223372036854775807) := qh (fun x hx => hsr x (List.mem_of_mem_take hx))
 have HA := qh hA
 have hmc : m ≤ c := by omega
 clear hrd hl hsr hA
 go_enter Tryd.func15, Tryd.ntmps15
 go_upto_region 2 with (go_at_call 30; go_must (refine (made_any HRD.out HSL.out (by rw [HSL.out]; exact hm40) HSR.out HA.out).mono ?_); rintro e w1 ⟨v, T, rfl, hrow, hgood, hlen, hbel, hnew⟩; obtain ⟨A1, c1, rfl, -⟩ := hrow.rdT; obtain ⟨tn, htn⟩ : ∃ tn, T.length = tn := ⟨_, rfl⟩; rw [htn] at hrow hlen ⊢; have HR := qh hrow; have HG := qh hgood; have HTN := qh htn; have HB := qh hbel; clear hrow hgood hbel hnew htn)
 go_upto_region 3 with (go_at_call 31; go_must (refine (exprsN_any HR.out HTN.out hlen).mono ?_); rintro e w2 ⟨A2, c2, r2, rfl, hxl, hown, hb2⟩; have HX := qh hxl; have HO := qh hown; replace HR := qh (HR.out.belw hb2); replace HB := qh (HB.out.trans (below_low hb2 HB.out.size)); clear hxl hown hb2)
 by_cases h0 : r2 = 0
 ·subst h0
  go_wp2_with fail
  exact bodyPost_ret (v := .tuple #[.slice none 0 0, .slice none 0 0]) (by first | (simp [results, Tryd.results15, go_sem]; done) | (simp [results, Tryd.results15, go_sem]; rfl)) rfl ⟨none, none, 0, 0, 0, 0, rfl, HB.out, fun h => absurd rfl h⟩
 have h0b : ((r2 : Int) == 0) = false := by simp; omega
 obtain ⟨q, hq, hqr⟩ : ∃ q : Nat, q < r2 ∧ Int.tmod (b : Int) (r2 : Int) = (q : Int) := ⟨b % r2, Nat.mod_lt _ (by omega), by rw [Int.tmod_eq_emod_of_nonneg (by omega)]; omega⟩
 obtain ⟨x, hx⟩ : ∃ x, (exprsL T tn)[q]? = some x := ⟨_, List.getElem?_eq_getElem (by rw [HX.out]; exact hq)⟩
 obtain ⟨k, y, rfl, hk, hy1, hy2⟩ := exprsL_mem (List.mem_of_getElem? hx)
 obtain ⟨t, hrt, hgt, hdt⟩ := HG.out k y hk hy1 hy2
 have HRT := qh hrt
 have HGT := qh hgt
 have HDT := qh hdt
 obtain ⟨bq, oq, rfl, hbq, yq⟩ := (OwnI.rdm HO.out HX.out).kid hx (by omega)
 clear hx hk hy1 hy2 hrt hgt hdt
 go_upto_region 6 with (go_at_call 32; go_must (refine (sub_any HTN.out hlen k t HRT.out (by have := good_lim HGT.out HDT.out; omega) _ HR.out).mono ?_); rintro e w3 ⟨A3, c3, r3, Z, rfl, hzl, hzm, hfz, hb3⟩; have HZl := qh hzl; have HZm := qh hzm; have HF := qh (hfz.less HB.out.size); replace HB := qh (HB.out.trans (below_low hb3 HB.out.size)); clear hzl hzm hfz hb3)
 have hr3 : r3 = Tr.size t := by rw [← HZl.out, ← flat_len 0 t, ← HZm.out, List.length_map]
 have hr3b : 0 < r3 ∧ r3 ≤ 2176782336 := by rw [hr3]; exact ⟨size_pos t, (good_lim HGT.out HDT.out).1⟩
 have HR3 := qh hr3
 have HF3 := HF
 have HB3 := HB
 clear hr3 HF HB HR HO HX HRD HSL HSR HA HTN HG HRT hbq yq h0 h0b hq hqr
 go_wp2_with fail
 go_loopw [9] (fun v9 wr => ∃ (j : Nat) (Y : List NdS), j ≤ r3 ∧ v9 = .int .i64 j ∧ Hid (Y = (Z.take j).map (fun z => setZ 0 z) ++ Z.drop j) ∧ Hid (Y.length = r3) ∧ Hid (Fz w.heap.size wr (.slice A3 r3 c3) Y) ∧ Hid (Below w.heap.size w wr)) (fun v9 _ => r3 - (intOf v9).toNat)
 case atStart => exact ⟨0, Z, Nat.zero_le _, rfl, qh (by simp), HZl, HF3, HB3⟩
 case round =>
  obtain ⟨j, Y, hj, rfl, HY, HYl, HF, HB⟩ := hrel
  clear HF3 HB3
  by_cases hltj : j < r3
  ·obtain ⟨z, hz⟩ : ∃ z, Z[j]? = some z := ⟨_, List.getElem?_eq_getElem (by rw [HZl.out]; exact hltj)⟩
   have hYz : Y[j]? = some z := by rw [HY.out]; exact at_all hz
   obtain ⟨b3, rfl, cur, hcur⟩ := HF.out.own.at0 (by omega)
   obtain ⟨p1, f1, -⟩ := HF.out.own.set_ HYl.out hYz 0
   have HS := qh (HF.out.set0 HYl.out hYz 0)
   have hbb : w.heap.size ≤ b3 := HF.out.new b3 rfl
   have hblt := hcur.lt
   have HZz := qh hz
   clear hz hYz hcur
   go_wp2_with fail
   go_round
   case rel => exact ⟨j + 1, Y.set j (setZ 0 z), by omega, by go_num, qh (by rw [HY.out]; exact set_all HZz.out), qh (by rw [List.length_set]; exact HYl.out), HS, qh (Below.setCell HB.out hbb _)⟩
   case measure => simp [intOf]; omega
  ·obtain rfl : j = r3 := by omega
   have hYe : Y = Z.map fun z => setZ 0 z := by rw [HY.out, List.take_of_length_le (by rw [HZl.out]; exact Nat.le_refl _), List.drop_of_length_le (by rw [HZl.out]; exact Nat.le_refl _), List.append_nil]
   have hYm : Y.map (·.x) = Tr.flat 0 t := by rw [hYe, ← HZm.out, List.map_map]; rfl
   have hTr := HF.out.row hYm
   have HTr := qh hTr
   obtain ⟨i, hi, hi2⟩ : ∃ i : Nat, IntKind.i64.wrap ((j : Int) - 1) = (i : Int) ∧ i = 0 + Tr.size t - 1 := ⟨j - 1, (IntWalk.i64_in _ (by omega)).trans (by omega), by rw [← HR3.out]; omega⟩
   have HK := qh (tks_all (T := Tr.flat 0 t) (A := A3) (m := j) (c := c3) (by rw [flat_len, ← HR3.out]) HGT.out HDT.out [] [] (by simp))
   rw [show ([] : List NodeD).length + Tr.size t - 1 = i from hi2.symm] at HK
   clear hYe hYm hTr hi2
   go_wp2_with (go_at_call 33; go_must (refine (HK.out _ HTr.out).mono ?_); rintro e w5 ⟨A5, c5, r5, rfl, hl5, hz5, hb5⟩; have HL5 := qh hl5; have HZ5 := qh (hz5.less HB.out.size); have HT5 := qh (HTr.out.belw hb5); have HB5 := qh (HB.out.trans (below_low hb5 HB.out.size)); clear hl5 hz5 hb5)
   exact bodyPost_ret (v := .tuple #[.slice A3 j c3, .slice A5 r5 c5]) (by first | (simp [results, Tryd.results15, go_sem]; done) | (simp [results, Tryd.results15, go_sem]; rfl)) rfl ⟨A3, A5, c3, c5, j, r5, rfl, HB5.out, fun _ => ⟨t, HGT.out, HDT.out, HR3.out.symm, HL5.out, HT5.out, HZ5.out⟩⟩
end
section
open Go.RowKit
set_option linter.unusedVariables false
set_option linter.unusedSimpArgs false
theorem short_ok {L : List TokD} (h : ∀ x ∈ L, Short x) : ∀ t ∈ L, t.s.size ≤ maxLen := fun t ht => Nat.le_trans (h t ht) (by decide)
end
end Go.Proofs.YtjdcicopjipmnaaDoor
