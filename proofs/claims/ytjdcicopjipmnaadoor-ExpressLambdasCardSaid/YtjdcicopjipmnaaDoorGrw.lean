/- How the plain parser goes on (1). -/
import Derived.Test.YtjdcicopjipmnaaDoorPrs
namespace Go.Proofs.YtjdcicopjipmnaaDoor
set_option linter.unusedVariables false
set_option linter.unusedSimpArgs false
def KidsOk (ns : List NodeD) : Prop := ∀ (i : Nat) x, ns[i]? = some x → ∀ k ∈ x.kids, 0 ≤ k ∧ k < (i : Int)
/-- on from s to s' (n tokens): never back; nodes are added behind, d more than three for each token -/
structure Gr (n : Nat) (d : Int) (s s' : PS) : Prop where
  up : s.at_ ≤ s'.at_
  le : s.at_ ≤ n → s'.at_ ≤ n
  bad : s.e ≠ 0 → s' = s
  pre : ∃ t, s'.ns = s.ns ++ t
  dpre : ∃ t, s'.dp = s.dp ++ t
  len : s.dp.length = s.ns.length → s'.dp.length = s'.ns.length
  er : s.at_ ≤ n → s.e = 0 → s'.e = 0 ∨ ((s'.e = 30 ∨ s'.e = 32) ∧ ∃ k : Nat, s'.bad = k ∧ k ≤ n)
  kids : KidsOk s.ns → KidsOk s'.ns
  cnt : (s'.ns.length : Int) + 3 * s.at_ ≤ s.ns.length + 3 * s'.at_ + d
section
variable {n : Nat} {d d' : Int} {s s1 s2 : PS}
theorem Gr.refl (n : Nat) (s : PS) : Gr n 0 s s := ⟨Nat.le_refl _, id, fun _ => rfl, ⟨[], by simp⟩, ⟨[], by simp⟩, id, fun _ h => .inl h, id, by omega⟩
theorem Gr.trans (h : Gr n d s s1) (k : Gr n d' s1 s2) : Gr n (d + d') s s2 := by
  refine ⟨Nat.le_trans h.up k.up, fun x => k.le (h.le x), fun e => ?_, ?_, ?_, fun x => k.len (h.len x), fun x e => ?_, fun x => k.kids (h.kids x), ?_⟩
  · have e1 := h.bad e
    rw [e1] at k
    rw [k.bad e]
  · obtain ⟨t, ht⟩ := h.pre
    obtain ⟨u, hu⟩ := k.pre
    exact ⟨t ++ u, by rw [hu, ht, List.append_assoc]⟩
  · obtain ⟨t, ht⟩ := h.dpre
    obtain ⟨u, hu⟩ := k.dpre
    exact ⟨t ++ u, by rw [hu, ht, List.append_assoc]⟩
  · rcases h.er x e with h1 | h1
    · exact k.er (h.le x) h1
    · have e2 : s1.e ≠ 0 := by rcases h1.1 with h2 | h2 <;> rw [h2] <;> decide
      rw [k.bad e2]
      exact .inr h1
  · have := h.cnt
    have := k.cnt
    omega
theorem Gr.weak (h : Gr n d s s1) (hd : d ≤ d') : Gr n d' s s1 := ⟨h.up, h.le, h.bad, h.pre, h.dpre, h.len, h.er, h.kids, by have := h.cnt; omega⟩
theorem Gr.pos (h : Gr n d s s1) (e : s1.e = 0) : s.e = 0 := Decidable.byContradiction fun h1 => by rw [h.bad h1] at e; exact h1 e
end
section
variable {L : List TokD} {s : PS}
theorem tokP_bad (h : s.e ≠ 0) (b : Nat) : tokP L s b = zeroT := by unfold tokP; rw [if_pos h]
theorem tokP_in {b : Nat} (h : (tokP L s b).k ≠ 0) : s.e = 0 ∧ s.at_ + b < L.length := by
  refine ⟨Decidable.byContradiction fun h1 => h (by rw [tokP_bad h1]; rfl), Nat.lt_of_not_le fun h1 => h ?_⟩
  unfold tokP
  split
  · rfl
  · rw [List.getElem?_eq_none h1]; rfl
theorem isP_in {t : ByteArray} {b : Nat} (h : isP L s t b = true) : s.e = 0 ∧ s.at_ + b < L.length := by
  unfold isP at h
  rw [Bool.and_eq_true] at h
  refine tokP_in (b := b) fun e => ?_
  rw [e] at h
  have h1 := of_decide_eq_true h.1
  split at h1 <;> omega
theorem isP_bad (h : s.e ≠ 0) (t : ByteArray) (b : Nat) : isP L s t b = false := by
  cases e : isP L s t b with
  | false => rfl
  | true => exact absurd (isP_in e).1 h
theorem step_gr {k : Nat} (h : s.e = 0) (hn : s.at_ + k ≤ L.length) : Gr L.length (-3 * k) s (stepP s k) := by
  refine ⟨?_, fun _ => hn, fun e => absurd h e, ⟨[], by simp [stepP]⟩, ⟨[], by simp [stepP]⟩, id, fun _ e => .inl e, id, ?_⟩
  · show s.at_ ≤ s.at_ + k
    omega
  · show (s.ns.length : Int) + 3 * s.at_ ≤ s.ns.length + 3 * (s.at_ + k : Nat) + (-3 * k)
    omega
theorem any_cases : ∀ (l : List ByteArray), (anyP L l s = (s, ⟨#[]⟩, false) ∧ ∀ t ∈ l, isP L s t 0 = false) ∨ ∃ t ∈ l, isP L s t 0 = true ∧ anyP L l s = (stepP s 1, t, true)
  | [] => .inl ⟨rfl, fun t h => by cases h⟩
  | t :: l => by
    unfold anyP
    cases h : isP L s t 0 with
    | true => exact .inr ⟨t, .head _, h, by rw [if_pos rfl]⟩
    | false =>
      rw [if_neg (by simp)]
      rcases any_cases l with ⟨h1, h2⟩ | ⟨u, hu, h1, h2⟩
      · exact .inl ⟨h1, fun x hx => by rcases List.mem_cons.1 hx with rfl | hx; exact h; exact h2 x hx⟩
      · exact .inr ⟨u, .tail _ hu, h1, h2⟩
theorem any_gr (l : List ByteArray) : Gr L.length (if (anyP L l s).2.2 then -3 else 0) s (anyP L l s).1 := by
  rcases any_cases (L := L) (s := s) l with ⟨h, _⟩ | ⟨t, _, h1, h⟩
  · rw [h]; exact Gr.refl _ _
  · rw [h]; exact step_gr (k := 1) (isP_in h1).1 (isP_in h1).2
theorem any_yes {l : List ByteArray} (h : (anyP L l s).2.2 = true) : Gr L.length (-3) s (anyP L l s).1 := by have := any_gr (L := L) (s := s) l; rwa [h] at this
theorem any_any_gr (l : List ByteArray) : Gr L.length 0 s (anyP L l s).1 := (any_gr l).weak (by split <;> omega)
theorem take_gr (t : ByteArray) : Gr L.length 0 s (takeP L t s).1 := any_any_gr [t]
theorem take_yes {t : ByteArray} (h : (takeP L t s).2 = true) : Gr L.length (-3) s (takeP L t s).1 := any_yes (l := [t]) h
theorem take_no {t : ByteArray} (h : (takeP L t s).2 = false) : (takeP L t s).1 = s := by
  rcases any_cases (L := L) (s := s) [t] with ⟨h1, _⟩ | ⟨u, _, _, h1⟩
  · unfold takeP; rw [h1]
  · unfold takeP at h; rw [h1] at h; cases h
theorem take_is (t : ByteArray) : (takeP L t s).2 = isP L s t 0 := by
  unfold takeP anyP anyP
  cases h : isP L s t 0 <;> simp [h]
theorem take_step {t : ByteArray} (h : (takeP L t s).2 = true) : (takeP L t s).1 = stepP s 1 ∧ s.e = 0 ∧ s.at_ < L.length := by
  rw [take_is] at h
  refine ⟨?_, isP_in h⟩
  unfold takeP anyP
  rw [if_pos h]
theorem fail_gr {e : Int} (he : e = 30 ∨ e = 32) {b : Int} {k : Nat} (hb : b = k) (hk : s.at_ ≤ L.length → k ≤ L.length) : Gr L.length 0 s (failP s e b) := by
  unfold failP
  split
  · rename_i h
    exact ⟨Nat.le_refl _, id, fun e => absurd h e, ⟨[], by simp⟩, ⟨[], by simp⟩, id, fun hn _ => .inr ⟨he, k, hb, hk hn⟩, id, by show (s.ns.length : Int) + 3 * (s.at_ : Int) ≤ s.ns.length + 3 * (s.at_ : Int) + 0; omega⟩
  · exact Gr.refl _ _
theorem need_gr (t : ByteArray) : Gr L.length 0 s (needP L t s) := by
  unfold needP
  split
  · exact take_gr t
  · rename_i h
    have h1 := take_no (Bool.eq_false_iff.2 h)
    rw [h1]
    exact fail_gr (.inl rfl) rfl id
theorem need_adv (t : ByteArray) : (needP L t s).e ≠ 0 ∨ s.at_ + 1 ≤ (needP L t s).at_ := by
  unfold needP
  split
  · rename_i h
    rw [(take_step h).1]
    exact .inr (Nat.le_refl _)
  · unfold failP
    split
    · exact .inl (by show (30 : Int) ≠ 0; decide)
    · rename_i h; exact .inl h
theorem name_gr : Gr L.length 0 s (nameP L s).1 := by
  unfold nameP
  split
  · rename_i h
    have h1 := tokP_in (L := L) (s := s) (b := 0) (by rw [h.1]; decide)
    exact (step_gr h1.1 h1.2).weak (by omega)
  · exact fail_gr (.inl rfl) rfl id
/-- a name, and what follows it -/
theorem name_then {d : Int} {s2 : PS} (h : Gr L.length d (nameP L s).1 s2) (h3 : d ≤ 3) : Gr L.length 0 s s2 := by
  by_cases hc : (tokP L s 0).k = 1 ∧ nameB (tokP L s 0).s = true
  · have e : (nameP L s).1 = stepP s 1 := by unfold nameP; rw [if_pos hc]
    have h1 := tokP_in (L := L) (s := s) (b := 0) (by rw [hc.1]; decide)
    rw [e] at h
    exact ((step_gr (k := 1) h1.1 h1.2).trans h).weak (by omega)
  · have e : (nameP L s).1.e ≠ 0 := by
      unfold nameP
      rw [if_neg hc]
      unfold failP
      split
      · show (30 : Int) ≠ 0
        decide
      · assumption
    rw [h.bad e]
    exact name_gr
theorem add_gr (op at_ : Int) (t : ByteArray) (m : Int) (kids : List Int) : Gr L.length 1 s (addP s op at_ t m kids).1 := by
  unfold addP
  split
  · exact (Gr.refl _ _).weak (by omega)
  · rename_i h0
    have h0 : s.e = 0 := Decidable.byContradiction h0
    split
    · exact (fail_gr (.inr rfl) rfl id).weak (by omega)
    · refine ⟨Nat.le_refl _, id, fun e => absurd h0 e, ⟨[_], rfl⟩, ⟨[_], rfl⟩, fun h => ?_, fun _ e => .inl e, fun hk => ?_, ?_⟩
      · show (s.dp ++ [_]).length = (s.ns ++ [_]).length
        simp [h]
      · unfold KidsOk
        intro i x hx k hkx
        simp only at hx
        rcases Nat.lt_trichotomy i s.ns.length with h1 | h1 | h1
        · rw [List.getElem?_append_left h1] at hx
          exact hk i x hx k hkx
        · subst h1
          rw [List.getElem?_append_right (Nat.le_refl _), Nat.sub_self] at hx
          obtain rfl := Option.some.inj hx
          simp only [List.mem_filter, decide_eq_true_eq] at hkx
          exact hkx.2
        · rw [List.getElem?_eq_none (by simp; omega)] at hx
          cases hx
      · show (((s.ns ++ [_]).length : Nat) : Int) + _ ≤ _
        simp
        omega
/-- the node is one of those that there are, or none -/
def In (s : PS) (x : Int) : Prop := x = -1 ∨ ∃ k : Nat, x = k ∧ k < s.ns.length
theorem In.mono {n : Nat} {d : Int} {s2 : PS} {x : Int} (h : In s x) (g : Gr n d s s2) : In s2 x := by
  rcases h with h | ⟨k, e, h⟩
  · exact .inl h
  · obtain ⟨t, ht⟩ := g.pre
    exact .inr ⟨k, e, by rw [ht, List.length_append]; omega⟩
theorem add_in (op at_ : Int) (t : ByteArray) (m : Int) (kids : List Int) : In (addP s op at_ t m kids).1 (addP s op at_ t m kids).2 := by
  unfold addP
  split
  · exact .inl rfl
  · split
    · exact .inl rfl
    · exact .inr ⟨s.ns.length, rfl, by simp⟩
end
end Go.Proofs.YtjdcicopjipmnaaDoor
