/- How the plain parser goes on (1). How the plain parser goes on (2): each part. The plain parser always ends. -/
import Derived.Test.YtjdcicopjipmnaaDoorPrs
namespace Go.Proofs.YtjdcicopjipmnaaDoor
set_option linter.unusedVariables false
set_option linter.unusedSimpArgs false
def KidsOk (ns : List NodeD) : Prop := ∀ (i : Nat) x, ns[i]? = some x → ∀ k ∈ x.kids, 0 ≤ k ∧ k < (i : Int)
/-- on from s to s' (n tokens): never back; nodes are added behind, d more than three for each token -/
structure Gr (n : Nat) (d : Int) (s s' : PS) : Prop where
  up : s.at_ ≤ s'.at_
  le : s.at_ ≤ n → s'.at_ ≤ n
  bad : s.e ≠ 0 → s' = s
  pre : ∃ t, s'.ns = s.ns ++ t
  dpre : ∃ t, s'.dp = s.dp ++ t
  len : s.dp.length = s.ns.length → s'.dp.length = s'.ns.length
  er : s.at_ ≤ n → s.e = 0 → s'.e = 0 ∨ ((s'.e = 30 ∨ s'.e = 32) ∧ ∃ k : Nat, s'.bad = k ∧ k ≤ n)
  kids : KidsOk s.ns → KidsOk s'.ns
  cnt : (s'.ns.length : Int) + 3 * s.at_ ≤ s.ns.length + 3 * s'.at_ + d
section
variable {n : Nat} {d d' : Int} {s s1 s2 : PS}
theorem Gr.refl (n : Nat) (s : PS) : Gr n 0 s s := ⟨Nat.le_refl _, id, fun _ => rfl, ⟨[], by simp⟩, ⟨[], by simp⟩, id, fun _ h => .inl h, id, by omega⟩
theorem Gr.trans (h : Gr n d s s1) (k : Gr n d' s1 s2) : Gr n (d + d') s s2 := by
  refine ⟨Nat.le_trans h.up k.up, fun x => k.le (h.le x), fun e => ?_, ?_, ?_, fun x => k.len (h.len x), fun x e => ?_, fun x => k.kids (h.kids x), ?_⟩
  · have e1 := h.bad e
    rw [e1] at k
    rw [k.bad e]
  · obtain ⟨t, ht⟩ := h.pre
    obtain ⟨u, hu⟩ := k.pre
    exact ⟨t ++ u, by rw [hu, ht, List.append_assoc]⟩
  · obtain ⟨t, ht⟩ := h.dpre
    obtain ⟨u, hu⟩ := k.dpre
    exact ⟨t ++ u, by rw [hu, ht, List.append_assoc]⟩
  · rcases h.er x e with h1 | h1
    · exact k.er (h.le x) h1
    · have e2 : s1.e ≠ 0 := by rcases h1.1 with h2 | h2 <;> rw [h2] <;> decide
      rw [k.bad e2]
      exact .inr h1
  · have := h.cnt
    have := k.cnt
    omega
theorem Gr.weak (h : Gr n d s s1) (hd : d ≤ d') : Gr n d' s s1 := ⟨h.up, h.le, h.bad, h.pre, h.dpre, h.len, h.er, h.kids, by have := h.cnt; omega⟩
theorem Gr.pos (h : Gr n d s s1) (e : s1.e = 0) : s.e = 0 := Decidable.byContradiction fun h1 => by rw [h.bad h1] at e; exact h1 e
end
section
variable {L : List TokD} {s : PS}
theorem tokP_bad (h : s.e ≠ 0) (b : Nat) : tokP L s b = zeroT := by unfold tokP; rw [if_pos h]
theorem tokP_in {b : Nat} (h : (tokP L s b).k ≠ 0) : s.e = 0 ∧ s.at_ + b < L.length := by
  refine ⟨Decidable.byContradiction fun h1 => h (by rw [tokP_bad h1]; rfl), Nat.lt_of_not_le fun h1 => h ?_⟩
  unfold tokP
  split
  · rfl
  · rw [List.getElem?_eq_none h1]; rfl
theorem isP_in {t : ByteArray} {b : Nat} (h : isP L s t b = true) : s.e = 0 ∧ s.at_ + b < L.length := by
  unfold isP at h
  rw [Bool.and_eq_true] at h
  refine tokP_in (b := b) fun e => ?_
  rw [e] at h
  have h1 := of_decide_eq_true h.1
  split at h1 <;> omega
theorem isP_bad (h : s.e ≠ 0) (t : ByteArray) (b : Nat) : isP L s t b = false := by
  cases e : isP L s t b with
  | false => rfl
  | true => exact absurd (isP_in e).1 h
theorem step_gr {k : Nat} (h : s.e = 0) (hn : s.at_ + k ≤ L.length) : Gr L.length (-3 * k) s (stepP s k) := by
  refine ⟨?_, fun _ => hn, fun e => absurd h e, ⟨[], by simp [stepP]⟩, ⟨[], by simp [stepP]⟩, id, fun _ e => .inl e, id, ?_⟩
  · show s.at_ ≤ s.at_ + k
    omega
  · show (s.ns.length : Int) + 3 * s.at_ ≤ s.ns.length + 3 * (s.at_ + k : Nat) + (-3 * k)
    omega
theorem any_cases : ∀ (l : List ByteArray), (anyP L l s = (s, ⟨#[]⟩, false) ∧ ∀ t ∈ l, isP L s t 0 = false) ∨ ∃ t ∈ l, isP L s t 0 = true ∧ anyP L l s = (stepP s 1, t, true)
  | [] => .inl ⟨rfl, fun t h => by cases h⟩
  | t :: l => by
    unfold anyP
    cases h : isP L s t 0 with
    | true => exact .inr ⟨t, .head _, h, by rw [if_pos rfl]⟩
    | false =>
      rw [if_neg (by simp)]
      rcases any_cases l with ⟨h1, h2⟩ | ⟨u, hu, h1, h2⟩
      · exact .inl ⟨h1, fun x hx => by rcases List.mem_cons.1 hx with rfl | hx; exact h; exact h2 x hx⟩
      · exact .inr ⟨u, .tail _ hu, h1, h2⟩
theorem any_gr (l : List ByteArray) : Gr L.length (if (anyP L l s).2.2 then -3 else 0) s (anyP L l s).1 := by
  rcases any_cases (L := L) (s := s) l with ⟨h, _⟩ | ⟨t, _, h1, h⟩
  · rw [h]; exact Gr.refl _ _
  · rw [h]; exact step_gr (k := 1) (isP_in h1).1 (isP_in h1).2
theorem any_yes {l : List ByteArray} (h : (anyP L l s).2.2 = true) : Gr L.length (-3) s (anyP L l s).1 := by have := any_gr (L := L) (s := s) l; rwa [h] at this
theorem any_any_gr (l : List ByteArray) : Gr L.length 0 s (anyP L l s).1 := (any_gr l).weak (by split <;> omega)
theorem take_gr (t : ByteArray) : Gr L.length 0 s (takeP L t s).1 := any_any_gr [t]
theorem take_yes {t : ByteArray} (h : (takeP L t s).2 = true) : Gr L.length (-3) s (takeP L t s).1 := any_yes (l := [t]) h
theorem take_no {t : ByteArray} (h : (takeP L t s).2 = false) : (takeP L t s).1 = s := by
  rcases any_cases (L := L) (s := s) [t] with ⟨h1, _⟩ | ⟨u, _, _, h1⟩
  · unfold takeP; rw [h1]
  · unfold takeP at h; rw [h1] at h; cases h
theorem take_is (t : ByteArray) : (takeP L t s).2 = isP L s t 0 := by
  unfold takeP anyP anyP
  cases h : isP L s t 0 <;> simp [h]
theorem take_step {t : ByteArray} (h : (takeP L t s).2 = true) : (takeP L t s).1 = stepP s 1 ∧ s.e = 0 ∧ s.at_ < L.length := by
  rw [take_is] at h
  refine ⟨?_, isP_in h⟩
  unfold takeP anyP
  rw [if_pos h]
theorem fail_gr {e : Int} (he : e = 30 ∨ e = 32) {b : Int} {k : Nat} (hb : b = k) (hk : s.at_ ≤ L.length → k ≤ L.length) : Gr L.length 0 s (failP s e b) := by
  unfold failP
  split
  · rename_i h
    exact ⟨Nat.le_refl _, id, fun e => absurd h e, ⟨[], by simp⟩, ⟨[], by simp⟩, id, fun hn _ => .inr ⟨he, k, hb, hk hn⟩, id, by show (s.ns.length : Int) + 3 * (s.at_ : Int) ≤ s.ns.length + 3 * (s.at_ : Int) + 0; omega⟩
  · exact Gr.refl _ _
theorem need_gr (t : ByteArray) : Gr L.length 0 s (needP L t s) := by
  unfold needP
  split
  · exact take_gr t
  · rename_i h
    have h1 := take_no (Bool.eq_false_iff.2 h)
    rw [h1]
    exact fail_gr (.inl rfl) rfl id
theorem need_adv (t : ByteArray) : (needP L t s).e ≠ 0 ∨ s.at_ + 1 ≤ (needP L t s).at_ := by
  unfold needP
  split
  · rename_i h
    rw [(take_step h).1]
    exact .inr (Nat.le_refl _)
  · unfold failP
    split
    · exact .inl (by show (30 : Int) ≠ 0; decide)
    · rename_i h; exact .inl h
theorem name_gr : Gr L.length 0 s (nameP L s).1 := by
  unfold nameP
  split
  · rename_i h
    have h1 := tokP_in (L := L) (s := s) (b := 0) (by rw [h.1]; decide)
    exact (step_gr h1.1 h1.2).weak (by omega)
  · exact fail_gr (.inl rfl) rfl id
/-- a name, and what follows it -/
theorem name_then {d : Int} {s2 : PS} (h : Gr L.length d (nameP L s).1 s2) (h3 : d ≤ 3) : Gr L.length 0 s s2 := by
  by_cases hc : (tokP L s 0).k = 1 ∧ nameB (tokP L s 0).s = true
  · have e : (nameP L s).1 = stepP s 1 := by unfold nameP; rw [if_pos hc]
    have h1 := tokP_in (L := L) (s := s) (b := 0) (by rw [hc.1]; decide)
    rw [e] at h
    exact ((step_gr (k := 1) h1.1 h1.2).trans h).weak (by omega)
  · have e : (nameP L s).1.e ≠ 0 := by
      unfold nameP
      rw [if_neg hc]
      unfold failP
      split
      · show (30 : Int) ≠ 0
        decide
      · assumption
    rw [h.bad e]
    exact name_gr
theorem add_gr (op at_ : Int) (t : ByteArray) (m : Int) (kids : List Int) : Gr L.length 1 s (addP s op at_ t m kids).1 := by
  unfold addP
  split
  · exact (Gr.refl _ _).weak (by omega)
  · rename_i h0
    have h0 : s.e = 0 := Decidable.byContradiction h0
    split
    · exact (fail_gr (.inr rfl) rfl id).weak (by omega)
    · refine ⟨Nat.le_refl _, id, fun e => absurd h0 e, ⟨[_], rfl⟩, ⟨[_], rfl⟩, fun h => ?_, fun _ e => .inl e, fun hk => ?_, ?_⟩
      · show (s.dp ++ [_]).length = (s.ns ++ [_]).length
        simp [h]
      · unfold KidsOk
        intro i x hx k hkx
        simp only at hx
        rcases Nat.lt_trichotomy i s.ns.length with h1 | h1 | h1
        · rw [List.getElem?_append_left h1] at hx
          exact hk i x hx k hkx
        · subst h1
          rw [List.getElem?_append_right (Nat.le_refl _), Nat.sub_self] at hx
          obtain rfl := Option.some.inj hx
          simp only [List.mem_filter, decide_eq_true_eq] at hkx
          exact hkx.2
        · rw [List.getElem?_eq_none (by simp; omega)] at hx
          cases hx
      · show (((s.ns ++ [_]).length : Nat) : Int) + _ ≤ _
        simp
        omega
/-- the node is one of those that there are, or none -/
def In (s : PS) (x : Int) : Prop := x = -1 ∨ ∃ k : Nat, x = k ∧ k < s.ns.length
theorem In.mono {n : Nat} {d : Int} {s2 : PS} {x : Int} (h : In s x) (g : Gr n d s s2) : In s2 x := by
  rcases h with h | ⟨k, e, h⟩
  · exact .inl h
  · obtain ⟨t, ht⟩ := g.pre
    exact .inr ⟨k, e, by rw [ht, List.length_append]; omega⟩
theorem add_in (op at_ : Int) (t : ByteArray) (m : Int) (kids : List Int) : In (addP s op at_ t m kids).1 (addP s op at_ t m kids).2 := by
  unfold addP
  split
  · exact .inl rfl
  · split
    · exact .inl rfl
    · exact .inr ⟨s.ns.length, rfl, by simp⟩
end

/-- what a part of the parser does to the state, and its node -/
def Gd (n : Nat) (d : Int) (s : PS) (r : PS × Int) : Prop := Gr n d s r.1 ∧ In r.1 r.2
def Gl (n : Nat) (d : Int) (s : PS) (r : PS × List Int) : Prop := Gr n d s r.1 ∧ ∀ k ∈ r.2, In r.1 k
abbrev GdE (n : Nat) (ex : Ex) : Prop := ∀ s r, ex s = some r → Gd n 0 s r
section
variable {L : List TokD} {ex : Ex} {s : PS}
theorem Gd.pre {d d' : Int} {s0 s1 : PS} {r : PS × Int} (h : Gd L.length d s1 r) (g : Gr L.length d' s0 s1) {d2 : Int} (hd : d' + d ≤ d2) : Gd L.length d2 s0 r := ⟨(g.trans h.1).weak hd, h.2⟩
theorem Gl.pre {d d' : Int} {s0 s1 : PS} {r : PS × List Int} (h : Gl L.length d s1 r) (g : Gr L.length d' s0 s1) {d2 : Int} (hd : d' + d ≤ d2) : Gl L.length d2 s0 r := ⟨(g.trans h.1).weak hd, h.2⟩
theorem add_gd (op at_ : Int) (t : ByteArray) (m : Int) (kids : List Int) : Gd L.length 1 s (addP s op at_ t m kids) := ⟨add_gr .., add_in ..⟩
theorem in_all {s1 s2 : PS} {l : List Int} {d : Int} (h : ∀ k ∈ l, In s1 k) (g : Gr L.length d s1 s2) : ∀ k ∈ l, In s2 k := fun k hk => (h k hk).mono g
theorem in_snoc {s1 : PS} {l : List Int} {x : Int} (h : ∀ k ∈ l, In s1 k) (hx : In s1 x) : ∀ k ∈ l ++ [x], In s1 k := fun k hk => by
  rcases List.mem_append.1 hk with h1 | h1
  · exact h k h1
  · rw [List.mem_singleton.1 h1]; exact hx
theorem noAtom_gd (s : PS) : Gd L.length 0 s (failP s 30 s.at_, -1) := ⟨fail_gr (.inl rfl) rfl id, .inl rfl⟩
theorem rowE_gl (hex : GdE L.length ex) (fin : ByteArray) : ∀ (m : Nat) (s : PS) (kids : List Int) (r : PS × List Int), (∀ k ∈ kids, In s k) → rowE ex L fin m s kids = some r → Gl L.length 0 s r
  | 0, s, kids, r, hk, h => by cases h
  | m + 1, s, kids, r, hk, h => by
    unfold rowE at h
    split at h
    · obtain rfl := Option.some.inj h
      exact ⟨Gr.refl _ _, hk⟩
    · split at h
      · obtain rfl := Option.some.inj h
        exact ⟨take_gr _, in_all hk (take_gr (L := L) _)⟩
      · split at h
        · cases h
        · rename_i s1 x he
          obtain ⟨g1, i1⟩ := hex _ _ he
          have g0 := (take_gr (L := L) (s := s) fin).trans g1
          have g2 := g0.trans (take_gr (L := L) gComma)
          split at h
          · exact (rowE_gl hex fin m _ _ _ (in_snoc (in_all hk g2) (i1.mono (take_gr (L := L) gComma))) h).pre g2 (by omega)
          · obtain rfl := Option.some.inj h
            have g3 := g2.trans (need_gr (L := L) fin)
            exact ⟨g3.weak (by omega), in_snoc (in_all hk g3) ((i1.mono (take_gr (L := L) gComma)).mono (need_gr (L := L) fin))⟩
theorem pairsE_gl (hex : GdE L.length ex) : ∀ (m : Nat) (s : PS) (kids : List Int) (r : PS × List Int), (∀ k ∈ kids, In s k) → pairsE ex L m s kids = some r → Gl L.length 0 s r
  | 0, s, kids, r, hk, h => by cases h
  | m + 1, s, kids, r, hk, h => by
    unfold pairsE at h
    split at h
    · obtain rfl := Option.some.inj h
      exact ⟨Gr.refl _ _, hk⟩
    · split at h
      · obtain rfl := Option.some.inj h
        exact ⟨take_gr _, in_all hk (take_gr (L := L) _)⟩
      · split at h
        · cases h
        · rename_i s1 x he
          obtain ⟨g1, i1⟩ := hex _ _ he
          have g0 := ((take_gr (L := L) (s := s) gRc).trans g1).trans (need_gr (L := L) gColon)
          split at h
          · cases h
          · rename_i s2 v hv
            obtain ⟨g2, i2⟩ := hex _ _ hv
            have gx := ((need_gr (L := L) (s := s1) gColon).trans g2).trans (take_gr (L := L) gComma)
            have g3 := (g0.trans g2).trans (take_gr (L := L) gComma)
            have hl : ∀ k ∈ kids ++ [x, v], In (takeP L gComma s2).1 k := by
              have := in_snoc (in_snoc (in_all hk g3) (i1.mono gx)) (i2.mono (take_gr (L := L) gComma))
              rwa [List.append_assoc] at this
            split at h
            · exact (pairsE_gl hex m _ _ _ hl h).pre g3 (by omega)
            · obtain rfl := Option.some.inj h
              have g4 := g3.trans (need_gr (L := L) gRc)
              exact ⟨g4.weak (by omega), in_all hl (need_gr (L := L) gRc)⟩
theorem roundE_gd (hex : GdE L.length ex) {m : Nat} {at_ : Int} {r : PS × Int} (h : roundE ex L m at_ s = some r) : Gd L.length 1 s r := by
  unfold roundE at h
  split at h
  · obtain rfl := Option.some.inj h
    exact (add_gd ..).pre (take_gr (L := L) gRp) (by omega)
  · split at h
    · cases h
    · rename_i s1 x he
      obtain ⟨g1, i1⟩ := hex _ _ he
      have g2 := ((take_gr (L := L) (s := s) gRp).trans g1).trans (take_gr (L := L) gRp)
      split at h
      · obtain rfl := Option.some.inj h
        exact ⟨g2.weak (by omega), i1.mono (take_gr (L := L) gRp)⟩
      · split at h
        · cases h
        · rename_i s2 kids hr
          obtain rfl := Option.some.inj h
          have g3 := (take_gr (L := L) (s := s1) gRp).trans (need_gr (L := L) gComma)
          have h4 := rowE_gl hex _ _ _ _ _ (in_snoc (l := []) (fun k hk => by cases hk) (i1.mono g3)) hr
          exact (add_gd ..).pre ((g2.trans (need_gr (L := L) gComma)).trans h4.1) (by omega)
theorem tok_kind {k : Int} (h : (tokP L s 0).k = k) (hk : k ≠ 0) : Gr L.length (-3) s (stepP s 1) := by
  have h1 := tokP_in (L := L) (s := s) (b := 0) (by rw [h]; exact hk)
  exact step_gr (k := 1) h1.1 h1.2
theorem atomE_gd (hex : GdE L.length ex) {m : Nat} {r : PS × Int} (h : atomE ex L m s = some r) : Gd L.length 0 s r := by
  unfold atomE at h
  simp only at h
  split at h
  · rename_i hk
    obtain rfl := Option.some.inj h
    exact (add_gd ..).pre (tok_kind (L := L) hk (by decide)) (by omega)
  split at h
  · rename_i _ hk
    obtain rfl := Option.some.inj h
    exact (add_gd ..).pre (tok_kind (L := L) hk (by decide)) (by omega)
  split at h
  · rename_i _ _ hk
    split at h
    · obtain rfl := Option.some.inj h
      exact (add_gd ..).pre (tok_kind (L := L) hk (by decide)) (by omega)
    · split at h
      · obtain rfl := Option.some.inj h
        exact (add_gd ..).pre (tok_kind (L := L) hk (by decide)) (by omega)
      · obtain rfl := Option.some.inj h
        exact noAtom_gd s
  split at h
  · rename_i _ _ _ hk
    have g0 := tok_kind (L := L) hk (by decide)
    split at h
    · exact (roundE_gd hex h).pre g0 (by omega)
    · split at h
      · split at h
        · cases h
        · rename_i s2 kids hr
          obtain rfl := Option.some.inj h
          exact (add_gd ..).pre (g0.trans (rowE_gl hex _ _ _ _ _ (fun k hk => by cases hk) hr).1) (by omega)
      · split at h
        · split at h
          · cases h
          · rename_i s2 kids hr
            obtain rfl := Option.some.inj h
            exact (add_gd ..).pre (g0.trans (pairsE_gl hex _ _ _ _ (fun k hk => by cases hk) hr).1) (by omega)
        · obtain rfl := Option.some.inj h
          exact noAtom_gd s
  · obtain rfl := Option.some.inj h
    exact noAtom_gd s
theorem boundE_gd (hex : GdE L.length ex) {fin : ByteArray} {r : PS × Int} (h : boundE ex L fin s = some r) : Gd L.length 1 s r := by
  unfold boundE at h
  split at h
  · obtain rfl := Option.some.inj h
    exact add_gd ..
  · exact (hex _ _ h).pre (Gr.refl _ _) (by omega)
theorem indexE_gd (hex : GdE L.length ex) {x at_ : Int} {r : PS × Int} (h : indexE ex L x at_ s = some r) : Gd L.length 3 s r := by
  unfold indexE at h
  simp only at h
  split at h
  · cases h
  · rename_i s1 y he
    obtain ⟨g1, i1⟩ := boundE_gd hex he
    split at h
    · obtain rfl := Option.some.inj h
      exact (add_gd ..).pre (g1.trans (take_gr (L := L) gRb)) (by omega)
    · split at h
      · cases h
      · rename_i s3 z hz
        obtain rfl := Option.some.inj h
        have g2 : Gr L.length 0 s1 (if isP L s gColon 0 = true then s1 else (takeP L gRb s1).1) := by
          split
          · exact Gr.refl _ _
          · exact take_gr _
        obtain ⟨g3, i3⟩ := boundE_gd hex hz
        exact (add_gd ..).pre ((((g1.trans g2).trans (need_gr (L := L) gColon)).trans g3).trans (need_gr (L := L) gRb)) (by omega)
theorem postE_gd (hex : GdE L.length ex) (m0 : Nat) (at_ : Int) : ∀ (m : Nat) (s : PS) (x : Int) (r : PS × Int), In s x → postE ex L m0 at_ m s x = some r → Gd L.length 0 s r
  | 0, s, x, r, hx, h => by cases h
  | m + 1, s, x, r, hx, h => by
    unfold postE at h
    simp only at h
    split at h
    · obtain rfl := Option.some.inj h
      exact ⟨Gr.refl _ _, hx⟩
    · rename_i hy
      have g0 := any_yes (L := L) (s := s) (l := [gDot, gLp, gLb]) (by simpa using hy)
      split at h
      · have g1 := name_then (L := L) (add_gr (s := (nameP L (anyP L [gDot, gLp, gLb] s).1).1) 18 at_ (nameP L (anyP L [gDot, gLp, gLb] s).1).2 0 [x]) (by omega)
        exact (postE_gd hex m0 at_ m _ _ _ (add_in ..) h).pre (g0.trans g1) (by omega)
      · split at h
        · split at h
          · cases h
          · rename_i s2 kids hr
            have h4 := rowE_gl hex _ _ _ _ _ (in_snoc (l := []) (fun k hk => by cases hk) (hx.mono g0)) hr
            exact (postE_gd hex m0 at_ m _ _ _ (add_in ..) h).pre ((g0.trans h4.1).trans (add_gr ..)) (by omega)
        · split at h
          · cases h
          · rename_i s2 y hr
            obtain ⟨g1, i1⟩ := indexE_gd hex hr
            exact (postE_gd hex m0 at_ m _ _ _ i1 h).pre (g0.trans g1) (by omega)
theorem postfixE_gd (hex : GdE L.length ex) {m : Nat} {r : PS × Int} (h : postfixE ex L m s = some r) : Gd L.length 0 s r := by
  unfold postfixE at h
  split at h
  · cases h
  · rename_i s1 x he
    obtain ⟨g1, i1⟩ := atomE_gd hex he
    exact (postE_gd hex m _ _ _ _ _ i1 h).pre g1 (by omega)
theorem factorE_gd (hex : GdE L.length ex) (m0 : Nat) : ∀ (m : Nat) (s : PS) (r : PS × Int), factorE ex L m0 m s = some r → Gd L.length 0 s r
  | 0, s, r, h => by cases h
  | m + 1, s, r, h => by
    unfold factorE at h
    simp only at h
    split at h
    · rename_i hy
      split at h
      · cases h
      · rename_i s1 x he
        obtain rfl := Option.some.inj h
        obtain ⟨g1, i1⟩ := factorE_gd hex m0 m _ _ he
        exact (add_gd ..).pre ((take_yes hy).trans g1) (by omega)
    · split at h
      · cases h
      · rename_i s1 x he
        obtain ⟨g1, i1⟩ := postfixE_gd hex he
        have g0 := (take_gr (L := L) (s := s) gMinus).trans g1
        split at h
        · rename_i hy
          split at h
          · cases h
          · rename_i s2 y hf
            obtain rfl := Option.some.inj h
            obtain ⟨g2, i2⟩ := factorE_gd hex m0 m _ _ hf
            exact (add_gd ..).pre ((g0.trans (take_yes hy)).trans g2) (by omega)
        · obtain rfl := Option.some.inj h
          exact ⟨(g0.trans (take_gr _)).weak (by omega), i1.mono (take_gr (L := L) gPow)⟩
theorem leftE_gd {part : Ex} (hp : GdE L.length part) (op : Int) (signs : List ByteArray) : ∀ (m : Nat) (s : PS) (x : Int) (r : PS × Int), In s x → leftE L part op signs m s x = some r → Gd L.length 0 s r
  | 0, s, x, r, hx, h => by cases h
  | m + 1, s, x, r, hx, h => by
    unfold leftE at h
    simp only at h
    split at h
    · obtain rfl := Option.some.inj h
      exact ⟨Gr.refl _ _, hx⟩
    · rename_i hy
      have g0 := any_yes (L := L) (s := s) (l := signs) (by simpa using hy)
      split at h
      · cases h
      · rename_i s1 y he
        obtain ⟨g1, i1⟩ := hp _ _ he
        exact (leftE_gd hp op signs m _ _ _ (add_in ..) h).pre ((g0.trans g1).trans (add_gr ..)) (by omega)
theorem partsE_gd {part : Ex} (hp : GdE L.length part) {op : Int} {signs : List ByteArray} {m : Nat} : GdE L.length (partsE L part op signs m) := by
  intro s r h
  unfold partsE at h
  split at h
  · cases h
  · rename_i s1 x he
    obtain ⟨g1, i1⟩ := hp _ _ he
    exact (leftE_gd hp _ _ _ _ _ _ i1 h).pre g1 (by omega)
theorem termE_gd (hex : GdE L.length ex) (m : Nat) : GdE L.length (termE ex L m) := partsE_gd fun s r h => factorE_gd hex m m s r h
theorem sumE_gd (hex : GdE L.length ex) (m : Nat) : GdE L.length (sumE ex L m) := partsE_gd (termE_gd hex m)
theorem compares_in (h : (compares L s).2 ≠ 0) : s.e = 0 ∧ s.at_ + (compares L s).2 ≤ L.length := by
  have key : ∀ t b, isP L s t b = true → s.e = 0 ∧ s.at_ + b + 1 ≤ L.length := fun t b h => isP_in h
  unfold compares at h ⊢
  repeat' split
  all_goals (first | (rename_i hh; rw [Bool.and_eq_true] at hh; exact key _ _ hh.2) | (rename_i hh; exact key _ 0 hh) | (simp_all))
theorem notE_gd (hex : GdE L.length ex) (m0 : Nat) : ∀ (m : Nat) (s : PS) (r : PS × Int), notE ex L m0 m s = some r → Gd L.length 0 s r
  | 0, s, r, h => by cases h
  | m + 1, s, r, h => by
    unfold notE at h
    simp only at h
    split at h
    · rename_i hy
      split at h
      · cases h
      · rename_i s1 x he
        obtain rfl := Option.some.inj h
        obtain ⟨g1, i1⟩ := notE_gd hex m0 m _ _ he
        exact (add_gd ..).pre ((take_yes hy).trans g1) (by omega)
    · split at h
      · cases h
      · rename_i s1 x he
        obtain ⟨g1, i1⟩ := sumE_gd hex m0 _ _ he
        have g0 := (take_gr (L := L) (s := s) kNot).trans g1
        split at h
        · obtain rfl := Option.some.inj h
          exact ⟨g0.weak (by omega), i1⟩
        · rename_i hn
          have hc := compares_in hn
          split at h
          · cases h
          · rename_i s2 y hf
            obtain ⟨g2, i2⟩ := sumE_gd hex m0 _ _ hf
            have g3 := (g0.trans (step_gr hc.1 hc.2)).trans g2
            have ga := add_gd (L := L) (s := s2) 13 (placeOf s2 x) (compares L s1).1 0 [x, y]
            split at h
            · obtain rfl := Option.some.inj h
              exact ⟨((g3.trans ga.1).trans (fail_gr (.inl rfl) rfl id)).weak (by omega), .inl rfl⟩
            · obtain rfl := Option.some.inj h
              exact ga.pre g3 (by omega)
theorem andE_gd (hex : GdE L.length ex) (m : Nat) : GdE L.length (andE ex L m) := partsE_gd fun s r h => notE_gd hex m m s r h
theorem orE_gd (hex : GdE L.length ex) (m : Nat) : GdE L.length (orE ex L m) := partsE_gd (andE_gd hex m)
theorem paramsE_gl (hex : GdE L.length ex) : ∀ (m : Nat) (s : PS) (out : List Int) (late : Bool) (r : PS × List Int), (∀ k ∈ out, In s k) → paramsE ex L m s out late = some r → Gl L.length 0 s r
  | 0, s, out, late, r, hk, h => by cases h
  | m + 1, s, out, late, r, hk, h => by
    unfold paramsE at h
    simp only at h
    split at h
    · obtain rfl := Option.some.inj h
      exact ⟨Gr.refl _ _, hk⟩
    · generalize hC : (if out = [] then takeP L gColon s else (s, false)) = C at h
      have gc : Gr L.length 0 s C.1 := by
        rw [← hC]
        split
        · exact take_gr _
        · exact Gr.refl _ _
      split at h
      · obtain rfl := Option.some.inj h
        exact ⟨gc, in_all hk gc⟩
      · have gq := (take_gr (L := L) (s := (nameP L C.1).1) gEq)
        split at h
        · split at h
          · cases h
          · rename_i s1 x he
            obtain ⟨g1, i1⟩ := hex _ _ he
            have ga := add_gd (L := L) (s := s1) 22 (tokP L C.1 0).at_ (nameP L C.1).2 0 [x]
            have g2 := gc.trans (name_then (((gq.trans g1).trans ga.1).trans (take_gr (L := L) gComma)) (by omega))
            have hl := in_snoc (in_all hk g2) (ga.2.mono (take_gr (L := L) gComma))
            split at h
            · exact (paramsE_gl hex m _ _ _ _ hl h).pre g2 (by omega)
            · obtain rfl := Option.some.inj h
              exact ⟨(g2.trans (need_gr (L := L) gColon)).weak (by omega), in_all hl (need_gr (L := L) gColon)⟩
        · have gf : Gr L.length 0 (takeP L gEq (nameP L C.1).1).1 (if late = true then failP (takeP L gEq (nameP L C.1).1).1 30 C.1.at_ else (takeP L gEq (nameP L C.1).1).1) := by
            split
            · refine fail_gr (.inl rfl) rfl fun hh => ?_
              have := name_gr (L := L) (s := C.1)
              have h1 := this.up
              have h2 := gq.up
              omega
            · exact Gr.refl _ _
          generalize (if late = true then failP (takeP L gEq (nameP L C.1).1).1 30 C.1.at_ else (takeP L gEq (nameP L C.1).1).1) = s1 at h gf
          have ga := add_gd (L := L) (s := s1) 22 (tokP L C.1 0).at_ (nameP L C.1).2 0 []
          have g2 := gc.trans (name_then (((gq.trans gf).trans ga.1).trans (take_gr (L := L) gComma)) (by omega))
          have hl := in_snoc (in_all hk g2) (ga.2.mono (take_gr (L := L) gComma))
          split at h
          · exact (paramsE_gl hex m _ _ _ _ hl h).pre g2 (by omega)
          · obtain rfl := Option.some.inj h
            exact ⟨(g2.trans (need_gr (L := L) gColon)).weak (by omega), in_all hl (need_gr (L := L) gColon)⟩
theorem exprB_gd (hex : GdE L.length ex) (m : Nat) : GdE L.length (exprB ex L m) := by
  intro s r h
  unfold exprB at h
  simp only at h
  split at h
  · rename_i hy
    split at h
    · cases h
    · rename_i s1 kids he
      split at h
      · cases h
      · rename_i s2 x hx
        obtain rfl := Option.some.inj h
        exact (add_gd ..).pre (((take_yes hy).trans (paramsE_gl hex _ _ _ _ _ (fun k hk => by cases hk) he).1).trans (hex _ _ hx).1) (by omega)
  · split at h
    · cases h
    · rename_i s1 x he
      obtain ⟨g1, i1⟩ := orE_gd hex m _ _ he
      have g0 := (take_gr (L := L) (s := s) kLambda).trans g1
      split at h
      · rename_i hy
        split at h
        · cases h
        · rename_i s2 y hy2
          split at h
          · cases h
          · rename_i s3 z hz
            obtain rfl := Option.some.inj h
            exact (add_gd ..).pre ((((g0.trans (take_yes hy)).trans (orE_gd hex m _ _ hy2).1).trans (need_gr (L := L) kElse)).trans (hex _ _ hz).1) (by omega)
      · obtain rfl := Option.some.inj h
        exact ⟨(g0.trans (take_gr _)).weak (by omega), i1.mono (take_gr (L := L) kIf)⟩
end
theorem exprE_gd (L : List TokD) : ∀ m, GdE L.length (exprE L m)
  | 0 => fun s r h => by cases h
  | m + 1 => exprB_gd (exprE_gd L m) m

/-- how much is left to be read -/
def rem (n : Nat) (s : PS) : Nat := if s.e ≠ 0 then 0 else n - s.at_ + 1
theorem rem_gr {n : Nat} {d : Int} {s s' : PS} (g : Gr n d s s') : rem n s' ≤ rem n s := by
  unfold rem
  by_cases h : s.e = 0
  · rw [if_neg (show ¬ s.e ≠ 0 from fun h1 => h1 h)]
    have := g.up
    split <;> omega
  · rw [g.bad h]
    exact Nat.le_refl _
section
variable {L : List TokD} {ex : Ex} {k : Nat}
theorem rem_step {s : PS} {j : Nat} (h : s.e = 0) (hj : 1 ≤ j) (hn : s.at_ + j ≤ L.length) : rem L.length (stepP s j) < rem L.length s := by
  unfold rem stepP
  simp only [h, ne_eq, not_true_eq_false, if_false]
  omega
theorem rem_yes {s : PS} {l : List ByteArray} (h : (anyP L l s).2.2 = true) : rem L.length (anyP L l s).1 < rem L.length s := by
  rcases any_cases (L := L) (s := s) l with ⟨h1, _⟩ | ⟨t, _, h1, h2⟩
  · rw [h1] at h; cases h
  · rw [h2]; exact rem_step (isP_in h1).1 (Nat.le_refl _) (isP_in h1).2
theorem rem_take {s : PS} {t : ByteArray} (h : (takeP L t s).2 = true) : rem L.length (takeP L t s).1 < rem L.length s := rem_yes (l := [t]) h
structure HT (L : List TokD) (ex : Ex) (k : Nat) : Prop where
  g : GdE L.length ex
  t : ∀ s, s.at_ ≤ L.length → rem L.length s < k → ∃ r, ex s = some r
theorem HT.at_ (H : HT L ex k) {s : PS} (h : s.at_ ≤ L.length) (hr : rem L.length s < k) : ∃ s1 x, ex s = some (s1, x) ∧ Gr L.length 0 s s1 := by
  obtain ⟨⟨s1, x⟩, hr⟩ := H.t s h hr
  exact ⟨s1, x, hr, (H.g _ _ hr).1⟩
theorem rowE_tot (H : HT L ex k) (fin : ByteArray) : ∀ (m : Nat) (s : PS) (kids : List Int), s.at_ ≤ L.length → rem L.length s < k → rem L.length s + 1 ≤ m → ∃ r, rowE ex L fin m s kids = some r
  | 0, s, kids, h, hk, hm => by omega
  | m + 1, s, kids, h, hk, hm => by
    unfold rowE
    split
    · exact ⟨_, rfl⟩
    · split
      · exact ⟨_, rfl⟩
      · have g0 := take_gr (L := L) (s := s) fin
        have r0 := rem_gr g0
        try simp only at r0
        obtain ⟨s1, x, he, g1⟩ := H.at_ (g0.le h) (by omega)
        rw [he]
        simp only
        have r1 := rem_gr g1
        try simp only at r1
        split
        · rename_i hy
          have := rem_take hy
          exact rowE_tot H fin m (takeP L gComma s1).1 _ ((take_gr (L := L) _).le (g1.le (g0.le h))) (by omega) (by omega)
        · exact ⟨_, rfl⟩
theorem pairsE_tot (H : HT L ex k) : ∀ (m : Nat) (s : PS) (kids : List Int), s.at_ ≤ L.length → rem L.length s < k → rem L.length s + 1 ≤ m → ∃ r, pairsE ex L m s kids = some r
  | 0, s, kids, h, hk, hm => by omega
  | m + 1, s, kids, h, hk, hm => by
    unfold pairsE
    split
    · exact ⟨_, rfl⟩
    · split
      · exact ⟨_, rfl⟩
      · have g0 := take_gr (L := L) (s := s) gRc
        have r0 := rem_gr g0
        try simp only at r0
        obtain ⟨s1, x, he, g1⟩ := H.at_ (g0.le h) (by omega)
        rw [he]
        simp only
        have r1 := rem_gr g1
        try simp only at r1
        have g2 := need_gr (L := L) (s := s1) gColon
        have r2 := rem_gr g2
        try simp only at r2
        obtain ⟨s2, v, hv, g3⟩ := H.at_ (g2.le (g1.le (g0.le h))) (by omega)
        rw [hv]
        simp only
        have r3 := rem_gr g3
        try simp only at r3
        split
        · rename_i hy
          have := rem_take hy
          exact pairsE_tot H m (takeP L gComma s2).1 _ ((take_gr (L := L) _).le (g3.le (g2.le (g1.le (g0.le h))))) (by omega) (by omega)
        · exact ⟨_, rfl⟩
theorem roundE_tot (H : HT L ex k) {m : Nat} {at_ : Int} {s : PS} (h : s.at_ ≤ L.length) (hk : rem L.length s < k) (hm : rem L.length s + 1 ≤ m) : ∃ r, roundE ex L m at_ s = some r := by
  unfold roundE
  split
  · exact ⟨_, rfl⟩
  · have g0 := take_gr (L := L) (s := s) gRp
    have r0 := rem_gr g0
    try simp only at r0
    obtain ⟨s1, x, he, g1⟩ := H.at_ (g0.le h) (by omega)
    rw [he]
    simp only
    have r1 := rem_gr g1
    try simp only at r1
    split
    · exact ⟨_, rfl⟩
    · have g2 := (take_gr (L := L) (s := s1) gRp).trans (need_gr (L := L) gComma)
      have r2 := rem_gr g2
      try simp only at r2
      obtain ⟨⟨s2, kids⟩, hr⟩ := rowE_tot H gRp m _ [x] (g2.le (g1.le (g0.le h))) (by omega) (by omega)
      rw [hr]
      exact ⟨_, rfl⟩
theorem atomE_tot (H : HT L ex k) {m : Nat} {s : PS} (h : s.at_ ≤ L.length) (hk : rem L.length s ≤ k) (hm : rem L.length s + 1 ≤ m) : ∃ r, atomE ex L m s = some r := by
  unfold atomE
  simp only
  split
  · exact ⟨_, rfl⟩
  split
  · exact ⟨_, rfl⟩
  split
  · split
    · exact ⟨_, rfl⟩
    · split
      · exact ⟨_, rfl⟩
      · exact ⟨_, rfl⟩
  split
  · rename_i _ _ _ hk4
    have h1 := tokP_in (L := L) (s := s) (b := 0) (by rw [hk4]; decide)
    have r0 := rem_step (L := L) (j := 1) h1.1 (Nat.le_refl _) h1.2
    have hl : (stepP s 1).at_ ≤ L.length := h1.2
    split
    · exact roundE_tot H hl (by omega) (by omega)
    · split
      · obtain ⟨⟨s2, kids⟩, hr⟩ := rowE_tot H gRb m _ [] hl (by omega) (by omega)
        rw [hr]
        exact ⟨_, rfl⟩
      · split
        · obtain ⟨⟨s2, kids⟩, hr⟩ := pairsE_tot H m _ [] hl (by omega) (by omega)
          rw [hr]
          exact ⟨_, rfl⟩
        · exact ⟨_, rfl⟩
  · exact ⟨_, rfl⟩
theorem boundE_tot (H : HT L ex k) {fin : ByteArray} {s : PS} (h : s.at_ ≤ L.length) (hk : rem L.length s < k) : ∃ r, boundE ex L fin s = some r := by
  unfold boundE
  split
  · exact ⟨_, rfl⟩
  · exact H.t s h hk
theorem indexE_tot (H : HT L ex k) {x at_ : Int} {s : PS} (h : s.at_ ≤ L.length) (hk : rem L.length s < k) : ∃ r, indexE ex L x at_ s = some r := by
  unfold indexE
  simp only
  obtain ⟨⟨s1, y⟩, he⟩ := boundE_tot H (fin := gColon) h hk
  rw [he]
  simp only
  obtain ⟨g1, _⟩ := boundE_gd H.g he
  split
  · exact ⟨_, rfl⟩
  · have g2 : Gr L.length 0 s1 (if isP L s gColon 0 = true then s1 else (takeP L gRb s1).1) := by
      split
      · exact Gr.refl _ _
      · exact take_gr _
    have g3 := (g1.trans g2).trans (need_gr (L := L) gColon)
    have r3 := rem_gr g3
    try simp only at r3
    obtain ⟨⟨s3, z⟩, hz⟩ := boundE_tot H (fin := gRb) (g3.le h) (by omega)
    rw [hz]
    exact ⟨_, rfl⟩
theorem postE_tot (H : HT L ex k) {m0 : Nat} (h0 : k + 1 ≤ m0) (at_ : Int) : ∀ (m : Nat) (s : PS) (x : Int), In s x → s.at_ ≤ L.length → rem L.length s ≤ k → rem L.length s + 1 ≤ m → ∃ r, postE ex L m0 at_ m s x = some r
  | 0, s, x, hx, h, hk, hm => by omega
  | m + 1, s, x, hx, h, hk, hm => by
    unfold postE
    simp only
    split
    · exact ⟨_, rfl⟩
    · rename_i hy
      have hy : (anyP L [gDot, gLp, gLb] s).2.2 = true := by simpa using hy
      have g0 := any_yes hy
      have r0 := rem_yes hy
      split
      · have g1 := name_gr (L := L) (s := (anyP L [gDot, gLp, gLb] s).1)
        have g2 := g1.trans (add_gr 18 at_ (nameP L (anyP L [gDot, gLp, gLb] s).1).2 0 [x])
        have r2 := rem_gr g2
        try simp only at r2
        exact postE_tot H h0 at_ m _ _ (add_in ..) (g2.le (g0.le h)) (by omega) (by omega)
      · split
        · obtain ⟨⟨s2, kids⟩, hr⟩ := rowE_tot H gRp m0 _ [x] (g0.le h) (by omega) (by omega)
          rw [hr]
          simp only
          have g1 := (rowE_gl H.g _ _ _ _ _ (in_snoc (l := []) (fun k hk => by cases hk) (hx.mono g0)) hr).1.trans (add_gr (L := L) 17 at_ ⟨#[]⟩ 0 kids)
          have r1 := rem_gr g1
          try simp only at r1
          exact postE_tot H h0 at_ m _ _ (add_in ..) (g1.le (g0.le h)) (by omega) (by omega)
        · obtain ⟨⟨s2, y⟩, hr⟩ := indexE_tot H (x := x) (at_ := at_) (g0.le h) (by omega)
          rw [hr]
          simp only
          obtain ⟨g1, i1⟩ := indexE_gd H.g hr
          have r1 := rem_gr g1
          try simp only at r1
          exact postE_tot H h0 at_ m _ _ i1 (g1.le (g0.le h)) (by omega) (by omega)
theorem postfixE_tot (H : HT L ex k) {m : Nat} {s : PS} (h : s.at_ ≤ L.length) (hk : rem L.length s ≤ k) (hm : k + 1 ≤ m) : ∃ r, postfixE ex L m s = some r := by
  unfold postfixE
  obtain ⟨⟨s1, x⟩, he⟩ := atomE_tot H (m := m) h hk (by omega)
  rw [he]
  simp only
  obtain ⟨g1, i1⟩ := atomE_gd H.g he
  have r1 := rem_gr g1
  try simp only at r1
  exact postE_tot H hm _ _ _ _ i1 (g1.le h) (by omega) (by omega)
theorem factorE_tot (H : HT L ex k) {m0 : Nat} (h0 : k + 1 ≤ m0) : ∀ (m : Nat) (s : PS), s.at_ ≤ L.length → rem L.length s ≤ k → rem L.length s + 1 ≤ m → ∃ r, factorE ex L m0 m s = some r
  | 0, s, h, hk, hm => by omega
  | m + 1, s, h, hk, hm => by
    unfold factorE
    simp only
    split
    · rename_i hy
      have r0 := rem_take hy
      obtain ⟨⟨s1, x⟩, he⟩ := factorE_tot H h0 m (takeP L gMinus s).1 ((take_gr (L := L) _).le h) (by omega) (by omega)
      rw [he]
      exact ⟨_, rfl⟩
    · have g0 := take_gr (L := L) (s := s) gMinus
      have r0 := rem_gr g0
      try simp only at r0
      obtain ⟨⟨s1, x⟩, he⟩ := postfixE_tot H (m := m0) (g0.le h) (by omega) h0
      rw [he]
      simp only
      obtain ⟨g1, i1⟩ := postfixE_gd H.g he
      have r1 := rem_gr g1
      try simp only at r1
      split
      · rename_i hy
        have r2 := rem_take hy
        obtain ⟨⟨s2, y⟩, hf⟩ := factorE_tot H h0 m (takeP L gPow s1).1 ((take_gr (L := L) _).le (g1.le (g0.le h))) (by omega) (by omega)
        rw [hf]
        exact ⟨_, rfl⟩
      · exact ⟨_, rfl⟩
/-- a part that is total from states with so much left -/
structure PT (L : List TokD) (part : Ex) (k : Nat) : Prop where
  g : GdE L.length part
  t : ∀ s, s.at_ ≤ L.length → rem L.length s ≤ k → ∃ r, part s = some r
theorem leftE_tot {part : Ex} (H : PT L part k) (op : Int) (signs : List ByteArray) : ∀ (m : Nat) (s : PS) (x : Int), In s x → s.at_ ≤ L.length → rem L.length s ≤ k → rem L.length s + 1 ≤ m → ∃ r, leftE L part op signs m s x = some r
  | 0, s, x, hx, h, hk, hm => by omega
  | m + 1, s, x, hx, h, hk, hm => by
    unfold leftE
    simp only
    split
    · exact ⟨_, rfl⟩
    · rename_i hy
      have hy : (anyP L signs s).2.2 = true := by simpa using hy
      have g0 := any_yes hy
      have r0 := rem_yes hy
      obtain ⟨⟨s1, y⟩, he⟩ := H.t _ (g0.le h) (by omega)
      rw [he]
      simp only
      obtain ⟨g1, i1⟩ := H.g _ _ he
      have g2 := g1.trans (add_gr (L := L) op (placeOf s1 x) (if op = 12 then (anyP L signs s).2.1 else ⟨#[]⟩) 0 [x, y])
      have r2 := rem_gr g2
      try simp only at r2
      exact leftE_tot H op signs m _ _ (add_in ..) (g2.le (g0.le h)) (by omega) (by omega)
theorem partsE_tot {part : Ex} (H : PT L part k) {op : Int} {signs : List ByteArray} {m : Nat} (hm : k + 1 ≤ m) : PT L (partsE L part op signs m) k := by
  refine ⟨partsE_gd H.g, fun s h hk => ?_⟩
  unfold partsE
  obtain ⟨⟨s1, x⟩, he⟩ := H.t s h hk
  rw [he]
  simp only
  obtain ⟨g1, i1⟩ := H.g _ _ he
  have r1 := rem_gr g1
  try simp only at r1
  exact leftE_tot H op signs m _ _ i1 (g1.le h) (by omega) (by omega)
theorem sumE_tot (H : HT L ex k) {m : Nat} (hm : k + 1 ≤ m) : PT L (sumE ex L m) k :=
  partsE_tot (partsE_tot (part := factorE ex L m m) ⟨fun s r h => factorE_gd H.g m m s r h, fun s h hk => factorE_tot H hm m s h hk (by omega)⟩ hm) hm
theorem notE_tot (H : HT L ex k) {m0 : Nat} (h0 : k + 1 ≤ m0) : ∀ (m : Nat) (s : PS), s.at_ ≤ L.length → rem L.length s ≤ k → rem L.length s + 1 ≤ m → ∃ r, notE ex L m0 m s = some r
  | 0, s, h, hk, hm => by omega
  | m + 1, s, h, hk, hm => by
    unfold notE
    simp only
    split
    · rename_i hy
      have r0 := rem_take hy
      obtain ⟨⟨s1, x⟩, he⟩ := notE_tot H h0 m (takeP L kNot s).1 ((take_gr (L := L) _).le h) (by omega) (by omega)
      rw [he]
      exact ⟨_, rfl⟩
    · have g0 := take_gr (L := L) (s := s) kNot
      have r0 := rem_gr g0
      try simp only at r0
      obtain ⟨⟨s1, x⟩, he⟩ := (sumE_tot H h0).t _ (g0.le h) (by omega)
      rw [he]
      simp only
      obtain ⟨g1, i1⟩ := sumE_gd H.g m0 _ _ he
      have r1 := rem_gr g1
      try simp only at r1
      split
      · exact ⟨_, rfl⟩
      · rename_i hn
        have hc := compares_in hn
        have g2 := step_gr hc.1 hc.2
        have r2 := rem_gr g2
        try simp only at r2
        obtain ⟨⟨s2, y⟩, hf⟩ := (sumE_tot H h0).t _ (g2.le (g1.le (g0.le h))) (by omega)
        rw [hf]
        simp only
        split
        · exact ⟨_, rfl⟩
        · exact ⟨_, rfl⟩
theorem orE_tot (H : HT L ex k) {m : Nat} (hm : k + 1 ≤ m) : PT L (orE ex L m) k :=
  partsE_tot (partsE_tot (part := notE ex L m m) ⟨fun s r h => notE_gd H.g m m s r h, fun s h hk => notE_tot H hm m s h hk (by omega)⟩ hm) hm
theorem paramsE_tot (H : HT L ex k) : ∀ (m : Nat) (s : PS) (out : List Int) (late : Bool), (∀ k ∈ out, In s k) → s.at_ ≤ L.length → rem L.length s < k → rem L.length s + 1 ≤ m → ∃ r, paramsE ex L m s out late = some r
  | 0, s, out, late, ho, h, hk, hm => by omega
  | m + 1, s, out, late, ho, h, hk, hm => by
    unfold paramsE
    simp only
    split
    · exact ⟨_, rfl⟩
    · generalize hC : (if out = [] then takeP L gColon s else (s, false)) = C
      have gc : Gr L.length 0 s C.1 := by
        rw [← hC]
        split
        · exact take_gr _
        · exact Gr.refl _ _
      split
      · exact ⟨_, rfl⟩
      · have gq := (take_gr (L := L) (s := (nameP L C.1).1) gEq)
        have g0 := (gc.trans (name_gr (L := L))).trans gq
        have r0 := rem_gr g0
        try simp only at r0
        split
        · obtain ⟨s1, x, he, g1⟩ := H.at_ (g0.le h) (by omega)
          rw [he]
          simp only
          have ga := add_gd (L := L) (s := s1) 22 (tokP L C.1 0).at_ (nameP L C.1).2 0 [x]
          have g2 := g1.trans ga.1
          have r2 := rem_gr g2
          try simp only at r2
          have i1 := (H.g _ _ he).2
          split
          · rename_i hy
            have r3 := rem_take hy
            have g3 := (g0.trans g2).trans (take_gr (L := L) gComma)
            exact paramsE_tot H m _ _ _ (in_snoc (in_all ho g3) (ga.2.mono (take_gr (L := L) gComma))) (g3.le h) (by omega) (by omega)
          · exact ⟨_, rfl⟩
        · have gf : Gr L.length 0 (takeP L gEq (nameP L C.1).1).1 (if late = true then failP (takeP L gEq (nameP L C.1).1).1 30 C.1.at_ else (takeP L gEq (nameP L C.1).1).1) := by
            split
            · refine fail_gr (.inl rfl) rfl fun hh => ?_
              have := name_gr (L := L) (s := C.1)
              have h1 := this.up
              have h2 := gq.up
              omega
            · exact Gr.refl _ _
          generalize (if late = true then failP (takeP L gEq (nameP L C.1).1).1 30 C.1.at_ else (takeP L gEq (nameP L C.1).1).1) = s1 at gf ⊢
          have ga := add_gd (L := L) (s := s1) 22 (tokP L C.1 0).at_ (nameP L C.1).2 0 []
          have g2 := gf.trans ga.1
          have r2 := rem_gr g2
          try simp only at r2
          split
          · rename_i hy
            have r3 := rem_take hy
            have g3 := (g0.trans g2).trans (take_gr (L := L) gComma)
            exact paramsE_tot H m _ _ _ (in_snoc (in_all ho g3) (ga.2.mono (take_gr (L := L) gComma))) (g3.le h) (by omega) (by omega)
          · exact ⟨_, rfl⟩
theorem exprB_tot (H : HT L ex k) {m : Nat} (hm : k + 1 ≤ m) {s : PS} (h : s.at_ ≤ L.length) (hk : rem L.length s ≤ k) : ∃ r, exprB ex L m s = some r := by
  unfold exprB
  simp only
  split
  · rename_i hy
    have r0 := rem_take hy
    have g0 := take_gr (L := L) (s := s) kLambda
    obtain ⟨⟨s1, kids⟩, he⟩ := paramsE_tot H m (takeP L kLambda s).1 [] false (fun k hk => by cases hk) (g0.le h) (by omega) (by omega)
    rw [he]
    simp only
    have g1 := (paramsE_gl H.g _ _ _ _ _ (fun k hk => by cases hk) he).1
    have r1 := rem_gr g1
    try simp only at r1
    obtain ⟨s2, x, hx, g2⟩ := H.at_ (s := s1) (g1.le (g0.le h)) (by omega)
    rw [hx]
    exact ⟨_, rfl⟩
  · have g0 := take_gr (L := L) (s := s) kLambda
    have r0 := rem_gr g0
    try simp only at r0
    obtain ⟨⟨s1, x⟩, he⟩ := (orE_tot H hm).t _ (g0.le h) (by omega)
    rw [he]
    simp only
    have g1 := (orE_gd H.g m _ _ he).1
    have r1 := rem_gr g1
    try simp only at r1
    split
    · rename_i hy
      have r2 := rem_take hy
      have g2 := take_gr (L := L) (s := s1) kIf
      obtain ⟨⟨s2, y⟩, hy2⟩ := (orE_tot H hm).t _ (g2.le (g1.le (g0.le h))) (by omega)
      rw [hy2]
      simp only
      have g3 := (orE_gd H.g m _ _ hy2).1.trans (need_gr (L := L) kElse)
      have r3 := rem_gr g3
      try simp only at r3
      obtain ⟨s3, z, hz, g4⟩ := H.at_ (s := needP L kElse s2) (g3.le (g2.le (g1.le (g0.le h)))) (by omega)
      rw [hz]
      exact ⟨_, rfl⟩
    · exact ⟨_, rfl⟩
end
theorem exprE_tot (L : List TokD) : ∀ (m : Nat) (s : PS), s.at_ ≤ L.length → rem L.length s + 2 ≤ m → ∃ r, exprE L m s = some r
  | 0, s, h, hm => by omega
  | m + 1, s, h, hm => exprB_tot (k := rem L.length s) ⟨exprE_gd L m, fun s1 h1 hr => exprE_tot L m s1 h1 (by omega)⟩ (by omega) h (Nat.le_refl _)
/-- it always ends -/
theorem exprE_start (L : List TokD) : ∃ r, exprE L (L.length + 3) startS = some r := exprE_tot L _ _ (Nat.zero_le _) (by unfold rem startS; simp)

end Go.Proofs.YtjdcicopjipmnaaDoor
