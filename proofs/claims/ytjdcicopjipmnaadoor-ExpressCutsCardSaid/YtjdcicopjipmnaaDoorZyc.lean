/- How the plain parser goes on (1). How the plain parser goes on (2): each part. The plain parser always ends. Cut tokens: what the parser makes of a beginning of tokens that it parses well. Cut tokens (2): each part: the same, or wrong at the end, or ended there. Cut tokens (3): operators, and the whole expression. Cut tokens (4): parameters, and the whole expression. Trees written as tokens: all of them parse to themselves, and no beginning between brackets does. bare: a tree without places; told, of any fuel; what the parse of a tree's tokens is. ExpressCuts: the walk. -/
import Derived.Test.YtjdcicopjipmnaaDoorZaa
import Derived.Test.YtjdcicopjipmnaaDoorZah
import Derived.Test.YtjdcicopjipmnaaDoorZak
import Derived.Test.YtjdcicopjipmnaaDoorZay
namespace Go.Proofs.YtjdcicopjipmnaaDoor
set_option maxRecDepth 100000
set_option maxHeartbeats 40000000
section
set_option linter.unusedVariables false
set_option linter.unusedSimpArgs false
section
variable {L : List TokD} {s : PS}
theorem isP_bad (h : s.e ≠ 0) (t : ByteArray) (b : Nat) : isP L s t b = false := by
 cases e : isP L s t b with
 | false => rfl
 | true => exact absurd (isP_in e).1 h
end
end
section
set_option linter.unusedVariables false
set_option linter.unusedSimpArgs false
def Stp (L : List TokD) (n : Nat) (s : PS) : Prop := s.e = 0 ∧ (s.at_ = n ∨ (s.at_ + 1 = n ∧ (tokP L s 0).k = 1 ∧ (tokP L s 0).s = kNot))
def Fl (L : List TokD) (n : Nat) (s : PS) : Prop := s.e = 30 ∧ (s.bad = n ∨ (s.bad + 1 = n ∧ ∃ t, L[n - 1]? = some t ∧ t.k = 1))
section
variable {L : List TokD} {n : Nat} {s s1 : PS}
theorem tok_cut {b : Nat} (h : s.at_ + b < n) : tokP (L.take n) s b = tokP L s b := by
 unfold tokP
 rw [List.getElem?_take, if_pos h]
theorem tok_cut0 {b : Nat} (h : n ≤ s.at_ + b) : tokP (L.take n) s b = zeroT := by
 unfold tokP
 rw [List.getElem?_take, if_neg (show ¬ s.at_ + b < n by omega)]
 split <;> rfl
theorem is_cut {b : Nat} (h : s.at_ + b < n) (t : ByteArray) : isP (L.take n) s t b = isP L s t b := by
 unfold isP
 rw [tok_cut h]
theorem is_cut0 {b : Nat} (h : n ≤ s.at_ + b) (t : ByteArray) : isP (L.take n) s t b = false := by
 cases e : isP (L.take n) s t b with
 | false => rfl
 | true =>
  have := (isP_in e).2
  rw [List.length_take] at this
  omega
theorem is_cutI {b : Nat} {t : ByteArray} (h : isP (L.take n) s t b = true) : isP L s t b = true := by
 rcases Nat.lt_or_ge (s.at_ + b) n with h1 | h1
 ·rw [is_cut h1] at h; exact h
 ·rw [is_cut0 h1] at h; cases h
theorem any_cut (h : s.at_ < n) : ∀ l : List ByteArray, anyP (L.take n) l s = anyP L l s
 | [] => rfl
 | t :: l => by
  unfold anyP
  rw [is_cut (b := 0) h, any_cut h l]
theorem take_cut (h : s.at_ < n) (t : ByteArray) : takeP (L.take n) t s = takeP L t s := by
 unfold takeP
 rw [any_cut h]
theorem name_cut (h : s.at_ < n) : nameP (L.take n) s = nameP L s := by
 unfold nameP
 rw [tok_cut (b := 0) h]
theorem no_not {l : List ByteArray} (h : l.all (fun t => decide (t ≠ kNot)) = true) : kNot ∉ l := fun hm => absurd rfl (of_decide_eq_true (List.all_eq_true.1 h kNot hm))
theorem is_not {t u : ByteArray} (hu : t ≠ u) (h2 : (tokP L s 0).s = u) : isP L s t 0 = false := by
 unfold isP
 rw [h2, decide_eq_false (show ¬ u = t from fun e => hu e.symm), Bool.and_false]
theorem Stp.is (h : Stp (L.take n) n s) {t : ByteArray} (ht : t ≠ kNot) : isP (L.take n) s t 0 = false := by
 rcases h.2 with h1 | ⟨h1, h2, h3⟩
 ·exact is_cut0 (by omega) t
 ·exact is_not ht h3
theorem Stp.any (h : Stp (L.take n) n s) {l : List ByteArray} (hl : kNot ∉ l) : anyP (L.take n) l s = (s, ⟨#[]⟩, false) := any_none fun t ht => h.is fun e => hl (e ▸ ht)
theorem Stp.take (h : Stp (L.take n) n s) {t : ByteArray} (ht : t ≠ kNot) : takeP (L.take n) t s = (s, false) := take_none (h.is ht)
theorem Stp.fail (h : Stp (L.take n) n s) : Fl (L.take n) n (failP s 30 s.at_) := by
 unfold failP
 rw [if_pos h.1]
 refine ⟨rfl, ?_⟩
 rcases h.2 with h1 | ⟨h1, h2, h3⟩
 ·exact .inl (by show (s.at_ : Int) = n; omega)
 ·refine .inr ⟨by show (s.at_ : Int) + 1 = n; omega, ?_⟩
  have h4 := tokP_in (b := 0) (show (tokP (L.take n) s 0).k ≠ 0 by rw [h2]; decide)
  refine ⟨tokP (L.take n) s 0, ?_, h2⟩
  rw [show n - 1 = s.at_ + 0 from by omega, List.getElem?_eq_getElem h4.2]
  unfold tokP
  rw [if_neg (fun e => e h4.1), List.getElem?_eq_getElem h4.2]
  rfl
theorem Stp.need (h : Stp (L.take n) n s) {t : ByteArray} (ht : t ≠ kNot) : Fl (L.take n) n (needP (L.take n) t s) := by
 unfold needP
 rw [h.take ht]
 exact h.fail
theorem Stp.end_ (he : s.e = 0) (ha : s.at_ = n) : Stp L n s := ⟨he, .inl ha⟩
theorem Stp.name (he : s.e = 0) (ha : s.at_ = n) : Fl (L.take n) n (nameP (L.take n) s).1 := by
 unfold nameP
 rw [tok_cut0 (by omega), if_neg (by rintro ⟨h, _⟩; exact absurd h (by decide))]
 exact (Stp.end_ he ha).fail
theorem Fl.ne (h : Fl L n s) : s.e ≠ 0 := by rw [h.1]; decide
theorem bad_any (h : s.e ≠ 0) (l : List ByteArray) : anyP L l s = (s, ⟨#[]⟩, false) := any_none fun t _ => isP_bad h t 0
theorem bad_take (h : s.e ≠ 0) (t : ByteArray) : takeP L t s = (s, false) := take_none (isP_bad h t 0)
theorem bad_need (h : s.e ≠ 0) (t : ByteArray) : needP L t s = s := (need_gr (L := L) t).bad h
theorem bad_add (h : s.e ≠ 0) (op a : Int) (t : ByteArray) (m : Int) (kids : List Int) : addP s op a t m kids = (s, -1) := by
 unfold addP
 rw [if_pos h]
theorem bad_cmp (h : s.e ≠ 0) : compares L s = (⟨#[]⟩, 0) := by
 unfold compares
 simp [isP_bad h]
theorem cmp_cut (h : s.at_ + 1 < n) : compares (L.take n) s = compares L s := by
 unfold compares
 simp only [is_cut (L := L) (b := 0) (show s.at_ + 0 < n by omega), is_cut (L := L) (b := 1) h]
theorem Stp.cmp (h : Stp (L.take n) n s) : compares (L.take n) s = (⟨#[]⟩, 0) := by
 refine cmp_none (fun t ht => h.is ?_) fun hn => is_cut0 ?_ _
 ·rintro rfl
  exact no_not (l := [gEqq, gNe, gLt, gLe, gGt, gGe, kIn, kIs]) (by decide) ht
 ·rcases h.2 with h1 | h1 <;> omega
theorem cmp_cutI (h : (compares L s).2 = 0) : (compares (L.take n) s).2 = 0 := by
 unfold compares at h ⊢
 split at h
 ·exact absurd h (by first | decide | simp)
 rename_i a0
 rw [if_neg (fun e => a0 (is_cutI e))]
 split at h
 ·exact absurd h (by first | decide | simp)
 rename_i a1
 rw [if_neg (fun e => a1 (is_cutI e))]
 split at h
 ·exact absurd h (by first | decide | simp)
 rename_i a2
 rw [if_neg (fun e => a2 (is_cutI e))]
 split at h
 ·exact absurd h (by first | decide | simp)
 rename_i a3
 rw [if_neg (fun e => a3 (is_cutI e))]
 split at h
 ·exact absurd h (by first | decide | simp)
 rename_i a4
 rw [if_neg (fun e => a4 (is_cutI e))]
 split at h
 ·exact absurd h (by first | decide | simp)
 rename_i a5
 rw [if_neg (fun e => a5 (is_cutI e))]
 split at h
 ·exact absurd h (by first | decide | simp)
 rename_i a6
 rw [if_neg (fun e => a6 (is_cutI e))]
 split at h
 ·exact absurd h (by first | decide | simp)
 rename_i a7
 rw [if_neg (fun e => a7 (by rw [Bool.and_eq_true] at e ⊢; exact ⟨is_cutI e.1, is_cutI e.2⟩))]
 split at h
 ·exact absurd h (by first | decide | simp)
 rename_i a8
 rw [if_neg (fun e => a8 (by rw [Bool.and_eq_true] at e ⊢; exact ⟨is_cutI e.1, is_cutI e.2⟩))]
 split at h
 ·exact absurd h (by first | decide | simp)
 rename_i a9
 rw [if_neg (fun e => a9 (is_cutI e))]
theorem deep_gr {N : Nat} {d : Int} {x : Int} (g : Gr N d s s1) (hl : s.dp.length = s.ns.length) (hx : In s x) : deepOf s1 x = deepOf s x := by
 unfold deepOf
 rcases hx with rfl | ⟨k, rfl, hk⟩
 ·rfl
 ·rw [if_neg (by omega), if_neg (by omega), Int.toNat_natCast]
  obtain ⟨t, ht⟩ := g.dpre
  rw [ht, List.getElem?_append_left (by omega)]
theorem deepest_app (s : PS) (ks : List Int) (x : Int) : deepest s (ks ++ [x]) = max (deepest s ks) (deepOf s x) := by
 unfold deepest
 rw [List.foldl_append]
 rfl
theorem deepest_one (s : PS) (x : Int) : deepest s [x] = max 0 (deepOf s x) := rfl
theorem deepest_two (s : PS) (x y : Int) : deepest s [x, y] = max (max 0 (deepOf s x)) (deepOf s y) := rfl
theorem deepest_three (s : PS) (x y z : Int) : deepest s [x, y, z] = max (max (max 0 (deepOf s x)) (deepOf s y)) (deepOf s z) := rfl
theorem add_lim {op a m : Int} {t : ByteArray} {kids : List Int} (h : (addP s op a t m kids).1.e = 0) : s.e = 0 ∧ deepest s kids < 40 := by
 unfold addP at h
 split at h
 ·rename_i h0; exact absurd h h0
 ·rename_i h0
  split at h
  ·exact absurd h (fail_bad _ _ (by decide))
  ·exact ⟨Decidable.byContradiction h0, by omega⟩
theorem add_new (he : s.e = 0) (hl : s.dp.length = s.ns.length) {op a m : Int} {t : ByteArray} {kids : List Int} (h : deepest s kids < 40) :
  (addP s op a t m kids).1.e = 0 ∧ (addP s op a t m kids).1.at_ = s.at_ ∧ deepOf (addP s op a t m kids).1 (addP s op a t m kids).2 = deepest s kids + 1 := by
 refine ⟨?_, add_at .., ?_⟩
 ·unfold addP
  rw [if_neg (fun e => e he), if_neg (by omega)]
  exact he
 ·unfold addP
  rw [if_neg (fun e => e he), if_neg (by omega)]
  unfold deepOf
  simp only
  rw [if_neg (by omega), Int.toNat_natCast, ← hl, List.getElem?_append_right (Nat.le_refl _), Nat.sub_self]
  rfl
theorem Stp.add (h : Stp L n s) (hl : s.dp.length = s.ns.length) {op a m op' a' m' : Int} {t t' : ByteArray} {kids kids' : List Int} (hl1 : s1.dp.length = s1.ns.length) (hd : deepest s kids ≤ deepest s1 kids')
  (he : (addP s1 op' a' t' m' kids').1.e = 0) : Stp L n (addP s op a t m kids).1 ∧ deepOf (addP s op a t m kids).1 (addP s op a t m kids).2 ≤ deepOf (addP s1 op' a' t' m' kids').1 (addP s1 op' a' t' m' kids').2 := by
 obtain ⟨e1, d1⟩ := add_lim he
 obtain ⟨a1, a2, a3⟩ := add_new (s := s) h.1 hl (op := op) (a := a) (m := m) (t := t) (kids := kids) (by omega)
 obtain ⟨b1, b2, b3⟩ := add_new (s := s1) e1 hl1 (op := op') (a := a') (m := m') (t := t') (kids := kids') d1
 refine ⟨⟨a1, ?_⟩, by omega⟩
 have ht : tokP L (addP s op a t m kids).1 0 = tokP L s 0 := by
  unfold tokP
  rw [if_neg (fun e => e a1), if_neg (fun e => e h.1), a2]
 rw [a2, ht]
 exact h.2
end
def First (A : Option (PS × Int)) (r : PS × Int) : Prop := ∃ q, A = some q ∧ (q.1.e ≠ 0 → r.1 = q.1)
section
variable {L : List TokD} {ex : Ex} {s : PS} {A : Option (PS × Int)}
theorem post_first (hg : GdE L.length ex) {m : Nat} {r : PS × Int} (h : postfixE ex L m s = some r) : First (atomE ex L m s) r := by
 unfold postfixE at h
 split at h
 ·cases h
 ·rename_i s1 x ha
  exact ⟨_, ha, fun e => (postE_gd hg _ _ _ _ _ _ (atomE_gd hg ha).2 h).1.bad e⟩
theorem First.next {r q : PS × Int} (h : First A q) (hq : q.1.e ≠ 0 → r.1 = q.1) : First A r := by
 obtain ⟨p, h1, h2⟩ := h
 refine ⟨p, h1, fun e => ?_⟩
 have e1 := h2 e
 rw [hq (by rw [e1]; exact e), e1]
theorem factor_first (hg : GdE L.length ex) (m0 : Nat) : ∀ {m : Nat} {r : PS × Int}, isP L s gMinus 0 = false → factorE ex L m0 m s = some r → First (atomE ex L m0 s) r
 | 0, r, hm, h => by cases h
 | m + 1, r, hm, h => by
  unfold factorE at h
  simp only [take_none hm] at h
  rw [if_neg (by first | decide | simp)] at h
  split at h
  ·cases h
  ·rename_i s1 x hp
   refine (post_first hg hp).next fun e => ?_
   rw [bad_take e] at h
   rw [if_neg (by first | decide | simp)] at h
   obtain rfl := Option.some.inj h
   rfl
theorem parts_first {part : Ex} {op : Int} {signs : List ByteArray} {m : Nat} {r : PS × Int} (hp : ∀ q, part s = some q → First A q) (h : partsE L part op signs m s = some r) : First A r := by
 unfold partsE at h
 split at h
 ·cases h
 ·rename_i s1 x h1
  refine (hp _ h1).next fun e => ?_
  cases m with
  | zero => cases h
  | succ m =>
   unfold leftE at h
   simp only [bad_any e] at h
   rw [if_pos (by first | trivial | rfl)] at h
   obtain rfl := Option.some.inj h
   rfl
theorem sum_first (hg : GdE L.length ex) {m : Nat} {r : PS × Int} (hm : isP L s gMinus 0 = false) (h : sumE ex L m s = some r) : First (atomE ex L m s) r :=
 parts_first (fun q hq => parts_first (fun q hq => factor_first hg m hm hq) hq) h
theorem not_first (hg : GdE L.length ex) (m0 : Nat) : ∀ {m : Nat} {r : PS × Int}, isP L s gMinus 0 = false → isP L s kNot 0 = false → notE ex L m0 m s = some r → First (atomE ex L m0 s) r
 | 0, r, hm, hn, h => by cases h
 | m + 1, r, hm, hn, h => by
  unfold notE at h
  simp only [take_none hn] at h
  rw [if_neg (by first | decide | simp)] at h
  split at h
  ·cases h
  ·rename_i s1 x hp
   refine (sum_first hg hm hp).next fun e => ?_
   rw [bad_cmp e, if_pos (by first | trivial | rfl)] at h
   obtain rfl := Option.some.inj h
   rfl
theorem or_first (hg : GdE L.length ex) {m : Nat} {r : PS × Int} (hm : isP L s gMinus 0 = false) (hn : isP L s kNot 0 = false) (h : orE ex L m s = some r) : First (atomE ex L m s) r :=
 parts_first (fun q hq => parts_first (fun q hq => not_first hg m hm hn hq) hq) h
theorem expr_first (hg : GdE L.length ex) {m : Nat} {r : PS × Int} (hm : isP L s gMinus 0 = false) (hn : isP L s kNot 0 = false) (hl : isP L s kLambda 0 = false) (h : exprB ex L m s = some r) : First (atomE ex L m s) r := by
 unfold exprB at h
 simp only [take_none hl] at h
 rw [if_neg (by first | decide | simp)] at h
 split at h
 ·cases h
 ·rename_i s1 x hp
  refine (or_first hg hm hn hp).next fun e => ?_
  rw [bad_take e] at h
  rw [if_neg (by first | decide | simp)] at h
  obtain rfl := Option.some.inj h
  rfl
end
def EndE (L : List TokD) (n : Nat) (F : Ex) : Prop := ∀ s r, s.e = 0 → s.at_ = n → F s = some r → Fl L n r.1
section
variable {L : List TokD} {ex : Ex} {n : Nat} {A : Option (PS × Int)}
theorem atom_end {s : PS} {m : Nat} (he : s.e = 0) (ha : s.at_ = n) {r : PS × Int} (h : First (atomE ex (L.take n) m s) r) : Fl (L.take n) n r.1 := by
 obtain ⟨q, h1, h2⟩ := h
 have hq : Fl (L.take n) n q.1 := by
  unfold atomE at h1
  simp only [tok_cut0 (L := L) (s := s) (b := 0) (n := n) (by omega)] at h1
  rw [if_neg (by first | decide | simp), if_neg (by first | decide | simp), if_neg (by first | decide | simp), if_neg (by first | decide | simp)] at h1
  obtain rfl := Option.some.inj h1
  exact (Stp.end_ he ha).fail
 rw [h2 hq.ne]
 exact hq
theorem sum_end (hg : GdE (L.take n).length ex) (m : Nat) : EndE (L.take n) n (sumE ex (L.take n) m) := fun s r he ha h => atom_end he ha (sum_first hg (is_cut0 (by omega) _) h)
theorem not_end (hg : GdE (L.take n).length ex) (m0 m : Nat) : EndE (L.take n) n (notE ex (L.take n) m0 m) := fun s r he ha h => atom_end he ha (not_first hg m0 (is_cut0 (by omega) _) (is_cut0 (by omega) _) h)
theorem factor_end (hg : GdE (L.take n).length ex) (m0 m : Nat) : EndE (L.take n) n (factorE ex (L.take n) m0 m) := fun s r he ha h => atom_end he ha (factor_first hg m0 (is_cut0 (by omega) _) h)
theorem expr_end (hg : GdE (L.take n).length ex) (m : Nat) : EndE (L.take n) n (exprB ex (L.take n) m) := fun s r he ha h => atom_end he ha (expr_first hg (is_cut0 (by omega) _) (is_cut0 (by omega) _) (is_cut0 (by omega) _) h)
theorem ends_all (L : List TokD) (n : Nat) : ∀ m, EndE (L.take n) n (exprE (L.take n) m)
 | 0 => fun s r he ha h => by cases h
 | m + 1 => expr_end (exprE_gd _ m) m
end
end
section
set_option linter.unusedVariables false
set_option linter.unusedSimpArgs false
def Cu (L : List TokD) (n : Nat) (r r' : PS × Int) : Prop :=
 Fl (L.take n) n r'.1 ∨ (r' = r ∧ r.1.at_ < n) ∨ (Stp (L.take n) n r'.1 ∧ deepOf r'.1 r'.2 ≤ deepOf r.1 r.2)
def CutE (L : List TokD) (n : Nat) (F F' : Ex) : Prop := ∀ s r r', s.e = 0 → s.dp.length = s.ns.length → s.at_ ≤ n → F s = some r → r.1.e = 0 → F' s = some r' → Cu L n r r'
def Cl {α : Type} (L : List TokD) (n : Nat) (r r' : PS × α) : Prop := Fl (L.take n) n r'.1 ∨ (r' = r ∧ r.1.at_ ≤ n)
theorem step1_gr {L : List TokD} {s : PS} (h : s.e = 0) (hn : s.at_ < L.length) : Gr L.length (-3 * (1 : Nat)) s (stepP s 1) := step_gr (k := 1) h hn
section
variable {L : List TokD} {n : Nat} {ex ex' : Ex} {s : PS}
theorem need_cut (h : s.at_ < n) (t : ByteArray) : needP (L.take n) t s = needP L t s := by
 unfold needP
 rw [take_cut h]
theorem need_ok {t : ByteArray} (h : (needP L t s).e = 0) : needP L t s = stepP s 1 := by
 unfold needP at h ⊢
 split at h
 ·rename_i ht
  rw [if_pos ht, (take_step ht).1]
 ·exact absurd h (fail_bad _ _ (by decide))
theorem rowE_cut (hc : CutE L n ex ex') (hg : GdE L.length ex) (hg' : GdE (L.take n).length ex') (hend : EndE (L.take n) n ex') {fin : ByteArray} (hfin : fin ≠ kNot) : ∀ (m : Nat) (s : PS) (kids : List Int) (r r' : PS × List Int),
  s.e = 0 → s.dp.length = s.ns.length → s.at_ ≤ n → (∀ k ∈ kids, In s k) → rowE ex L fin m s kids = some r → r.1.e = 0 → rowE ex' (L.take n) fin m s kids = some r' → Cl L n r r'
 | 0, s, kids, r, r', h0, hl, ha, hk, h, he, h' => by cases h
 | m + 1, s, kids, r, r', h0, hl, ha, hk, h, he, h' => by
  unfold rowE at h h'
  rw [if_neg (fun e => e h0)] at h h'
  have bad : ∀ {s1 : PS}, Fl (L.take n) n s1 → ∀ {x : Int}, (if (takeP (L.take n) gComma s1).2 = true then rowE ex' (L.take n) fin m (takeP (L.take n) gComma s1).1 (kids ++ [x]) else some (needP (L.take n) fin (takeP (L.take n) gComma s1).1, kids ++ [x])) = some r' → Cl L n r r' := by
   intro s1 hf x hh
   rw [bad_take hf.ne, if_neg (by first | decide | simp), bad_need hf.ne] at hh
   obtain rfl := Option.some.inj hh
   exact .inl hf
  rcases Nat.lt_or_ge s.at_ n with hlt | hge
  ·rw [take_cut hlt] at h'
   split at h
   ·rename_i ht
    rw [if_pos ht] at h'
    obtain rfl := Option.some.inj h
    obtain rfl := Option.some.inj h'
    exact .inr ⟨rfl, by rw [(take_step ht).1]; show s.at_ + 1 ≤ n; omega⟩
   ·rename_i ht
    rw [if_neg ht] at h'
    rw [take_no (Bool.eq_false_iff.2 ht)] at h h'
    split at h
    ·cases h
    ·rename_i s1 x hx
     split at h'
     ·cases h'
     ·rename_i s1' x' hx'
      have gx := hg _ _ hx
      have ek : s1.e = 0 := by
       split at h
       ·exact (take_gr (L := L) gComma).pos ((rowE_gl hg fin _ _ _ _ (in_snoc (in_all (L := L) hk (gx.1.trans (take_gr (L := L) gComma))) (gx.2.mono (take_gr (L := L) gComma))) h).1.pos he)
       ·obtain rfl := Option.some.inj h
        exact (take_gr (L := L) gComma).pos ((need_gr (L := L) fin).pos he)
      rcases hc _ _ _ h0 hl ha hx ek hx' with hf | ⟨e, h2⟩ | ⟨h2, _⟩
      ·exact bad hf h'
      ·obtain ⟨rfl, rfl⟩ := Prod.mk.inj e
       simp only at h2
       rw [take_cut h2] at h'
       split at h
       ·rename_i hy
        rw [if_pos hy] at h'
        have hst := take_step hy
        rw [hst.1] at h h'
        refine rowE_cut hc hg hg' hend hfin m (stepP s1' 1) _ _ _ hst.2.1 (gx.1.len hl) (by show s1'.at_ + 1 ≤ n; omega) (in_snoc (fun k hk' => ?_) ?_) h he h'
        ·exact (hk k hk').mono (gx.1.trans (step1_gr hst.2.1 hst.2.2))
        ·exact gx.2.mono (step1_gr hst.2.1 hst.2.2)
       ·rename_i hy
        rw [if_neg hy] at h'
        rw [take_no (Bool.eq_false_iff.2 hy)] at h h'
        obtain rfl := Option.some.inj h
        rw [need_cut h2] at h'
        obtain rfl := Option.some.inj h'
        exact .inr ⟨rfl, by simp only; rw [need_ok he]; show s1'.at_ + 1 ≤ n; omega⟩
      ·simp only at h2
       rw [h2.take (by decide), if_neg (by first | decide | simp)] at h'
       obtain rfl := Option.some.inj h'
       exact .inl (h2.need hfin)
  ·rw [take_none (is_cut0 (by omega) fin), if_neg (by first | decide | simp)] at h'
   split at h'
   ·cases h'
   ·rename_i s1' x' hx'
    exact bad (hend _ _ h0 (by omega) hx') h'
theorem pairsE_cut (hc : CutE L n ex ex') (hg : GdE L.length ex) (hg' : GdE (L.take n).length ex') (hend : EndE (L.take n) n ex') : ∀ (m : Nat) (s : PS) (kids : List Int) (r r' : PS × List Int),
  s.e = 0 → s.dp.length = s.ns.length → s.at_ ≤ n → (∀ k ∈ kids, In s k) → pairsE ex L m s kids = some r → r.1.e = 0 → pairsE ex' (L.take n) m s kids = some r' → Cl L n r r'
 | 0, s, kids, r, r', h0, hl, ha, hk, h, he, h' => by cases h
 | m + 1, s, kids, r, r', h0, hl, ha, hk, h, he, h' => by
  unfold pairsE at h h'
  rw [if_neg (fun e => e h0)] at h h'
  have bad2 : ∀ {s1 : PS}, Fl (L.take n) n s1 → ∀ {k x : Int}, (if (takeP (L.take n) gComma s1).2 = true then pairsE ex' (L.take n) m (takeP (L.take n) gComma s1).1 (kids ++ [k, x]) else some (needP (L.take n) gRc (takeP (L.take n) gComma s1).1, kids ++ [k, x])) = some r' → Cl L n r r' := by
   intro s1 hf k x hh
   rw [bad_take hf.ne, if_neg (by first | decide | simp), bad_need hf.ne] at hh
   obtain rfl := Option.some.inj hh
   exact .inl hf
  have bad1 : ∀ {s1 : PS}, Fl (L.take n) n s1 → ∀ {k : Int}, (match ex' s1 with | none => none | some (s2, v) => if (takeP (L.take n) gComma s2).2 = true then pairsE ex' (L.take n) m (takeP (L.take n) gComma s2).1 (kids ++ [k, v]) else some (needP (L.take n) gRc (takeP (L.take n) gComma s2).1, kids ++ [k, v])) = some r' → Cl L n r r' := by
   intro s1 hf k hh
   split at hh
   ·cases hh
   ·rename_i s2 v hv
    have := (hg' _ _ hv).1.bad hf.ne
    simp only at this
    subst this
    exact bad2 hf hh
  rcases Nat.lt_or_ge s.at_ n with hlt | hge
  ·rw [take_cut hlt] at h'
   split at h
   ·rename_i ht
    rw [if_pos ht] at h'
    obtain rfl := Option.some.inj h
    obtain rfl := Option.some.inj h'
    exact .inr ⟨rfl, by rw [(take_step ht).1]; show s.at_ + 1 ≤ n; omega⟩
   ·rename_i ht
    rw [if_neg ht] at h'
    rw [take_no (Bool.eq_false_iff.2 ht)] at h h'
    split at h
    ·cases h
    ·rename_i s1 x hx
     split at h'
     ·cases h'
     ·rename_i s1' x' hx'
      split at h
      ·cases h
      ·rename_i s2 v hv
       have gx := hg _ _ hx
       have gv := hg _ _ hv
       have gn := need_gr (L := L) (s := s1) gColon
       have ev : s2.e = 0 := by
        split at h
        ·refine (take_gr (L := L) gComma).pos ((pairsE_gl hg _ _ _ _ (fun k hk' => ?_) h).1.pos he)
         rcases List.mem_append.1 hk' with h1 | h1
         ·exact (hk k h1).mono ((gx.1.trans (gn.trans gv.1)).trans (take_gr (L := L) gComma))
         ·simp only [List.mem_cons, List.not_mem_nil, or_false] at h1
          rcases h1 with rfl | rfl
          ·exact gx.2.mono ((gn.trans gv.1).trans (take_gr (L := L) gComma))
          ·exact gv.2.mono (take_gr (L := L) gComma)
        ·obtain rfl := Option.some.inj h
         exact (take_gr (L := L) gComma).pos ((need_gr (L := L) gRc).pos he)
       have en : (needP L gColon s1).e = 0 := gv.1.pos ev
       have ek : s1.e = 0 := gn.pos en
       rcases hc _ _ _ h0 hl ha hx ek hx' with hf | ⟨e, h2⟩ | ⟨h2, _⟩
       ·rw [bad_need hf.ne] at h'
        exact bad1 hf h'
       ·obtain ⟨rfl, rfl⟩ := Prod.mk.inj e
        simp only at h2
        rw [need_cut h2] at h'
        have hne := need_ok en
        split at h'
        ·cases h'
        ·rename_i s2' v' hv'
         have hat : (needP L gColon s1').at_ ≤ n := by rw [hne]; show s1'.at_ + 1 ≤ n; omega
         rcases hc _ _ _ en (gn.len (gx.1.len hl)) hat hv ev hv' with hf | ⟨e, h3⟩ | ⟨h3, _⟩
         ·exact bad2 hf h'
         ·obtain ⟨rfl, rfl⟩ := Prod.mk.inj e
          simp only at h3
          rw [take_cut h3] at h'
          split at h
          ·rename_i hy
           rw [if_pos hy] at h'
           have hst := take_step hy
           rw [hst.1] at h h'
           have gs := step1_gr hst.2.1 hst.2.2
           refine pairsE_cut hc hg hg' hend m (stepP s2' 1) _ _ _ hst.2.1 (gv.1.len (gn.len (gx.1.len hl))) (by show s2'.at_ + 1 ≤ n; omega) (fun k hk' => ?_) h he h'
           rcases List.mem_append.1 hk' with h1 | h1
           ·exact (hk k h1).mono ((gx.1.trans (gn.trans gv.1)).trans gs)
           ·simp only [List.mem_cons, List.not_mem_nil, or_false] at h1
            rcases h1 with rfl | rfl
            ·exact gx.2.mono ((gn.trans gv.1).trans gs)
            ·exact gv.2.mono gs
          ·rename_i hy
           rw [if_neg hy] at h'
           rw [take_no (Bool.eq_false_iff.2 hy)] at h h'
           obtain rfl := Option.some.inj h
           rw [need_cut h3] at h'
           obtain rfl := Option.some.inj h'
           exact .inr ⟨rfl, by simp only; rw [need_ok he]; show s2'.at_ + 1 ≤ n; omega⟩
         ·simp only at h3
          rw [h3.take (by decide), if_neg (by first | decide | simp)] at h'
          obtain rfl := Option.some.inj h'
          exact .inl (h3.need (by decide))
       ·exact bad1 (h2.need (by decide)) h'
  ·rw [take_none (is_cut0 (by omega) gRc), if_neg (by first | decide | simp)] at h'
   split at h'
   ·cases h'
   ·rename_i s1' x' hx'
    have hf := hend _ _ h0 (by omega) hx'
    simp only at hf
    rw [bad_need hf.ne] at h'
    exact bad1 hf h'
theorem roundE_cut (hc : CutE L n ex ex') (hg : GdE L.length ex) (hg' : GdE (L.take n).length ex') (hend : EndE (L.take n) n ex') {m : Nat} {a : Int} {r r' : PS × Int} (h0 : s.e = 0) (hl : s.dp.length = s.ns.length) (ha : s.at_ ≤ n)
  (h : roundE ex L m a s = some r) (he : r.1.e = 0) (h' : roundE ex' (L.take n) m a s = some r') : Cl L n r r' := by
 unfold roundE at h h'
 have bad : ∀ {s1 : PS}, Fl (L.take n) n s1 → ∀ {x : Int}, (match rowE ex' (L.take n) gRp m s1 [x] with | none => none | some (s2, kids) => some (addP s2 8 a ⟨#[]⟩ 0 kids)) = some r' → Cl L n r r' := by
  intro s1 hf x hh
  cases m with
  | zero => cases hh
  | succ m =>
   unfold rowE at hh
   rw [if_pos hf.ne] at hh
   simp only [bad_add hf.ne] at hh
   obtain rfl := Option.some.inj hh
   exact .inl hf
 rcases Nat.lt_or_ge s.at_ n with hlt | hge
 ·rw [take_cut hlt] at h'
  split at h
  ·rename_i ht
   rw [if_pos ht] at h'
   obtain rfl := Option.some.inj h
   obtain rfl := Option.some.inj h'
   exact .inr ⟨rfl, by rw [add_at, (take_step ht).1]; show s.at_ + 1 ≤ n; omega⟩
  ·rename_i ht
   rw [if_neg ht] at h'
   rw [take_no (Bool.eq_false_iff.2 ht)] at h h'
   split at h
   ·cases h
   ·rename_i s1 x hx
    split at h'
    ·cases h'
    ·rename_i s1' x' hx'
     have gx := hg _ _ hx
     have ek : s1.e = 0 := by
      split at h
      ·obtain rfl := Option.some.inj h
       exact (take_gr (L := L) gRp).pos he
      ·split at h
       ·cases h
       ·rename_i s2 kids hr
        obtain rfl := Option.some.inj h
        exact (take_gr (L := L) gRp).pos ((need_gr (L := L) gComma).pos ((rowE_gl hg _ _ _ _ _ (in_snoc (l := []) (fun k hk => by cases hk) ((gx.2.mono (take_gr (L := L) gRp)).mono (need_gr (L := L) gComma))) hr).1.pos (add_lim he).1))
     rcases hc _ _ _ h0 hl ha hx ek hx' with hf | ⟨e, h2⟩ | ⟨h2, _⟩
     ·rw [bad_take hf.ne, if_neg (by first | decide | simp), bad_need hf.ne] at h'
      exact bad hf h'
     ·obtain ⟨rfl, rfl⟩ := Prod.mk.inj e
      simp only at h2
      rw [take_cut h2] at h'
      split at h
      ·rename_i hy
       rw [if_pos hy] at h'
       obtain rfl := Option.some.inj h
       obtain rfl := Option.some.inj h'
       exact .inr ⟨rfl, by rw [(take_step hy).1]; show s1'.at_ + 1 ≤ n; omega⟩
      ·rename_i hy
       rw [if_neg hy] at h'
       rw [take_no (Bool.eq_false_iff.2 hy)] at h h'
       split at h
       ·cases h
       ·rename_i s2 kids hr
        obtain rfl := Option.some.inj h
        have e2 := (add_lim he).1
        have gn := need_gr (L := L) (s := s1') gComma
        have hin : ∀ k ∈ [x'], In (needP L gComma s1') k := in_snoc (l := []) (fun k hk => by cases hk) (gx.2.mono gn)
        have en := (rowE_gl hg _ _ _ _ _ hin hr).1.pos e2
        have hne := need_ok en
        rw [need_cut h2] at h'
        split at h'
        ·cases h'
        ·rename_i s2' kids' hr'
         rcases rowE_cut hc hg hg' hend (by decide) m _ _ _ _ en (gn.len (gx.1.len hl)) (by rw [hne]; show s1'.at_ + 1 ≤ n; omega) hin hr e2 hr' with hf | ⟨e, h3⟩
         ·simp only at hf
          simp only [bad_add hf.ne] at h'
          obtain rfl := Option.some.inj h'
          exact .inl hf
         ·obtain ⟨rfl, rfl⟩ := Prod.mk.inj e
          obtain rfl := Option.some.inj h'
          exact .inr ⟨rfl, by rw [add_at]; exact h3⟩
     ·simp only at h2
      rw [h2.take (by decide), if_neg (by first | decide | simp)] at h'
      exact bad (h2.need (by decide)) h'
 ·rw [take_none (is_cut0 (by omega) gRp), if_neg (by first | decide | simp)] at h'
  split at h'
  ·cases h'
  ·rename_i s1' x' hx'
   have hf := hend _ _ h0 (by omega) hx'
   simp only at hf
   rw [bad_take hf.ne, if_neg (by first | decide | simp), bad_need hf.ne] at h'
   exact bad hf h'
theorem atomE_cut (hc : CutE L n ex ex') (hg : GdE L.length ex) (hg' : GdE (L.take n).length ex') (hend : EndE (L.take n) n ex') {m : Nat} {r r' : PS × Int} (h0 : s.e = 0) (hl : s.dp.length = s.ns.length) (ha : s.at_ ≤ n)
  (h : atomE ex L m s = some r) (he : r.1.e = 0) (h' : atomE ex' (L.take n) m s = some r') : Cl L n r r' := by
 rcases Nat.lt_or_ge s.at_ n with hlt | hge
 ·have ha1 : (stepP s 1).at_ ≤ n := by show s.at_ + 1 ≤ n; omega
  unfold atomE at h h'
  simp only [tok_cut (L := L) (s := s) (b := 0) (n := n) hlt] at h h'
  split at h
  ·rename_i hk
   rw [if_pos hk] at h'
   obtain rfl := Option.some.inj h
   obtain rfl := Option.some.inj h'
   exact .inr ⟨rfl, by rw [add_at]; exact ha1⟩
  rename_i hk2
  rw [if_neg hk2] at h'
  split at h
  ·rename_i hk
   rw [if_pos hk] at h'
   obtain rfl := Option.some.inj h
   obtain rfl := Option.some.inj h'
   exact .inr ⟨rfl, by rw [add_at]; exact ha1⟩
  rename_i hk3
  rw [if_neg hk3] at h'
  split at h
  ·rename_i hk
   rw [if_pos hk] at h'
   split at h
   ·rename_i op hop
    rw [hop] at h'
    obtain rfl := Option.some.inj h
    obtain rfl := Option.some.inj h'
    exact .inr ⟨rfl, by rw [add_at]; exact ha1⟩
   ·rename_i hop
    rw [hop] at h'
    simp only at h'
    split at h
    ·rename_i hn
     rw [if_pos hn] at h'
     obtain rfl := Option.some.inj h
     obtain rfl := Option.some.inj h'
     exact .inr ⟨rfl, by rw [add_at]; exact ha1⟩
    ·obtain rfl := Option.some.inj h
     exact absurd he (fail_bad _ _ (by decide))
  rename_i hk1
  rw [if_neg hk1] at h'
  split at h
  ·rename_i hk
   rw [if_pos hk] at h'
   split at h
   ·rename_i hp
    rw [if_pos hp] at h'
    exact roundE_cut (s := stepP s 1) hc hg hg' hend h0 hl ha1 h he h'
   ·rename_i hp
    rw [if_neg hp] at h'
    split at h
    ·rename_i hb
     rw [if_pos hb] at h'
     split at h
     ·cases h
     ·rename_i s2 kids hr
      obtain rfl := Option.some.inj h
      have e2 := (add_lim he).1
      split at h'
      ·cases h'
      ·rename_i s2' kids' hr'
       rcases rowE_cut hc hg hg' hend (by decide) m _ _ _ _ (show (stepP s 1).e = 0 from h0) hl ha1 (fun k hk => by cases hk) hr e2 hr' with hf | ⟨e, h3⟩
       ·simp only at hf
        simp only [bad_add hf.ne] at h'
        obtain rfl := Option.some.inj h'
        exact .inl hf
       ·obtain ⟨rfl, rfl⟩ := Prod.mk.inj e
        obtain rfl := Option.some.inj h'
        exact .inr ⟨rfl, by rw [add_at]; exact h3⟩
    ·rename_i hb
     rw [if_neg hb] at h'
     split at h
     ·rename_i hcb
      rw [if_pos hcb] at h'
      split at h
      ·cases h
      ·rename_i s2 kids hr
       obtain rfl := Option.some.inj h
       have e2 := (add_lim he).1
       split at h'
       ·cases h'
       ·rename_i s2' kids' hr'
        rcases pairsE_cut hc hg hg' hend m _ _ _ _ (show (stepP s 1).e = 0 from h0) hl ha1 (fun k hk => by cases hk) hr e2 hr' with hf | ⟨e, h3⟩
        ·simp only at hf
         simp only [bad_add hf.ne] at h'
         obtain rfl := Option.some.inj h'
         exact .inl hf
        ·obtain ⟨rfl, rfl⟩ := Prod.mk.inj e
         obtain rfl := Option.some.inj h'
         exact .inr ⟨rfl, by rw [add_at]; exact h3⟩
     ·obtain rfl := Option.some.inj h
      exact absurd he (fail_bad _ _ (by decide))
  ·obtain rfl := Option.some.inj h
   exact absurd he (fail_bad _ _ (by decide))
 ·exact .inl (atom_end (m := m) h0 (by omega) ⟨r', h', fun _ => rfl⟩)
theorem boundE_cut (hc : CutE L n ex ex') (hg : GdE L.length ex) (hend : EndE (L.take n) n ex') {fin : ByteArray} {r r' : PS × Int} (h0 : s.e = 0) (hl : s.dp.length = s.ns.length) (ha : s.at_ ≤ n)
  (h : boundE ex L fin s = some r) (he : r.1.e = 0) (h' : boundE ex' (L.take n) fin s = some r') : Cu L n r r' := by
 unfold boundE at h h'
 rcases Nat.lt_or_ge s.at_ n with hlt | hge
 ·rw [is_cut (b := 0) hlt, tok_cut (b := 0) hlt] at h'
  split at h
  ·rename_i ht
   rw [if_pos ht] at h'
   obtain rfl := Option.some.inj h
   obtain rfl := Option.some.inj h'
   exact .inr (.inl ⟨rfl, by rw [add_at]; exact hlt⟩)
  ·rename_i ht
   rw [if_neg ht] at h'
   exact hc _ _ _ h0 hl ha h he h'
 ·rw [is_cut0 (by omega), if_neg (by first | decide | simp)] at h'
  exact .inl (hend _ _ h0 (by omega) h')
theorem bound_bad (hg : GdE L.length ex) (he : s.e ≠ 0) {fin : ByteArray} {r : PS × Int} (h : boundE ex L fin s = some r) : r.1 = s := (boundE_gd hg h).1.bad he
theorem indexE_cut (hc : CutE L n ex ex') (hg : GdE L.length ex) (hg' : GdE (L.take n).length ex') (hend : EndE (L.take n) n ex') {x a : Int} {r r' : PS × Int} (h0 : s.e = 0) (hl : s.dp.length = s.ns.length) (ha : s.at_ ≤ n)
  (h : indexE ex L x a s = some r) (he : r.1.e = 0) (h' : indexE ex' (L.take n) x a s = some r') : Cl L n r r' := by
 unfold indexE at h h'
 have bad2 : ∀ {s1 : PS}, Fl (L.take n) n s1 → ∀ {y : Int}, (match boundE ex' (L.take n) gRb s1 with | none => none | some (s3, z) => some (addP (needP (L.take n) gRb s3) 20 a ⟨#[]⟩ 0 [x, y, z])) = some r' → Cl L n r r' := by
  intro s1 hf y hh
  split at hh
  ·cases hh
  ·rename_i s3 z hz
   have := bound_bad hg' hf.ne hz
   simp only at this
   subst this
   rw [bad_need hf.ne, bad_add hf.ne] at hh
   obtain rfl := Option.some.inj hh
   exact .inl hf
 split at h
 ·cases h
 ·rename_i s1 y hy
  split at h'
  ·cases h'
  ·rename_i s1' y' hy'
   have g1 := (boundE_gd hg hy).1
   -- the whole went well
   have ek : s1.e = 0 := by
    split at h
    ·obtain rfl := Option.some.inj h
     exact (take_gr (L := L) gRb).pos (add_lim he).1
    ·simp only at h
     split at h
     ·cases h
     ·rename_i s3 z hz
      obtain rfl := Option.some.inj h
      have e3 := (need_gr (L := L) gColon).pos ((boundE_gd hg hz).1.pos ((need_gr (L := L) gRb).pos (add_lim he).1))
      split at e3
      ·exact e3
      ·exact (take_gr (L := L) gRb).pos e3
   rcases boundE_cut hc hg hend h0 hl ha hy ek hy' with hf | ⟨e, h2⟩ | ⟨h2, _⟩
   ·simp only at hf
    rw [bad_take hf.ne, if_neg (by rintro ⟨_, h⟩; cases h)] at h'
    simp only at h'
    rw [show (if isP (L.take n) s gColon 0 = true then s1' else s1') = s1' from by split <;> rfl, bad_need hf.ne] at h'
    exact bad2 hf h'
   ·obtain ⟨rfl, rfl⟩ := Prod.mk.inj e
    simp only at h2
    have hls := g1.up
    simp only at hls
    have hlt : s.at_ < n := by omega
    rw [is_cut (b := 0) hlt, take_cut h2] at h'
    split at h
    ·rename_i hcc
     rw [if_pos hcc] at h'
     obtain rfl := Option.some.inj h
     obtain rfl := Option.some.inj h'
     exact .inr ⟨rfl, by rw [add_at, (take_step hcc.2).1]; show s1'.at_ + 1 ≤ n; omega⟩
    ·rename_i hcc
     rw [if_neg hcc] at h'
     simp only at h h'
     split at h
     ·cases h
     ·rename_i s3 z hz
      obtain rfl := Option.some.inj h
      have e4 := (add_lim he).1
      have e3 : s3.e = 0 := (need_gr (L := L) gRb).pos e4
      have en := (boundE_gd hg hz).1.pos e3
      generalize hs2 : (if isP L s gColon 0 = true then s1' else (takeP L gRb s1').1) = s2 at h' hz en
      have es2 : s2 = s1' := by
       rw [← hs2]
       split
       ·rfl
       ·rename_i hq
        exact take_no (Bool.eq_false_iff.2 fun e => hcc ⟨Bool.eq_false_iff.2 hq, e⟩)
      subst es2
      have hne := need_ok en
      rw [need_cut h2] at h'
      split at h'
      ·cases h'
      ·rename_i s3' z' hz'
       rcases boundE_cut hc hg hend en (by rw [hne]; exact g1.len hl) (by rw [hne]; show s2.at_ + 1 ≤ n; omega) hz e3 hz' with hf | ⟨e, h3⟩ | ⟨h3, _⟩
       ·simp only at hf
        rw [bad_need hf.ne, bad_add hf.ne] at h'
        obtain rfl := Option.some.inj h'
        exact .inl hf
       ·obtain ⟨rfl, rfl⟩ := Prod.mk.inj e
        simp only at h3
        rw [need_cut h3] at h'
        obtain rfl := Option.some.inj h'
        exact .inr ⟨rfl, by rw [add_at, need_ok e4]; show s3'.at_ + 1 ≤ n; omega⟩
       ·have hf := h3.need (t := gRb) (by decide)
        simp only at hf
        rw [bad_add hf.ne] at h'
        obtain rfl := Option.some.inj h'
        exact .inl hf
   ·simp only at h2
    rw [h2.take (by decide), if_neg (by rintro ⟨_, h⟩; cases h)] at h'
    simp only at h'
    rw [show (if isP (L.take n) s gColon 0 = true then s1' else s1') = s1' from by split <;> rfl] at h'
    exact bad2 (h2.need (by decide)) h'
end
end
section
set_option linter.unusedVariables false
set_option linter.unusedSimpArgs false
theorem fold_ge (s : PS) : ∀ (ks : List Int) (m : Int), m ≤ ks.foldl (fun m k => max m (deepOf s k)) m
 | [], m => Int.le_refl _
 | k :: ks, m => by have := fold_ge s ks (max m (deepOf s k)); simp only [List.foldl_cons]; omega
theorem fold_mem (s : PS) : ∀ (ks : List Int) (m x : Int), x ∈ ks → deepOf s x ≤ ks.foldl (fun m k => max m (deepOf s k)) m
 | k :: ks, m, x, h => by
  simp only [List.foldl_cons]
  rcases List.mem_cons.1 h with rfl | h
  ·have := fold_ge s ks (max m (deepOf s x)); omega
  ·exact fold_mem s ks _ x h
theorem deepest_mem (s : PS) (ks : List Int) (x : Int) (h : x ∈ ks) : deepOf s x ≤ deepest s ks := fold_mem s ks 0 x h
section
variable {L : List TokD} {n : Nat} {ex ex' : Ex} {s : PS}
theorem add_deep {op a m : Int} {t : ByteArray} {kids : List Int} {x : Int} (hl : s.dp.length = s.ns.length) (he : (addP s op a t m kids).1.e = 0) (hx : x ∈ kids) : deepOf s x ≤ deepOf (addP s op a t m kids).1 (addP s op a t m kids).2 := by
 have ea := add_lim he
 obtain ⟨_, _, h3⟩ := add_new (s := s) ea.1 hl (op := op) (a := a) (m := m) (t := t) (kids := kids) ea.2
 have := deepest_mem s kids x hx
 omega
theorem rowE_pre (fin : ByteArray) : ∀ (m : Nat) (s : PS) (kids : List Int) (r : PS × List Int), rowE ex L fin m s kids = some r → ∃ l, r.2 = kids ++ l
 | 0, s, kids, r, h => by cases h
 | m + 1, s, kids, r, h => by
  unfold rowE at h
  split at h
  ·obtain rfl := Option.some.inj h
   exact ⟨[], by simp⟩
  ·split at h
   ·obtain rfl := Option.some.inj h
    exact ⟨[], by simp⟩
   ·split at h
    ·cases h
    ·split at h
     ·obtain ⟨l, hl⟩ := rowE_pre fin m _ _ _ h
      exact ⟨_, by rw [hl, List.append_assoc]⟩
     ·obtain rfl := Option.some.inj h
      exact ⟨_, rfl⟩
theorem indexE_deep (hg : GdE L.length ex) {x a : Int} {r : PS × Int} (hi : In s x) (hl : s.dp.length = s.ns.length) (h : indexE ex L x a s = some r) (he : r.1.e = 0) : deepOf s x ≤ deepOf r.1 r.2 := by
 unfold indexE at h
 split at h
 ·cases h
 ·rename_i s1 y hy
  have g1 := boundE_gd hg hy
  split at h
  ·obtain rfl := Option.some.inj h
   have g2 := take_gr (L := L) (s := s1) gRb
   have := add_deep ((g1.1.trans g2).len hl) he (x := x) (by simp)
   rw [deep_gr (g1.1.trans g2) hl hi] at this
   exact this
  ·simp only at h
   split at h
   ·cases h
   ·rename_i s3 z hz
    obtain rfl := Option.some.inj h
    generalize hs2 : (if isP L s gColon 0 = true then s1 else (takeP L gRb s1).1) = s2 at hz
    have g2 : Gr L.length 0 s1 s2 := by
     rw [← hs2]
     split
     ·exact Gr.refl _ _
     ·exact take_gr _
    have g3 := ((g1.1.trans g2).trans (need_gr (L := L) (s := s2) gColon)).trans ((boundE_gd hg hz).1.trans (need_gr (L := L) gRb))
    have := add_deep (g3.len hl) he (x := x) (by simp)
    rw [deep_gr g3 hl hi] at this
    exact this
theorem postE_deep (hg : GdE L.length ex) (m0 : Nat) (a : Int) : ∀ (m : Nat) (s : PS) (x : Int) (r : PS × Int), In s x → s.dp.length = s.ns.length → postE ex L m0 a m s x = some r → r.1.e = 0 → deepOf s x ≤ deepOf r.1 r.2
 | 0, s, x, r, hi, hl, h, he => by cases h
 | m + 1, s, x, r, hi, hl, h, he => by
  unfold postE at h
  simp only at h
  split at h
  ·obtain rfl := Option.some.inj h
   exact Int.le_refl _
  ·rename_i hc
   have ga := any_yes (L := L) (s := s) (l := [gDot, gLp, gLb]) (by simpa using hc)
   split at h
   ·have g2 := name_gr (L := L) (s := (anyP L [gDot, gLp, gLb] s).1)
    have gp := (postE_gd hg m0 a m _ _ r (add_in ..) h).1
    have h4 := postE_deep hg m0 a m _ _ r (add_in ..) ((add_gr (L := L) ..).len ((ga.trans g2).len hl)) h he
    have h5 := add_deep (x := x) ((ga.trans g2).len hl) (gp.pos he) (by simp)
    rw [deep_gr (ga.trans g2) hl hi] at h5
    omega
   ·split at h
    ·split at h
     ·cases h
     ·rename_i s2 kids hr
      have gr := rowE_gl hg _ _ _ _ _ (in_snoc (l := []) (fun k hk => by cases hk) (hi.mono ga)) hr
      have gp := (postE_gd hg m0 a m _ _ r (add_in ..) h).1
      have h4 := postE_deep hg m0 a m _ _ r (add_in ..) ((add_gr (L := L) ..).len ((ga.trans gr.1).len hl)) h he
      obtain ⟨l, hl3⟩ := rowE_pre gRp _ _ _ _ hr
      simp only at hl3
      have h5 := add_deep (x := x) ((ga.trans gr.1).len hl) (gp.pos he) (by rw [hl3]; simp)
      rw [deep_gr (ga.trans gr.1) hl hi] at h5
      omega
    ·split at h
     ·cases h
     ·rename_i s2 y hy
      have gi := indexE_gd hg hy
      have gp := (postE_gd hg m0 a m _ _ r gi.2 h).1
      have h4 := postE_deep hg m0 a m _ _ r gi.2 ((ga.trans gi.1).len hl) h he
      have h5 := indexE_deep hg (hi.mono ga) (ga.len hl) hy (gp.pos he)
      rw [deep_gr ga hl hi] at h5
      simp only at h5 h4
      omega
theorem leftE_deep {part : Ex} (hg : GdE L.length part) (op : Int) (signs : List ByteArray) : ∀ (m : Nat) (s : PS) (x : Int) (r : PS × Int), In s x → s.dp.length = s.ns.length → leftE L part op signs m s x = some r → r.1.e = 0 → deepOf s x ≤ deepOf r.1 r.2
 | 0, s, x, r, hi, hl, h, he => by cases h
 | m + 1, s, x, r, hi, hl, h, he => by
  unfold leftE at h
  simp only at h
  split at h
  ·obtain rfl := Option.some.inj h
   exact Int.le_refl _
  ·rename_i hc
   have ga := any_yes (L := L) (s := s) (l := signs) (by simpa using hc)
   split at h
   ·cases h
   ·rename_i s1 y hy
    have g1 := (hg _ _ hy).1
    have gp := (leftE_gd hg op signs m _ _ r (add_in ..) h).1
    have h4 := leftE_deep hg op signs m _ _ r (add_in ..) ((add_gr (L := L) ..).len ((ga.trans g1).len hl)) h he
    have h5 := add_deep (x := x) ((ga.trans g1).len hl) (gp.pos he) (by simp)
    rw [deep_gr (ga.trans g1) hl hi] at h5
    omega
theorem postE_cut (hc : CutE L n ex ex') (hg : GdE L.length ex) (hg' : GdE (L.take n).length ex') (hend : EndE (L.take n) n ex') (m0 : Nat) (a : Int) : ∀ (m : Nat) (s : PS) (x : Int) (r r' : PS × Int), In s x → s.e = 0 → s.dp.length = s.ns.length → s.at_ ≤ n → postE ex L m0 a m s x = some r → r.1.e = 0 → postE ex' (L.take n) m0 a m s x = some r' → Cu L n r r'
 | 0, s, x, r, r', hi, h0, hl, ha, h, he, h' => by cases h
 | m + 1, s, x, r, r', hi, h0, hl, ha, h, he, h' => by
  have hd := postE_deep hg m0 a (m + 1) s x r hi hl h he
  unfold postE at h h'
  simp only at h h'
  rcases Nat.lt_or_ge s.at_ n with hlt | hge
  ·rw [any_cut hlt] at h'
   split at h
   ·rename_i hcc
    rw [if_pos hcc] at h'
    obtain rfl := Option.some.inj h
    obtain rfl := Option.some.inj h'
    exact .inr (.inl ⟨rfl, hlt⟩)
   ·rename_i hcc
    rw [if_neg hcc] at h'
    have ga := any_yes (L := L) (s := s) (l := [gDot, gLp, gLb]) (by simpa using hcc)
    obtain ⟨t, ht, ht1, ht2⟩ : ∃ t ∈ [gDot, gLp, gLb], isP L s t 0 = true ∧ anyP L [gDot, gLp, gLb] s = (stepP s 1, t, true) := by
     rcases any_cases (L := L) (s := s) [gDot, gLp, gLb] with ⟨h1, _⟩ | h1
     ·rw [h1] at hcc; exact absurd rfl hcc
     ·exact h1
    rw [ht2] at h h' ga
    simp only at h h' ga
    have ha1 : (stepP s 1).at_ ≤ n := by show s.at_ + 1 ≤ n; omega
    have bad : ∀ {s2 : PS} {y : Int}, Fl (L.take n) n s2 → In s2 y → postE ex' (L.take n) m0 a m s2 y = some r' → Cu L n r r' := fun hf hy hh => by
     have := (postE_gd hg' m0 a m _ _ r' hy hh).1.bad hf.ne
     exact .inl (this ▸ hf)
    split at h
    ·rename_i hdot
     rw [if_pos hdot] at h'
     have g2 := name_gr (L := L) (s := stepP s 1)
     have gp := (postE_gd hg m0 a m _ _ r (add_in ..) h).1
     have ea := gp.pos he
     have en := (add_lim ea).1
     rcases Nat.lt_or_ge (stepP s 1).at_ n with hl2 | hl2
     ·rw [name_cut hl2] at h'
      exact postE_cut hc hg hg' hend m0 a m _ _ _ _ (add_in ..) ea ((add_gr (L := L) ..).len ((ga.trans g2).len hl)) (by rw [add_at, (name_ok en).2.1]; show s.at_ + 1 + 1 ≤ n; exact hl2) h he h'
     ·have hf := Stp.name (L := L) (n := n) (s := stepP s 1) h0 (by omega)
      rw [bad_add hf.ne] at h'
      exact bad hf (.inl rfl) h'
    ·rename_i hdot
     rw [if_neg hdot] at h'
     split at h
     ·rename_i hlp
      rw [if_pos hlp] at h'
      split at h
      ·cases h
      ·rename_i s2 kids hr
       split at h'
       ·cases h'
       ·rename_i s2' kids' hr'
        have hin := in_snoc (l := []) (fun k hk => by cases hk) (hi.mono ga)
        have gr := rowE_gl hg _ _ _ _ _ hin hr
        have gp := (postE_gd hg m0 a m _ _ r (add_in ..) h).1
        have ea := gp.pos he
        have e2 := (add_lim ea).1
        rcases rowE_cut hc hg hg' hend (by decide) m0 _ _ _ _ (show (stepP s 1).e = 0 from h0) hl ha1 hin hr e2 hr' with hf | ⟨e, h3⟩
        ·simp only at hf
         rw [bad_add hf.ne] at h'
         exact bad hf (.inl rfl) h'
        ·obtain ⟨rfl, rfl⟩ := Prod.mk.inj e
         exact postE_cut hc hg hg' hend m0 a m _ _ _ _ (add_in ..) ea ((add_gr (L := L) ..).len ((ga.trans gr.1).len hl)) (by rw [add_at]; exact h3) h he h'
     ·rename_i hlp
      rw [if_neg hlp] at h'
      split at h
      ·cases h
      ·rename_i s2 y hy
       split at h'
       ·cases h'
       ·rename_i s2' y' hy'
        have gi := indexE_gd hg hy
        have gi' := indexE_gd hg' hy'
        have gp := (postE_gd hg m0 a m _ _ r gi.2 h).1
        rcases indexE_cut (s := stepP s 1) hc hg hg' hend h0 hl ha1 hy (gp.pos he) hy' with hf | ⟨e, h3⟩
        ·exact bad hf gi'.2 h'
        ·obtain ⟨rfl, rfl⟩ := Prod.mk.inj e
         exact postE_cut hc hg hg' hend m0 a m _ _ _ _ gi.2 (gp.pos he) ((ga.trans gi.1).len hl) h3 h he h'
  ·rw [(Stp.end_ (L := L.take n) (n := n) h0 (by omega)).any (no_not (by decide))] at h'
   rw [if_pos (by first | trivial | rfl)] at h'
   obtain rfl := Option.some.inj h'
   exact .inr (.inr ⟨Stp.end_ h0 (by show s.at_ = n; omega), hd⟩)
theorem postfixE_cut (hc : CutE L n ex ex') (hg : GdE L.length ex) (hg' : GdE (L.take n).length ex') (hend : EndE (L.take n) n ex') (m : Nat) : CutE L n (postfixE ex L m) (postfixE ex' (L.take n) m) := by
 intro s r r' h0 hl ha h he h'
 unfold postfixE at h h'
 split at h
 ·cases h
 ·rename_i s1 x hx
  split at h'
  ·cases h'
  ·rename_i s1' x' hx'
   have gx := atomE_gd hg hx
   have gx' := atomE_gd hg' hx'
   have e1 := (postE_gd hg _ _ _ _ _ _ gx.2 h).1.pos he
   rcases atomE_cut hc hg hg' hend h0 hl ha hx e1 hx' with hf | ⟨e, h3⟩
   ·have := (postE_gd hg' _ _ _ _ _ _ gx'.2 h').1.bad hf.ne
    exact .inl (this ▸ hf)
   ·obtain ⟨rfl, rfl⟩ := Prod.mk.inj e
    exact postE_cut hc hg hg' hend m _ m _ _ _ _ gx.2 e1 (gx.1.len hl) h3 h he h'
theorem factorE_cut (hc : CutE L n ex ex') (hg : GdE L.length ex) (hg' : GdE (L.take n).length ex') (hend : EndE (L.take n) n ex') (m0 : Nat) : ∀ m : Nat, CutE L n (factorE ex L m0 m) (factorE ex' (L.take n) m0 m)
 | 0 => fun s r r' h0 hl ha h he h' => by cases h
 | m + 1 => by
  intro s r r' h0 hl ha h he h'
  rcases Nat.lt_or_ge s.at_ n with hlt | hge
  ·unfold factorE at h h'
   simp only [tok_cut (L := L) (s := s) (b := 0) (n := n) hlt] at h h'
   rw [take_cut hlt] at h'
   split at h
   ·rename_i ht
    rw [if_pos ht] at h'
    have hst := take_step ht
    rw [hst.1] at h h'
    split at h
    ·cases h
    ·rename_i s1 x hx
     split at h'
     ·cases h'
     ·rename_i s1' x' hx'
      obtain rfl := Option.some.inj h
      obtain rfl := Option.some.inj h'
      have gx := factorE_gd hg m0 m _ _ hx
      have gx' := factorE_gd hg' m0 m _ _ hx'
      rcases factorE_cut hc hg hg' hend m0 m _ _ _ (show (stepP s 1).e = 0 from h0) hl (by show s.at_ + 1 ≤ n; omega) hx (add_lim he).1 hx' with hf | ⟨e, h3⟩ | ⟨h3, h4⟩
      ·simp only at hf
       exact .inl (by rw [bad_add hf.ne]; exact hf)
      ·obtain ⟨rfl, rfl⟩ := Prod.mk.inj e
       exact .inr (.inl ⟨rfl, by rw [add_at]; exact h3⟩)
      ·exact .inr (.inr (h3.add (gx'.1.len hl) (gx.1.len hl) (by simp only [deepest_one] at h4 ⊢; omega) he))
   ·rename_i ht
    rw [if_neg ht] at h'
    rw [take_no (Bool.eq_false_iff.2 ht)] at h h'
    split at h
    ·cases h
    ·rename_i s1 x hx
     split at h'
     ·cases h'
     ·rename_i s1' x' hx'
      have gx := postfixE_gd hg hx
      have gx' := postfixE_gd hg' hx'
      have hin : s1.e = 0 ∧ deepOf s1 x ≤ deepOf r.1 r.2 := by
       split at h
       ·rename_i hp
        have hst := take_step hp
        split at h
        ·cases h
        ·rename_i s2 y hy
         obtain rfl := Option.some.inj h
         have gy := (factorE_gd hg m0 m _ _ hy).1
         have gs := take_gr (L := L) (s := s1) gPow
         have := add_deep (x := x) ((gs.trans gy).len (gx.1.len hl)) he (by simp)
         rw [deep_gr (gs.trans gy) (gx.1.len hl) gx.2] at this
         exact ⟨hst.2.1, this⟩
       ·rename_i hp
        rw [take_no (Bool.eq_false_iff.2 hp)] at h
        obtain rfl := Option.some.inj h
        exact ⟨he, Int.le_refl _⟩
      rcases postfixE_cut hc hg hg' hend m0 _ _ _ h0 hl ha hx hin.1 hx' with hf | ⟨e, h3⟩ | ⟨h3, h4⟩
      ·simp only at hf
       rw [bad_take hf.ne, if_neg (by first | decide | simp)] at h'
       obtain rfl := Option.some.inj h'
       exact .inl hf
      ·obtain ⟨rfl, rfl⟩ := Prod.mk.inj e
       simp only at h3
       rw [take_cut h3] at h'
       split at h
       ·rename_i hp
        rw [if_pos hp] at h'
        have hst := take_step hp
        have gs := take_gr (L := L) (s := s1') gPow
        rw [hst.1] at h h' gs
        split at h
        ·cases h
        ·rename_i s2 y hy
         split at h'
         ·cases h'
         ·rename_i s2' y' hy'
          obtain rfl := Option.some.inj h
          obtain rfl := Option.some.inj h'
          have gy := factorE_gd hg m0 m _ _ hy
          have gy' := factorE_gd hg' m0 m _ _ hy'
          have gs' : Gr (L.take n).length (-3 * (1 : Nat)) s1' (stepP s1' 1) := step_gr (k := 1) hst.2.1 (by rw [List.length_take]; omega)
          rcases factorE_cut hc hg hg' hend m0 m _ _ _ (show (stepP s1' 1).e = 0 from hst.2.1) (gx.1.len hl) (by show s1'.at_ + 1 ≤ n; omega) hy (add_lim he).1 hy' with hf | ⟨e, h5⟩ | ⟨h5, h6⟩
          ·simp only at hf
           exact .inl (by rw [bad_add hf.ne]; exact hf)
          ·obtain ⟨rfl, rfl⟩ := Prod.mk.inj e
           exact .inr (.inl ⟨rfl, by rw [add_at]; exact h5⟩)
          ·refine .inr (.inr (h5.add (gy'.1.len (gx.1.len hl)) (gy.1.len (gx.1.len hl)) ?_ he))
           simp only [deepest_two] at h6 ⊢
           rw [deep_gr (gs.trans gy.1) (gx.1.len hl) gx.2, deep_gr (gs'.trans gy'.1) (gx.1.len hl) gx.2]
           omega
       ·rename_i hp
        rw [if_neg hp] at h'
        rw [take_no (Bool.eq_false_iff.2 hp)] at h h'
        obtain rfl := Option.some.inj h
        obtain rfl := Option.some.inj h'
        exact .inr (.inl ⟨rfl, h3⟩)
      ·simp only at h3 h4
       rw [h3.take (by decide), if_neg (by first | decide | simp)] at h'
       obtain rfl := Option.some.inj h'
       exact .inr (.inr ⟨h3, by simp only; omega⟩)
  ·exact .inl (factor_end hg' m0 (m + 1) _ _ h0 (by omega) h')
theorem leftE_cut {part part' : Ex} (hc : CutE L n part part') (hg : GdE L.length part) (hg' : GdE (L.take n).length part') (op : Int) {signs : List ByteArray} (hs : kNot ∉ signs) : ∀ (m : Nat) (s : PS) (x : Int) (r r' : PS × Int), In s x → s.e = 0 → s.dp.length = s.ns.length → s.at_ ≤ n → leftE L part op signs m s x = some r → r.1.e = 0 → leftE (L.take n) part' op signs m s x = some r' → Cu L n r r'
 | 0, s, x, r, r', hi, h0, hl, ha, h, he, h' => by cases h
 | m + 1, s, x, r, r', hi, h0, hl, ha, h, he, h' => by
  have hd := leftE_deep hg op signs (m + 1) s x r hi hl h he
  unfold leftE at h h'
  simp only at h h'
  rcases Nat.lt_or_ge s.at_ n with hlt | hge
  ·rw [any_cut hlt] at h'
   split at h
   ·rename_i hcc
    rw [if_pos hcc] at h'
    obtain rfl := Option.some.inj h
    obtain rfl := Option.some.inj h'
    exact .inr (.inl ⟨rfl, hlt⟩)
   ·rename_i hcc
    rw [if_neg hcc] at h'
    have ga := any_yes (L := L) (s := s) (l := signs) (by simpa using hcc)
    obtain ⟨t, ht, ht1, ht2⟩ : ∃ t ∈ signs, isP L s t 0 = true ∧ anyP L signs s = (stepP s 1, t, true) := by
     rcases any_cases (L := L) (s := s) signs with ⟨h1, _⟩ | h1
     ·rw [h1] at hcc; exact absurd rfl hcc
     ·exact h1
    rw [ht2] at h h' ga
    simp only at h h' ga
    have ga' : Gr (L.take n).length (-3 * (1 : Nat)) s (stepP s 1) := step_gr (k := 1) h0 (by have := (isP_in ht1).2; rw [List.length_take]; omega)
    have ha1 : (stepP s 1).at_ ≤ n := by show s.at_ + 1 ≤ n; omega
    split at h
    ·cases h
    ·rename_i s1 y hy
     split at h'
     ·cases h'
     ·rename_i s1' y' hy'
      have g1 := hg _ _ hy
      have g1' := hg' _ _ hy'
      have gp := (leftE_gd hg op signs m _ _ r (add_in ..) h).1
      have ea := gp.pos he
      have hd2 := leftE_deep hg op signs m _ _ r (add_in ..) ((add_gr (L := L) ..).len ((ga.trans g1.1).len hl)) h he
      rcases hc _ _ _ (show (stepP s 1).e = 0 from h0) hl ha1 hy (add_lim ea).1 hy' with hf | ⟨e, h3⟩ | ⟨h3, h4⟩
      ·simp only at hf
       rw [bad_add hf.ne] at h'
       have := (leftE_gd hg' op signs m _ _ r' (.inl rfl) h').1.bad hf.ne
       simp only at this
       exact .inl (this ▸ hf)
      ·obtain ⟨rfl, rfl⟩ := Prod.mk.inj e
       exact leftE_cut hc hg hg' op hs m _ _ _ _ (add_in ..) ea ((add_gr (L := L) ..).len ((ga.trans g1.1).len hl)) (by rw [add_at]; simp only at h3; omega) h he h'
      ·simp only at h3 h4
       obtain ⟨h5, h6⟩ := h3.add (op := op) (a := placeOf s1' x) (m := 0) (t := if op = 12 then t else ⟨#[]⟩) (kids := [x, y']) ((ga'.trans g1'.1).len hl) ((ga.trans g1.1).len hl) (by
        simp only [deepest_two]
        rw [deep_gr (ga.trans g1.1) hl hi, deep_gr (ga'.trans g1'.1) hl hi]
        omega) ea
       cases m with
       | zero => cases h'
       | succ m =>
        unfold leftE at h'
        simp only [h5.any hs] at h'
        rw [if_pos (by first | trivial | rfl)] at h'
        obtain rfl := Option.some.inj h'
        exact .inr (.inr ⟨h5, by simp only; omega⟩)
  ·rw [(Stp.end_ (L := L.take n) (n := n) h0 (by omega)).any hs] at h'
   rw [if_pos (by first | trivial | rfl)] at h'
   obtain rfl := Option.some.inj h'
   exact .inr (.inr ⟨Stp.end_ h0 (by show s.at_ = n; omega), hd⟩)
theorem partsE_cut {part part' : Ex} (hc : CutE L n part part') (hg : GdE L.length part) (hg' : GdE (L.take n).length part') {op : Int} {signs : List ByteArray} (hs : kNot ∉ signs) {m : Nat} : CutE L n (partsE L part op signs m) (partsE (L.take n) part' op signs m) := by
 intro s r r' h0 hl ha h he h'
 unfold partsE at h h'
 split at h
 ·cases h
 ·rename_i s1 x hx
  split at h'
  ·cases h'
  ·rename_i s1' x' hx'
   have gx := hg _ _ hx
   have gx' := hg' _ _ hx'
   have e1 := (leftE_gd hg _ _ _ _ _ _ gx.2 h).1.pos he
   have hd := leftE_deep hg _ _ _ _ _ _ gx.2 (gx.1.len hl) h he
   rcases hc _ _ _ h0 hl ha hx e1 hx' with hf | ⟨e, h3⟩ | ⟨h3, h4⟩
   ·have := (leftE_gd hg' _ _ _ _ _ _ gx'.2 h').1.bad hf.ne
    exact .inl (this ▸ hf)
   ·obtain ⟨rfl, rfl⟩ := Prod.mk.inj e
    exact leftE_cut hc hg hg' op hs m _ _ _ _ gx.2 e1 (gx.1.len hl) (Nat.le_of_lt h3) h he h'
   ·cases m with
    | zero => cases h'
    | succ m =>
     unfold leftE at h'
     simp only at h3
     simp only [h3.any hs] at h'
     rw [if_pos (by first | trivial | rfl)] at h'
     obtain rfl := Option.some.inj h'
     exact .inr (.inr ⟨h3, by simp only at h4 hd ⊢; omega⟩)
theorem termE_cut (hc : CutE L n ex ex') (hg : GdE L.length ex) (hg' : GdE (L.take n).length ex') (hend : EndE (L.take n) n ex') (m : Nat) : CutE L n (termE ex L m) (termE ex' (L.take n) m) :=
 partsE_cut (factorE_cut hc hg hg' hend m m) (fun s r h => factorE_gd hg m m s r h) (fun s r h => factorE_gd hg' m m s r h) (no_not (by decide))
theorem sumE_cut (hc : CutE L n ex ex') (hg : GdE L.length ex) (hg' : GdE (L.take n).length ex') (hend : EndE (L.take n) n ex') (m : Nat) : CutE L n (sumE ex L m) (sumE ex' (L.take n) m) :=
 partsE_cut (termE_cut hc hg hg' hend m) (termE_gd hg m) (termE_gd hg' m) (no_not (by decide))
theorem cmp_last (h0 : s.e = 0) (ha : s.at_ + 1 = n) : compares (L.take n) s = compares L s ∨ Stp (L.take n) n s ∨ compares (L.take n) s = (kIs, 1) := by
 have e0 : ∀ t, isP (L.take n) s t 0 = isP L s t 0 := fun t => is_cut (by omega) t
 have e1 : ∀ t, isP (L.take n) s t 1 = false := fun t => is_cut0 (by omega) t
 cases hn : isP L s kNot 0 with
 | true =>
  refine .inr (.inl ⟨h0, .inr ⟨ha, ?_⟩⟩)
  rw [← e0] at hn
  unfold isP at hn
  rw [Bool.and_eq_true] at hn
  exact ⟨by have := of_decide_eq_true hn.1; rw [this]; decide, of_decide_eq_true hn.2⟩
 | false =>
  cases hi : isP L s kIs 0 with
  | false =>
   refine .inl ?_
   unfold compares
   simp [e0, e1, hn, hi]
  | true =>
   refine .inr (.inr ?_)
   have hs : (tokP L s 0).s = kIs := by
    unfold isP at hi
    rw [Bool.and_eq_true] at hi
    exact of_decide_eq_true hi.2
   unfold compares
   simp only [e0, e1, is_not (L := L) (s := s) (t := gEqq) (by decide) hs, is_not (L := L) (s := s) (t := gNe) (by decide) hs, is_not (L := L) (s := s) (t := gLt) (by decide) hs, is_not (L := L) (s := s) (t := gLe) (by decide) hs, is_not (L := L) (s := s) (t := gGt) (by decide) hs, is_not (L := L) (s := s) (t := gGe) (by decide) hs, is_not (L := L) (s := s) (t := kIn) (by decide) hs, is_not (L := L) (s := s) (t := kNot) (by decide) hs, hi]
   rfl
theorem notE_cut (hc : CutE L n ex ex') (hg : GdE L.length ex) (hg' : GdE (L.take n).length ex') (hend : EndE (L.take n) n ex') (m0 : Nat) : ∀ m : Nat, CutE L n (notE ex L m0 m) (notE ex' (L.take n) m0 m)
 | 0 => fun s r r' h0 hl ha h he h' => by cases h
 | m + 1 => by
  intro s r r' h0 hl ha h he h'
  rcases Nat.lt_or_ge s.at_ n with hlt | hge
  ·unfold notE at h h'
   simp only [tok_cut (L := L) (s := s) (b := 0) (n := n) hlt] at h h'
   rw [take_cut hlt] at h'
   split at h
   ·rename_i ht
    rw [if_pos ht] at h'
    have hst := take_step ht
    rw [hst.1] at h h'
    split at h
    ·cases h
    ·rename_i s1 x hx
     split at h'
     ·cases h'
     ·rename_i s1' x' hx'
      obtain rfl := Option.some.inj h
      obtain rfl := Option.some.inj h'
      have gx := notE_gd hg m0 m _ _ hx
      have gx' := notE_gd hg' m0 m _ _ hx'
      rcases notE_cut hc hg hg' hend m0 m _ _ _ (show (stepP s 1).e = 0 from h0) hl (by show s.at_ + 1 ≤ n; omega) hx (add_lim he).1 hx' with hf | ⟨e, h3⟩ | ⟨h3, h4⟩
      ·simp only at hf
       exact .inl (by rw [bad_add hf.ne]; exact hf)
      ·obtain ⟨rfl, rfl⟩ := Prod.mk.inj e
       exact .inr (.inl ⟨rfl, by rw [add_at]; exact h3⟩)
      ·exact .inr (.inr (h3.add (gx'.1.len hl) (gx.1.len hl) (by simp only [deepest_one] at h4 ⊢; omega) he))
   ·rename_i ht
    rw [if_neg ht] at h'
    rw [take_no (Bool.eq_false_iff.2 ht)] at h h'
    split at h
    ·cases h
    ·rename_i s1 x hx
     split at h'
     ·cases h'
     ·rename_i s1' x' hx'
      have gx := sumE_gd hg m0 _ _ hx
      have gx' := sumE_gd hg' m0 _ _ hx'
      have hin : s1.e = 0 ∧ deepOf s1 x ≤ deepOf r.1 r.2 := by
       split at h
       ·obtain rfl := Option.some.inj h
        exact ⟨he, Int.le_refl _⟩
       ·rename_i hp
        have hst := compares_in hp
        split at h
        ·cases h
        ·rename_i s2 y hy
         have gs := step_gr (L := L) hst.1 hst.2
         have gy := (sumE_gd hg m0 _ _ hy).1
         split at h
         ·obtain rfl := Option.some.inj h
          exact absurd he (fail_bad _ _ (by decide))
         ·obtain rfl := Option.some.inj h
          have := add_deep (x := x) ((gs.trans gy).len (gx.1.len hl)) he (by simp)
          rw [deep_gr (gs.trans gy) (gx.1.len hl) gx.2] at this
          exact ⟨hst.1, this⟩
      have stop : Stp (L.take n) n s1' → deepOf s1' x' ≤ deepOf r.1 r.2 → Cu L n r r' := fun h3 h4 => by
       rw [h3.cmp, if_pos (by first | trivial | rfl)] at h'
       obtain rfl := Option.some.inj h'
       exact .inr (.inr ⟨h3, h4⟩)
      -- the second part, behind the same operator
      have go : s1' = s1 → x' = x → s1.at_ < n → compares (L.take n) s1 = compares L s1 → Cu L n r r' := by
       rintro rfl rfl h3 hcm
       rw [hcm] at h'
       split at h
       ·rename_i hz
        rw [if_pos hz] at h'
        obtain rfl := Option.some.inj h
        obtain rfl := Option.some.inj h'
        exact .inr (.inl ⟨rfl, h3⟩)
       ·rename_i hz
        rw [if_neg hz] at h'
        have hst := compares_in hz
        have hst' : s1'.at_ + (compares L s1').2 ≤ (L.take n).length := by
         have := compares_in (L := L.take n) (s := s1') (by rw [hcm]; exact hz)
         rw [hcm] at this
         exact this.2
        split at h
        ·cases h
        ·rename_i s2 y hy
         split at h'
         ·cases h'
         ·rename_i s2' y' hy'
          have gs := step_gr (L := L) hst.1 hst.2
          have gs' := step_gr (L := L.take n) hst.1 hst'
          have gy := sumE_gd hg m0 _ _ hy
          have gy' := sumE_gd hg' m0 _ _ hy'
          split at h
          ·obtain rfl := Option.some.inj h
           exact absurd he (fail_bad _ _ (by decide))
          ·rename_i hz2
           obtain rfl := Option.some.inj h
           rcases sumE_cut hc hg hg' hend m0 _ _ _ (show (stepP s1' (compares L s1').2).e = 0 from hst.1) (gx.1.len hl) (by rw [List.length_take] at hst'; show s1'.at_ + _ ≤ n; omega) hy (add_lim he).1 hy' with hf | ⟨e, h5⟩ | ⟨h5, h6⟩
           ·simp only at hf
            rw [bad_add hf.ne] at h'
            simp only at h'
            rw [bad_cmp hf.ne, if_neg (by first | decide | simp)] at h'
            obtain rfl := Option.some.inj h'
            exact .inl hf
           ·obtain ⟨rfl, rfl⟩ := Prod.mk.inj e
            rw [cmp_cutI (by omega), if_neg (by first | decide | simp)] at h'
            obtain rfl := Option.some.inj h'
            exact .inr (.inl ⟨rfl, by rw [add_at]; exact h5⟩)
           ·have ha2 := h5.add (op := 13) (a := placeOf s2' x') (m := 0) (t := (compares L s1').1) (kids := [x', y']) (gy'.1.len (gx.1.len hl)) (gy.1.len (gx.1.len hl)) (by
             simp only [deepest_two] at h6 ⊢
             rw [deep_gr (gs.trans gy.1) (gx.1.len hl) gx.2, deep_gr (gs'.trans gy'.1) (gx.1.len hl) gx.2]
             omega) he
            rw [ha2.1.cmp, if_neg (by first | decide | simp)] at h'
            obtain rfl := Option.some.inj h'
            exact .inr (.inr ha2)
      rcases sumE_cut hc hg hg' hend m0 _ _ _ h0 hl ha hx hin.1 hx' with hf | ⟨e, h3⟩ | ⟨h3, h4⟩
      ·simp only at hf
       rw [bad_cmp hf.ne, if_pos (by first | trivial | rfl)] at h'
       obtain rfl := Option.some.inj h'
       exact .inl hf
      ·obtain ⟨e1, e2⟩ := Prod.mk.inj e
       simp only at h3
       rcases Nat.lt_or_ge (s1.at_ + 1) n with h4 | h4
       ·exact go e1 e2 h3 (cmp_cut h4)
       ·rcases cmp_last (L := L) (n := n) (s := s1) hin.1 (by omega) with h5 | h5 | h5
        ·exact go e1 e2 h3 h5
        ·exact stop (e1 ▸ h5) (by rw [e1, e2]; exact hin.2)
        ·rw [e1, h5] at h'
         rw [if_neg (by first | decide | simp)] at h'
         split at h'
         ·cases h'
         ·rename_i s2' y' hy'
          have hf := sum_end hg' m0 _ _ (show (stepP s1 1).e = 0 from hin.1) (by show s1.at_ + 1 = n; omega) hy'
          simp only at hf
          rw [bad_add hf.ne] at h'
          simp only at h'
          rw [bad_cmp hf.ne, if_neg (by first | decide | simp)] at h'
          obtain rfl := Option.some.inj h'
          exact .inl hf
      ·exact stop h3 (by simp only at h4; omega)
  ·exact .inl (not_end hg' m0 (m + 1) _ _ h0 (by omega) h')
theorem orE_cut (hc : CutE L n ex ex') (hg : GdE L.length ex) (hg' : GdE (L.take n).length ex') (hend : EndE (L.take n) n ex') (m : Nat) : CutE L n (orE ex L m) (orE ex' (L.take n) m) :=
 partsE_cut (partsE_cut (notE_cut hc hg hg' hend m m) (fun s r h => notE_gd hg m m s r h) (fun s r h => notE_gd hg' m m s r h) (no_not (by decide))) (andE_gd hg m) (andE_gd hg' m) (no_not (by decide))
end
end
section
set_option linter.unusedVariables false
set_option linter.unusedSimpArgs false
section
variable {L : List TokD} {n : Nat} {ex ex' : Ex} {s : PS}
theorem parT_bad {m : Nat} {out : List Int} {late : Bool} {a : PS × Int} (h : a.1.e ≠ 0) : parT ex L m out late a = some (a.1, out ++ [a.2]) := by
 unfold parT
 rw [bad_take h, if_neg (by first | decide | simp), bad_need h]
theorem parT_pos (hg : GdE L.length ex) {m : Nat} {out : List Int} {late : Bool} {a : PS × Int} {r : PS × List Int} (h : parT ex L m out late a = some r) (hi : ∀ k ∈ out ++ [a.2], In a.1 k) (he : r.1.e = 0) : a.1.e = 0 := by
 unfold parT at h
 have gt := take_gr (L := L) (s := a.1) gComma
 split at h
 ·exact gt.pos ((paramsE_gl hg m _ _ _ _ (in_all hi gt) h).1.pos he)
 ·obtain rfl := Option.some.inj h
  exact gt.pos ((need_gr (L := L) gColon).pos he)
theorem fold_gr {N : Nat} {d : Int} {s1 : PS} (g : Gr N d s s1) (hl : s.dp.length = s.ns.length) : ∀ {ks : List Int}, (∀ k ∈ ks, In s k) → ∀ m : Int, ks.foldl (fun m k => max m (deepOf s1 k)) m = ks.foldl (fun m k => max m (deepOf s k)) m
 | [], h, m => rfl
 | k :: ks, h, m => by
  simp only [List.foldl_cons, deep_gr g hl (h k (.head _))]
  exact fold_gr g hl (fun k hk => h k (.tail _ hk)) _
end
def ParC (L : List TokD) (n : Nat) (ex ex' : Ex) (m : Nat) : Prop := ∀ (s : PS) (out : List Int) (late : Bool) (r r' : PS × List Int),
  s.e = 0 → s.dp.length = s.ns.length → s.at_ ≤ n → (∀ k ∈ out, In s k) → paramsE ex L m s out late = some r → r.1.e = 0 → paramsE ex' (L.take n) m s out late = some r' → Cl L n r r'
section
variable {L : List TokD} {n : Nat} {ex ex' : Ex} {s : PS}
theorem parT_cut {m : Nat} (hm : ParC L n ex ex' m) {out : List Int} {late : Bool} {a a' : PS × Int} {r r' : PS × List Int} (h : parT ex L m out late a = some r) (he : r.1.e = 0) (hea : a.1.e = 0) (hl : a.1.dp.length = a.1.ns.length) (hi : ∀ k ∈ out ++ [a.2], In a.1 k)
  (hc : Cu L n a a') (h' : parT ex' (L.take n) m out late a' = some r') : Cl L n r r' := by
 rcases hc with hf | ⟨rfl, h3⟩ | ⟨h3, _⟩
 ·rw [parT_bad hf.ne] at h'
  obtain rfl := Option.some.inj h'
  exact .inl hf
 ·unfold parT at h h'
  rw [take_cut h3] at h'
  split at h
  ·rename_i hy
   rw [if_pos hy] at h'
   have hst := take_step hy
   rw [hst.1] at h h'
   exact hm _ _ _ _ _ (show (stepP a'.1 1).e = 0 from hea) hl (by show a'.1.at_ + 1 ≤ n; omega) (in_all (L := L) hi (step_gr (k := 1) hst.2.1 (by omega))) h he h'
  ·rename_i hy
   rw [if_neg hy] at h'
   rw [take_no (Bool.eq_false_iff.2 hy)] at h h'
   obtain rfl := Option.some.inj h
   rw [need_cut h3] at h'
   obtain rfl := Option.some.inj h'
   exact .inr ⟨rfl, by simp only; rw [need_ok he]; show a'.1.at_ + 1 ≤ n; omega⟩
 ·unfold parT at h'
  rw [h3.take (by decide), if_neg (by first | decide | simp)] at h'
  obtain rfl := Option.some.inj h'
  exact .inl (h3.need (by decide))
theorem paramsE_cut (hc : CutE L n ex ex') (hg : GdE L.length ex) (hg' : GdE (L.take n).length ex') (hend : EndE (L.take n) n ex') : ∀ m : Nat, ParC L n ex ex' m
 | 0 => fun s out late r r' h0 hl ha hk h he h' => by cases h
 | m + 1 => by
  intro s out late r r' h0 hl ha hk h he h'
  have hm := paramsE_cut hc hg hg' hend m
  rw [paramsE_eq m out late h0] at h h'
  rcases Nat.lt_or_ge s.at_ n with hlt | hge
  ·rw [is_cut (b := 0) hlt] at h'
   split at h
   ·rename_i hcc
    rw [if_pos hcc] at h'
    obtain rfl := Option.some.inj h
    obtain rfl := Option.some.inj h'
    exact .inr ⟨rfl, by show s.at_ + 1 ≤ n; omega⟩
   ·rename_i hcc
    rw [if_neg hcc] at h'
    unfold parG at h h'
    rw [name_cut hlt, tok_cut (b := 0) hlt] at h'
    have gn := name_gr (L := L) (s := s)
    have gq := take_gr (L := L) (s := (nameP L s).1) gEq
    -- the name is one
    have en : (nameP L s).1.e = 0 := by
     refine gq.pos ?_
     split at h
     ·split at h
      ·cases h
      ·rename_i s1 x hx
       have gx := hg _ _ hx
       exact gx.1.pos (add_lim (parT_pos hg h (in_snoc (in_all (L := L) hk (((gn.trans gq).trans gx.1).trans (add_gr ..))) (add_in ..)) he)).1
     ·have gf : Gr L.length 0 (takeP L gEq (nameP L s).1).1 (if late = true then failP (takeP L gEq (nameP L s).1).1 30 s.at_ else (takeP L gEq (nameP L s).1).1) := by
       split
       ·exact fail_gr (.inl rfl) rfl fun hh => by have := gn.up; have := gq.up; omega
       ·exact Gr.refl _ _
      exact gf.pos (add_lim (parT_pos hg h (in_snoc (in_all (L := L) hk (((gn.trans gq).trans gf).trans (add_gr ..))) (add_in ..)) he)).1
    have hn := name_ok en
    rw [hn.2.1] at h h' gq gn
    have hls : (stepP s 1).dp.length = (stepP s 1).ns.length := hl
    rcases Nat.lt_or_ge (s.at_ + 1) n with hlt1 | hge1
    ·rw [take_cut (show (stepP s 1).at_ < n from hlt1)] at h'
     split at h
     ·rename_i ht
      rw [if_pos ht] at h'
      have hst := take_step ht
      split at h
      ·cases h
      ·rename_i s1 x hx
       split at h'
       ·cases h'
       ·rename_i s1' x' hx'
        have gx := hg _ _ hx
        have gx' := hg' _ _ hx'
        have hin := in_snoc (in_all (L := L) hk (((gn.trans gq).trans gx.1).trans (add_gr (L := L) 22 (tokP L s 0).at_ (nameP L s).2 0 [x]))) (add_in 22 (tokP L s 0).at_ (nameP L s).2 0 [x])
        have ea := parT_pos hg h hin he
        have hl1 := ((gn.trans gq).trans gx.1).len hl
        refine parT_cut hm h he ea ((add_gr (L := L) ..).len hl1) hin ?_ h'
        rcases hc _ _ _ (by rw [hst.1]; exact h0) (by rw [hst.1]; exact hl) (by rw [hst.1]; show s.at_ + 1 + 1 ≤ n; omega) hx (add_lim ea).1 hx' with hf | ⟨e, h3⟩ | ⟨h3, h4⟩
        ·simp only at hf
         exact .inl (by rw [bad_add hf.ne]; exact hf)
        ·obtain ⟨rfl, rfl⟩ := Prod.mk.inj e
         exact .inr (.inl ⟨rfl, by rw [add_at]; exact h3⟩)
        ·refine .inr (.inr (h3.add (gx'.1.len (by rw [hst.1]; exact hl)) hl1 (by simp only [deepest_one] at h4 ⊢; omega) ea))
     ·rename_i ht
      rw [if_neg ht] at h'
      rw [take_no (Bool.eq_false_iff.2 ht)] at h h' gq
      have hlate : late = false := by
       cases late with
       | false => rfl
       | true =>
        exfalso
        have hbad : (failP (stepP s 1) 30 s.at_).e ≠ 0 := fail_bad _ _ (by decide)
        rw [if_pos (by first | trivial | rfl), parT_bad (by rw [bad_add hbad]; exact hbad), bad_add hbad] at h
        obtain rfl := Option.some.inj h
        exact hbad he
      subst hlate
      rw [if_neg (by first | decide | simp)] at h h'
      have hin := in_snoc (in_all (L := L) hk (gn.trans (add_gr (L := L) 22 (tokP L s 0).at_ (nameP L s).2 0 []))) (add_in 22 (tokP L s 0).at_ (nameP L s).2 0 [])
      have ea := parT_pos hg h hin he
      exact parT_cut hm h he ea ((add_gr (L := L) ..).len hl) hin (.inr (.inl ⟨rfl, by rw [add_at]; exact hlt1⟩)) h'
    ·rw [take_none (s := stepP s 1) (is_cut0 (by show n ≤ s.at_ + 1 + 0; omega) _), if_neg (by first | decide | simp)] at h'
     have hstp : Stp (L.take n) n (stepP s 1) := Stp.end_ h0 (by show s.at_ + 1 = n; omega)
     cases late with
     | true =>
      rw [if_pos (by first | trivial | rfl)] at h'
      have hf : Fl (L.take n) n (failP (stepP s 1) 30 s.at_) := by
       unfold failP
       rw [if_pos (show (stepP s 1).e = 0 from h0)]
       refine ⟨rfl, .inr ⟨by show (s.at_ : Int) + 1 = n; omega, tokP L s 0, ?_, hn.2.2⟩⟩
       have h4 := tokP_in (b := 0) (show (tokP L s 0).k ≠ 0 by rw [hn.2.2]; decide)
       rw [show n - 1 = s.at_ + 0 from by omega, List.getElem?_take, if_pos (by omega), List.getElem?_eq_getElem h4.2]
       unfold tokP
       rw [if_neg (fun e => e h4.1), List.getElem?_eq_getElem h4.2]
       rfl
      rw [parT_bad (by rw [bad_add hf.ne]; exact hf.ne), bad_add hf.ne] at h'
      obtain rfl := Option.some.inj h'
      exact .inl hf
     | false =>
      rw [if_neg (by first | decide | simp)] at h'
      have ea := add_new (s := stepP s 1) h0 hl (op := 22) (a := (tokP L s 0).at_) (m := 0) (t := (nameP L s).2) (kids := []) (show (0 : Int) < 40 by decide)
      have h5 : Stp (L.take n) n (addP (stepP s 1) 22 (tokP L s 0).at_ (nameP L s).2 0 []).1 := Stp.end_ ea.1 (by rw [ea.2.1]; show s.at_ + 1 = n; omega)
      unfold parT at h'
      rw [h5.take (by decide), if_neg (by first | decide | simp)] at h'
      obtain rfl := Option.some.inj h'
      exact .inl (h5.need (by decide))
  ·rw [if_neg (by rintro ⟨_, h⟩; rw [is_cut0 (by omega)] at h; cases h)] at h'
   unfold parG at h'
   have hf := Stp.name (L := L) (n := n) (s := s) h0 (by omega)
   rw [bad_take hf.ne, if_neg (by first | decide | simp)] at h'
   have hfe : failP (nameP (L.take n) s).1 30 s.at_ = (nameP (L.take n) s).1 := by
    unfold failP
    rw [if_neg hf.ne]
   simp only [hfe, ite_self] at h'
   rw [parT_bad (by rw [bad_add hf.ne]; exact hf.ne), bad_add hf.ne] at h'
   obtain rfl := Option.some.inj h'
   exact .inl hf
theorem exprB_cut (hc : CutE L n ex ex') (hg : GdE L.length ex) (hg' : GdE (L.take n).length ex') (hend : EndE (L.take n) n ex') (m : Nat) : CutE L n (exprB ex L m) (exprB ex' (L.take n) m) := by
 intro s r r' h0 hl ha h he h'
 rcases Nat.lt_or_ge s.at_ n with hlt | hge
 ·unfold exprB at h h'
  simp only [tok_cut (L := L) (s := s) (b := 0) (n := n) hlt] at h h'
  rw [take_cut hlt] at h'
  split at h
  ·rename_i ht
   rw [if_pos ht] at h'
   have hst := take_step ht
   rw [hst.1] at h h'
   have ha1 : (stepP s 1).at_ ≤ n := by show s.at_ + 1 ≤ n; omega
   split at h
   ·cases h
   ·rename_i s1 kids hk
    split at h'
    ·cases h'
    ·rename_i s1' kids' hk'
     split at h
     ·cases h
     ·rename_i s2 x hx
      split at h'
      ·cases h'
      ·rename_i s2' x' hx'
       obtain rfl := Option.some.inj h
       obtain rfl := Option.some.inj h'
       have gk := paramsE_gl hg m _ _ _ _ (fun k hk => by cases hk) hk
       have gk' := paramsE_gl hg' m _ _ _ _ (fun k hk => by cases hk) hk'
       have gx := hg _ _ hx
       have gx' := hg' _ _ hx'
       have e2 := (add_lim he).1
       have e1 := gx.1.pos e2
       rcases paramsE_cut hc hg hg' hend m _ _ _ _ _ (show (stepP s 1).e = 0 from h0) hl ha1 (fun k hk => by cases hk) hk e1 hk' with hf | ⟨e, h3⟩
       ·have := gx'.1.bad hf.ne
        simp only at this hf
        subst this
        exact .inl (by rw [bad_add hf.ne]; exact hf)
       ·obtain ⟨rfl, rfl⟩ := Prod.mk.inj e
        rcases hc _ _ _ e1 (gk.1.len hl) h3 hx e2 hx' with hf | ⟨e, h4⟩ | ⟨h4, h5⟩
        ·simp only at hf
         exact .inl (by rw [bad_add hf.ne]; exact hf)
        ·obtain ⟨rfl, rfl⟩ := Prod.mk.inj e
         exact .inr (.inl ⟨rfl, by rw [add_at]; exact h4⟩)
        ·refine .inr (.inr (h4.add (gx'.1.len (gk.1.len hl)) (gx.1.len (gk.1.len hl)) ?_ he))
         simp only [deepest_app] at h5 ⊢
         have hl1 : s1'.dp.length = s1'.ns.length := gk.1.len hl
         have k1 : deepest s2 kids' = deepest s1' kids' := by
          unfold deepest
          exact fold_gr gx.1 hl1 gk.2 0
         have k2 : deepest s2' kids' = deepest s1' kids' := by
          unfold deepest
          exact fold_gr gx'.1 hl1 gk.2 0
         rw [k1, k2]
         omega
  ·rename_i ht
   rw [if_neg ht] at h'
   rw [take_no (Bool.eq_false_iff.2 ht)] at h h'
   split at h
   ·cases h
   ·rename_i s1 x hx
    split at h'
    ·cases h'
    ·rename_i s1' x' hx'
     have gx := orE_gd hg m _ _ hx
     have gx' := orE_gd hg' m _ _ hx'
     have hin : s1.e = 0 ∧ deepOf s1 x ≤ deepOf r.1 r.2 := by
      split at h
      ·rename_i hp
       have hst := take_step hp
       split at h
       ·cases h
       ·rename_i s2 y hy
        split at h
        ·cases h
        ·rename_i s3 z hz
         obtain rfl := Option.some.inj h
         have gs := take_gr (L := L) (s := s1) kIf
         have gy := (orE_gd hg m _ _ hy).1
         have gn := need_gr (L := L) (s := s2) kElse
         have gz := (hg _ _ hz).1
         have gg := gs.trans (gy.trans (gn.trans gz))
         have := add_deep (x := x) (gg.len (gx.1.len hl)) he (by simp)
         rw [deep_gr gg (gx.1.len hl) gx.2] at this
         exact ⟨hst.2.1, this⟩
      ·rename_i hp
       rw [take_no (Bool.eq_false_iff.2 hp)] at h
       obtain rfl := Option.some.inj h
       exact ⟨he, Int.le_refl _⟩
     rcases orE_cut hc hg hg' hend m _ _ _ h0 hl ha hx hin.1 hx' with hf | ⟨e, h3⟩ | ⟨h3, h4⟩
     ·simp only at hf
      rw [bad_take hf.ne, if_neg (by first | decide | simp)] at h'
      obtain rfl := Option.some.inj h'
      exact .inl hf
     ·obtain ⟨rfl, rfl⟩ := Prod.mk.inj e
      simp only at h3
      rw [take_cut h3] at h'
      split at h
      ·rename_i hp
       rw [if_pos hp] at h'
       have hst := take_step hp
       have gs := take_gr (L := L) (s := s1') kIf
       rw [hst.1] at h h' gs
       split at h
       ·cases h
       ·rename_i s2 y hy
        split at h'
        ·cases h'
        ·rename_i s2' y' hy'
         split at h
         ·cases h
         ·rename_i s3 z hz
          split at h'
          ·cases h'
          ·rename_i s3' z' hz'
           obtain rfl := Option.some.inj h
           obtain rfl := Option.some.inj h'
           have gy := orE_gd hg m _ _ hy
           have gn := need_gr (L := L) (s := s2) kElse
           have gz := hg _ _ hz
           have gz' := hg' _ _ hz'
           have e3 := (add_lim he).1
           have en := gz.1.pos e3
           have bad : Fl (L.take n) n (needP (L.take n) kElse s2') → Cu L n (addP s3 16 (placeOf s3 x') ⟨#[]⟩ 0 [x', y, z]) (addP s3' 16 (placeOf s3' x') ⟨#[]⟩ 0 [x', y', z']) := fun hf => by
            have := gz'.1.bad hf.ne
            simp only at this
            rw [this]
            exact .inl (by rw [bad_add hf.ne]; exact hf)
           rcases orE_cut hc hg hg' hend m _ _ _ (show (stepP s1' 1).e = 0 from hst.2.1) (gx.1.len hl) (by show s1'.at_ + 1 ≤ n; omega) hy (gn.pos en) hy' with hf | ⟨e, h5⟩ | ⟨h5, h6⟩
           ·simp only at hf
            exact bad (by rw [bad_need hf.ne]; exact hf)
           ·obtain ⟨rfl, rfl⟩ := Prod.mk.inj e
            simp only at h5
            have hne := need_ok en
            rw [need_cut h5] at hz'
            have gz' := hg' _ _ hz'
            have hl2 : (needP L kElse s2').dp.length = (needP L kElse s2').ns.length := gn.len (gy.1.len (gx.1.len hl))
            have gg := gs.trans (gy.1.trans gn)
            rcases hc _ _ _ en hl2 (by rw [hne]; show s2'.at_ + 1 ≤ n; omega) hz e3 hz' with hf | ⟨e, h6⟩ | ⟨h6, h7⟩
            ·simp only at hf
             exact .inl (by rw [bad_add hf.ne]; exact hf)
            ·obtain ⟨rfl, rfl⟩ := Prod.mk.inj e
             exact .inr (.inl ⟨rfl, by rw [add_at]; exact h6⟩)
            ·refine .inr (.inr (h6.add (gz'.1.len hl2) (gz.1.len hl2) ?_ he))
             simp only [deepest_three] at h7 ⊢
             have ix := gx.2.mono gg
             have iy := gy.2.mono gn
             rw [deep_gr gz.1 hl2 ix, deep_gr gz'.1 hl2 ix, deep_gr gz.1 hl2 iy, deep_gr gz'.1 hl2 iy]
             omega
           ·exact bad (h5.need (by decide))
      ·rename_i hp
       rw [if_neg hp] at h'
       rw [take_no (Bool.eq_false_iff.2 hp)] at h h'
       obtain rfl := Option.some.inj h
       obtain rfl := Option.some.inj h'
       exact .inr (.inl ⟨rfl, h3⟩)
     ·simp only at h3 h4
      rw [h3.take (by decide), if_neg (by first | decide | simp)] at h'
      obtain rfl := Option.some.inj h'
      exact .inr (.inr ⟨h3, by simp only; omega⟩)
 ·exact .inl (expr_end hg' m _ _ h0 (by omega) h')
end
theorem exprE_cut (L : List TokD) (n : Nat) : ∀ m, CutE L n (exprE L m) (exprE (L.take n) m)
 | 0 => fun s r r' h0 hl ha h he h' => by cases h
 | m + 1 => exprB_cut (exprE_cut L n m) (exprE_gd L m) (exprE_gd _ m) (ends_all L n m) m
theorem cut_parse {L : List TokD} {n m : Nat} {r r' : PS × Int} (hL : L[0]?.map (fun t => (t.k, t.s)) = some (4, gLp)) (h : exprE L m startS = some r) (he : r.1.e = 0) (hfull : ∀ q ex m', GdE L.length ex → (∃ j, ex = exprE L j) → atomE ex L m' startS = some q → q.1.e = 0 → q.1.at_ = L.length) (hn : n < L.length) (h' : exprE (L.take n) m startS = some r') : Fl (L.take n) n r'.1 := by
 cases m with
 | zero => cases h
 | succ m =>
  rcases Nat.eq_zero_or_pos n with rfl | hpos
  ·exact expr_end (exprE_gd _ m) m _ _ rfl rfl h'
  ·have htok : tokP L startS 0 = (L[0]?).getD zeroT := by
    unfold tokP
    rw [if_neg (fun e => e rfl)]
    rfl
   have hks : (tokP L startS 0).k = 4 ∧ (tokP L startS 0).s = gLp := by
    rw [htok]
    cases hx : L[0]? with
    | none => rw [hx] at hL; cases hL
    | some t =>
     rw [hx] at hL
     have := Option.some.inj hL
     exact ⟨congrArg Prod.fst this, congrArg Prod.snd this⟩
   have no : ∀ t, t ≠ gLp → isP L startS t 0 = false := fun t ht => is_not ht hks.2
   have no' : ∀ t, t ≠ gLp → isP (L.take n) startS t 0 = false := fun t ht => by rw [is_cut (by show 0 + 0 < n; omega)]; exact no t ht
   obtain ⟨q, h1, h2⟩ := expr_first (exprE_gd L m) (no _ (by decide)) (no _ (by decide)) (no _ (by decide)) h
   obtain ⟨q', h1', h2'⟩ := expr_first (exprE_gd (L.take n) m) (no' _ (by decide)) (no' _ (by decide)) (no' _ (by decide)) h'
   have eq : q.1.e = 0 := Decidable.byContradiction fun e => e (by rw [← h2 e]; exact he)
   rcases atomE_cut (s := startS) (exprE_cut L n m) (exprE_gd L m) (exprE_gd _ m) (ends_all L n m) rfl rfl (Nat.zero_le _) h1 eq h1' with hf | ⟨e, h3⟩
   ·rw [h2' hf.ne]
    exact hf
   ·have := hfull q _ m (exprE_gd L m) ⟨m, rfl⟩ h1 eq
    omega
end
section
set_option linter.unusedVariables false
set_option linter.unusedSimpArgs false
theorem inside_plain {e : Tr} (h : Good e) (hd : Tr.dep e ≤ 40) {m : Nat} {q : PS × Int} (hq : exprE (insideT (Tr.toks e)) m startS = some q) :
  q = (⟨(insideT (Tr.toks e)).length, 0, 0, Tr.flat 0 e, Tr.deps e⟩, (Tr.size e : Int) - 1) := by
 obtain ⟨hx, hb⟩ := good_all (insideT (Tr.toks e)) h hd
 have h1 := inside_expr (s := startS) (m := m) hx hb rfl rfl ⟨[], by simp [startS]⟩ (by
  unfold nx
  rw [List.getElem?_eq_none (by simp [startS])]
  rfl) q hq
 rw [h1]
 refine Prod.ext ?_ ?_
 ·simp [built, startS, Tr.flats, Tr.depss]
 ·simp [topOf, startS]
theorem cuts_plain {e : Tr} (h : Good e) (hd : Tr.dep e ≤ 40) {n m : Nat} (hn : n < (insideT (Tr.toks e)).length) (hm : (insideT (Tr.toks e)).length + 3 ≤ m) {q : PS × Int} (hq : exprE ((insideT (Tr.toks e)).take n) m startS = some q) : Fl ((insideT (Tr.toks e)).take n) n q.1 := by
 obtain ⟨hx, hb⟩ := good_all (insideT (Tr.toks e)) h hd
 obtain ⟨r, hr⟩ := exprE_tot (insideT (Tr.toks e)) m startS (Nat.zero_le _) (by unfold rem startS; simp only [ne_eq, not_true_eq_false, if_false]; omega)
 have h1 := inside_plain h hd hr
 refine cut_parse rfl hr (by rw [h1]) ?_ hn hq
 rintro p ex m' _ ⟨j, rfl⟩ hp _
 have := inside_atom (s := startS) hx hb rfl rfl ⟨[], by simp [startS]⟩ p hp
 rw [this]
 simp [built, startS]
end
section
open Go.RowKit
set_option linter.unusedVariables false
set_option linter.unusedSimpArgs false
theorem told_isF {w : World} {A : Option Addr} {n c k : Nat} {L : List TokD} {r : PS × Int} {a b e : Int} {T : List NodeD} {m : Nat} (hm : T.length = m) (hr : exprE L k startS = some r) (ha : nodeOf r = a) (hb : usedOf r = b) (he : r.1.e = e) (hT : treeOf r.1.ns = T) (hl : Rd w A n c 4 (L.flatMap tcs)) (hla : ∀ b o, A = some ⟨b, o, none⟩ → b < w.heap.size) (hn : L.length = n) (hbig : n ≤ 274877906944)
  (hts : ∀ t ∈ L, t.s.size ≤ maxLen) (htab : Asp w) :
  Calls Tryd.prog 16 #[.slice A n c] w fun e' w' => ∃ A9 c9, e' = .returned (.agg #[.int .i64 a, .int .i64 b, .int .i64 e, .slice A9 m c9]) ∧ RowN (fun _ => False) w' (.slice A9 m c9) T ∧ Below w.heap.size w w' := by
 subst ha hb he hT hm
 refine (told_fuel hl hla hn hbig hts htab hr).mono ?_
 rintro e' w' ⟨v, rfl, h1, h2⟩
 obtain ⟨A9, c9, rfl, _⟩ := h1.rdT
 exact ⟨A9, c9, rfl, h1, h2⟩
theorem good_inside {e : Tr} (h : Good e) (hd : Tr.dep e ≤ 12) :
  ∃ r, parsed (insideT (Tr.toks e)) = some r ∧ nodeOf r = (Tr.size e : Int) - 1 ∧ usedOf r = ((insideT (Tr.toks e)).length : Int) ∧ r.1.e = 0 ∧ treeOf r.1.ns = Tr.flat 0 e := by
 obtain ⟨r, hp⟩ := exprE_start (insideT (Tr.toks e))
 have h1 := inside_plain h (by omega) hp
 refine ⟨r, hp, ?_⟩
 subst h1
 exact ⟨by simp [nodeOf], by simp [usedOf], rfl, good_tree h hd⟩
theorem good_cut {e : Tr} (h : Good e) (hd : Tr.dep e ≤ 12) {n : Nat} (hn : n < (insideT (Tr.toks e)).length) :
  ∃ (m : Nat) (r : PS × Int), exprE ((insideT (Tr.toks e)).take n) m startS = some r ∧ nodeOf r = -1 ∧ r.1.e = 30 ∧ (usedOf r = (n : Int) ∨ (usedOf r = (n : Int) - 1 ∧ 0 < n ∧ ∃ t, (insideT (Tr.toks e))[n - 1]? = some t ∧ t.k = 1)) := by
 obtain ⟨r, hr⟩ := exprE_tot ((insideT (Tr.toks e)).take n) ((insideT (Tr.toks e)).length + 3) startS (Nat.zero_le _) (by unfold rem startS; simp only [ne_eq, not_true_eq_false, if_false, List.length_take]; omega)
 obtain ⟨h1, h2⟩ := cuts_plain h (by omega) hn (Nat.le_refl _) hr
 refine ⟨_, r, hr, by unfold nodeOf; rw [if_pos (by rw [h1]; decide)], h1, ?_⟩
 have hu : usedOf r = r.1.bad := by unfold usedOf; rw [if_pos (by rw [h1]; decide)]
 rw [hu]
 rcases h2 with h2 | ⟨h2, t, h3, h4⟩
 ·exact .inl h2
 ·refine .inr ⟨by omega, ?_, t, ?_, h4⟩
  ·rcases Nat.eq_zero_or_pos n with h5 | h5
   ·subst h5; simp at h3
   ·exact h5
  ·rw [List.getElem?_take] at h3
   split at h3
   ·exact h3
   ·cases h3
end
section
open Go.RowKit
set_option linter.unusedVariables false
set_option linter.unusedSimpArgs false
theorem toks_drop : ∀ (L : List TokD) (k : Nat), (L.flatMap tcs).take (k * 4) = (L.take k).flatMap tcs
 | [], k => by simp
 | t :: L, 0 => by simp
 | t :: L, k + 1 => by
  have h4 : (tcs t).length = 4 := rfl
  rw [List.flatMap_cons, List.take_succ_cons, List.take_append, h4, List.take_of_length_le (by omega), show (k + 1) * 4 - 4 = k * 4 from by omega, toks_drop L k, List.flatMap_cons]
theorem toks_len : ∀ (L : List TokD), (L.flatMap tcs).length = L.length * 4
 | [] => rfl
 | t :: L => by
  have h4 : (tcs t).length = 4 := rfl
  rw [List.flatMap_cons, List.length_append, toks_len L, List.length_cons, h4]
  omega
theorem Rd.firstT {w : World} {A : Option Addr} {n c m : Nat} {L : List TokD} (h : Rd w A n c 4 (L.flatMap tcs)) (hn : L.length = n) (hm : m ≤ n) : Rd w A m c 4 ((L.take m).flatMap tcs) := by
 obtain ⟨h1, h2, h3, h4⟩ := h
 refine ⟨by omega, by omega, by rw [toks_len, List.length_take, hn, Nat.min_eq_left hm], fun hm0 => ?_⟩
 obtain ⟨b, o, e, hb, hc⟩ := h4 (by omega)
 refine ⟨b, o, e, hb, fun j u hj => hc j u ?_⟩
 rw [← toks_drop, List.getElem?_take] at hj
 split at hj
 ·exact hj
 ·cases hj
theorem cuts_walk {w : World} {A : Option Addr} {n c b : Nat} {S : List Int} (hrd : Rd w A n c 1 (ics S)) (hl : S.length = n) (hsr : ∀ x ∈ S, -9223372036854775808 ≤ x ∧ x ≤ 9223372036854775807) (hA : ∀ b o, A = some ⟨b, o, none⟩ → b < w.heap.size) {a : Nat} (hb : b < 256) (ha : a < 65536) (htab : Asp w) : Calls Tryd.prog 5 #[.slice A n c, .int .u8 b, .int .u16 a] w fun e w' => e = .returned (.bool true) ∧ Below w.heap.size w w' := by
 have HT := qh htab
 have HRD := qh hrd
 have HSL := qh hl
 have HSR := qh hsr
 have HA := qh hA
 clear htab hrd hl hsr hA
 go_enter Tryd.func5, Tryd.ntmps5
 go_upto_region 2 with (go_at_call 14; go_must (refine (shown_any _ HT.out).mono ?_); rintro e w1 ⟨rfl, hb⟩; have HB : Hid (Below w.heap.size w w1) := qh hb; clear hb)
 go_upto_region 3 with (go_at_call 15; go_must (refine (one_any (HRD.out.bel HB.out) HSL.out HSR.out (fun b o e => Nat.lt_of_lt_of_le (HA.out b o e) HB.out.size) hb).mono ?_); rintro e w2 ⟨A1, A2, c1, c2, r1, r2, rfl, hb2, hone⟩; have HO := qh hone; have HB2 := qh (HB.out.trans (below_low hb2 HB.out.size)); have HS1 := qh HB.out.size; clear hb2 hone)
 by_cases h0 : r1 = 0
 ·subst h0
  go_wp2_with fail
  go_ret
  exact ⟨rfl, HB2.out⟩
 have h0b : ((r1 : Int) == 0) = false := by simp; omega
 obtain ⟨t, hg, hd, hs, hl2, hrow, htz⟩ := HO.out h0
 have hlim := good_lim hg hd
 have hfl : (Tr.flat 0 t).length = r1 := by rw [flat_len]; exact hs
 have HG := qh hg
 have HD := qh hd
 have HS := qh hs
 have HL2 := qh hl2
 have HFL := qh hfl
 have HRW := qh hrow
 have HZ := qh (htz.less HS1.out)
 have hr1 : 0 < r1 ∧ r1 ≤ 2176782336 := by omega
 have hr2 : r2 ≤ 17414258688 := by omega
 have hws : IntKind.i64.wrap ((r1 : Int) - 1) = (r1 : Int) - 1 := IntWalk.i64_in _ (by omega)
 clear hg hd hs hl2 hrow htz hlim hfl HO HB HRD HSL HSR HA
 obtain ⟨r, hp, hN, hU, hE, hTt⟩ := good_inside HG.out HD.out
 have hil := insideT_len (Tr.toks t)
 rw [HL2.out] at hil
 have HIL := qh hil
 have HP := qh hp
 have HN : Hid (nodeOf r = (r1 : Int) - 1) := qh (by rw [hN, HS.out])
 have HU : Hid (usedOf r = ((r2 + 2 : Nat) : Int)) := qh (by rw [hU, hil])
 have HE := qh hE
 have HTt := qh hTt
 clear hp hN hU hE hTt hil
 go_upto_region 5 with fail
 have HBa := HB2
 have HB2 := qh (Below.refl w2.heap.size w2)
 go_upto_region 6 with (first | (have hmk := HB5.out; clear hmk; at_builtin; go_must (refine wpList_appendT _ rfl _ _ rfl (.slice A4 r4 c4) ([signT gLp] ++ (Tr.toks t)) rfl (HR5o.out.bel (bel_one _ _)).own _ 1 1 [signT gRp] rfl (Rd.toks _ [signT gRp] _ 1 rfl rfl (by omega)) rfl (by have := HL2.out; (try simp only [LL]); omega) ?_); intro v6 w6 ho hg hn; have hz6 := Tz.app (HR5o.out.bel (bel_one _ _)) ho hg hn (Nat.le_trans HB5.out.size (alloc_le _ _)); have HB6 := qh ((HB5.out.trans (below_low (bel_one _ _) HB5.out.size)).trans (grown_below hg (Nat.le_trans HB5.out.size (alloc_le _ _)) HR5o.out.new)); obtain ⟨r6, hr⟩ : ∃ r, (([signT gLp] ++ (Tr.toks t)) ++ [signT gRp]).length = r := ⟨_, rfl⟩; obtain ⟨A6, c6, e6, -, -⟩ := Own.rd ho; rw [hr] at e6; subst e6; have HL6 := qh hr; have HR6o := qh hz6; clear ho hg hn hz6 hr HB5) | (have hmk := HB4.out; clear hmk; go_at_call 21; go_must (refine (sign_any gRp _).mono ?_); rintro e w5 ⟨rfl, hb⟩; have HB5 := qh (HB4.out.trans (below_low hb HB4.out.size)); have HR5o := qh (HR4o.out.bel hb); clear hb HB4) | (have hmk := HB3.out; clear hmk; at_builtin; go_must (refine wpList_appendT _ rfl _ _ rfl (.slice (some ⟨w3.heap.size, 0, none⟩) 1 1) [signT gLp] rfl (qh (Tz.made w3 (signT gLp) HB3.out.size)).out.own A2 r2 c2 (Tr.toks t) rfl ((HR3x.out.bel (bel_one _ _)).own.rdm HL2.out) HL2.out (by simp only [List.length_cons, List.length_nil]; omega) ?_); intro v4 w4 ho hg hn; have hz4 := Tz.app (qh (Tz.made w3 (signT gLp) HB3.out.size)).out ho hg hn (Nat.le_trans HB3.out.size (alloc_le _ _)); have HB4 := qh ((HB3.out.trans (below_low (bel_one _ _) HB3.out.size)).trans (grown_below hg (Nat.le_trans HB3.out.size (alloc_le _ _)) (qh (Tz.made w3 (signT gLp) HB3.out.size)).out.new)); obtain ⟨r4, hr⟩ : ∃ r, ([signT gLp] ++ (Tr.toks t)).length = r := ⟨_, rfl⟩; obtain ⟨A4, c4, e4, -, -⟩ := Own.rd ho; rw [hr] at e4; subst e4; have HL4 := qh hr; have HR4o := qh hz4; clear ho hg hn hz4 hr HB3) | (have hmk := HB2.out; clear hmk; go_at_call 21; go_must (refine (sign_any gLp _).mono ?_); rintro e w3 ⟨rfl, hb⟩; have HB3 := qh (HB2.out.trans (below_low hb HB2.out.size)); have HR3x := qh (HZ.out.bel hb); clear hb HB2))
 have hI : (([signT gLp] ++ (Tr.toks t)) ++ [signT gRp]) = insideT (Tr.toks t) := by simp [insideT]
 have HI : Hid (Tz w2.heap.size w6 (.slice A6 r6 c6) (insideT (Tr.toks t))) := qh (by rw [← hI]; exact HR6o.out)
 have HLI : Hid ((insideT (Tr.toks t)).length = r6) := qh (by rw [← hI]; exact HL6.out)
 have hr6 : r6 = r2 + 2 := by rw [← HLI.out]; exact HIL.out
 have HRW6 := qh (HRW.out.belw HB6.out)
 have HBw := qh (HBa.out.trans (below_low HB6.out HBa.out.size))
 have HU6 : Hid (usedOf r = (r6 : Int)) := qh (by rw [HU.out, hr6])
 have hc6 : r6 ≤ c6 := (OwnT.rdm HI.out.own HLI.out).1
 have hr6b : 0 < r6 ∧ r6 ≤ 17414258690 := by omega
 clear hI HR6o HL6 HRW HB6 HBa HIL HU HZ HL2 hr6
 have h6b : ((r6 : Int) == 0) = false := by simp; omega
 obtain ⟨k, hk, hkt⟩ : ∃ k : Nat, k < r6 ∧ Int.tmod (a : Int) (r6 : Int) = (k : Int) := ⟨a % r6, Nat.mod_lt _ (by omega), by rw [Int.tmod_eq_emod_of_nonneg (by omega)]; omega⟩
 obtain ⟨fu, q, hq, hqn, hqe, hqu⟩ := good_cut HG.out HD.out (n := k) (by rw [HLI.out]; exact hk)
 obtain ⟨T2, hT2⟩ : ∃ T2, treeOf q.1.ns = T2 := ⟨_, rfl⟩
 obtain ⟨t2, ht2⟩ : ∃ t2, T2.length = t2 := ⟨_, rfl⟩
 obtain ⟨U, hU⟩ : ∃ U, usedOf q = U := ⟨_, rfl⟩
 rw [hU] at hqu
 have HQ := qh hq
 have HQN := qh hqn
 have HQE := qh hqe
 have HQU := qh hqu
 have HT2 := qh hT2
 have HT2L := qh ht2
 have HUU := qh hU
 clear hq hqn hqe hqu hT2 ht2 hU
 go_upto_region 7 with fail
 have hkc : k ≤ c6 := by omega
 go_upto_region 8 with (go_at_call 16; go_must (refine (told_isF (m := t2) HT2L.out HQ.out HQN.out HUU.out HQE.out HT2.out (Rd.firstT (OwnT.rdm HI.out.own HLI.out) HLI.out (Nat.le_of_lt hk)) (OwnT.old HI.out.own) (show ((insideT (Tr.toks t)).take k).length = k by rw [List.length_take, HLI.out]; omega) (by omega) (short_ok fun x hx => inside_all (P := Short) (show ByteArray.size _ ≤ 64 by decide) (show ByteArray.size _ ≤ 64 by decide) (good_short HG.out) x (List.mem_of_mem_take hx)) (HT.out.below HBw.out)).mono ?_); rintro e w7 ⟨A7, c7, rfl, hrn, hbn⟩; have HI7 := qh (HI.out.bel hbn); have HRW7 := qh (HRW6.out.belw hbn); have HB7 := qh (HBw.out.trans (below_low hbn HBw.out.size)); clear hrn hbn)
 have hk8 := Blk.new w7 31 #[.int .i64 (-1), .int .i64 U, .int .i64 30, .slice A7 t2 c7]
 have hbw8 := bel_one w7 (.cells #[.int .i64 (-1), .int .i64 U, .int .i64 30, .slice A7 t2 c7] 31)
 have HK8 := qh hk8
 have HI8 := qh (HI7.out.bel hbw8)
 have HRW8 := qh (HRW7.out.belw hbw8)
 have HB8 := qh (HB7.out.trans (below_low hbw8 HB7.out.size))
 clear hk8 hbw8
 generalize w7.alloc (.cells #[.int .i64 (-1), .int .i64 U, .int .i64 30, .slice A7 t2 c7] 31) = W8 at HK8 HI8 HRW8 HB8 ⊢
 generalize w7.heap.size = g8 at HK8 ⊢
 clear HI HI7 HRW6 HRW7 HBw HB7 HQ HQN HQE HT2 HT2L HUU
 go_upto_region 9 with (go_at_call 16; go_must (refine (told_is (m := r1) HFL.out HP.out HN.out HU6.out HE.out HTt.out (OwnT.rdm HI8.out.own HLI.out) (OwnT.old HI8.out.own) HLI.out (by omega) (short_ok (inside_all (P := Short) (show ByteArray.size _ ≤ 64 by decide) (show ByteArray.size _ ≤ 64 by decide) (good_short HG.out))) (HT.out.below HB8.out)).mono ?_); rintro e w9 ⟨A9, c9, rfl, hrn, hbn⟩; have HRN := qh hrn; have HI9 := qh (HI8.out.bel hbn); have HRW9 := qh (HRW8.out.belw hbn); have HK9 := qh (HK8.out.bel hbn); have HB9 := qh (HB8.out.trans (below_low hbn HB8.out.size)); clear hrn hbn)
 have hk5 := Blk.new w9 31 #[.int .i64 ((r1 : Int) - 1), .int .i64 (r6 : Int), .int .i64 0, .slice A9 r1 c9]
 have hbw5 := bel_one w9 (.cells #[.int .i64 ((r1 : Int) - 1), .int .i64 (r6 : Int), .int .i64 0, .slice A9 r1 c9] 31)
 have HK5 := qh hk5
 have HRN5 := qh (HRN.out.belw hbw5)
 have HI5 := qh (HI9.out.bel hbw5)
 have HRW5 := qh (HRW9.out.belw hbw5)
 have HKa := qh (HK9.out.bel hbw5)
 have HB5 := qh (HB9.out.trans (below_low hbw5 HB9.out.size))
 clear hk5 hbw5
 generalize w9.alloc (.cells #[.int .i64 ((r1 : Int) - 1), .int .i64 (r6 : Int), .int .i64 0, .slice A9 r1 c9] 31) = W5 at HK5 HRN5 HI5 HRW5 HKa HB5 ⊢
 generalize w9.heap.size = g5 at HK5 ⊢
 clear HI8 HI9 HRW8 HRW9 HB8 HB9 HP HN HU6 HE HTt HK8 HK9 HRN
 have y50 := HK5.out.cell 0
 have y51 := HK5.out.cell 1
 have y52 := HK5.out.cell 2
 have y53 := HK5.out.cell 3
 have l5 := HK5.out.lt
 simp only [GG] at y50 y51 y52 y53
 have y80 := HKa.out.cell 0
 have y81 := HKa.out.cell 1
 have y82 := HKa.out.cell 2
 have l8 := HKa.out.lt
 simp only [GG] at y80 y81 y82
 rcases HQU.out with hU | ⟨hU, hk0, tk, htk, htk1⟩
 ·subst hU
  have hwk : wrap64 ((k : Int) - 1) = (k : Int) - 1 := by unfold wrap64; omega
  have hne : ((k : Int) == (k : Int) - 1) = false := by simp; omega
  clear HQU
  go_wp2_with (first | (have hmk := HB9.out; clear hmk; go_at_call 17; go_must (refine (equal_same HQ9.out HW9.out.rdm HW9.out.kl).mono ?_); rintro e w10 ⟨rfl, hb⟩; have HB10 := qh (HB9.out.trans (below_low hb HB9.out.size)); clear hb) | (go_at_call 18; go_must (refine (bare_any HRN5.out (by omega) (tflat_at 0 t)).mono ?_); rintro e w9 ⟨A9b, c9b, rfl, hq, hb⟩; have HQ9 := qh hq; have HW9 := qh (HRW5.out.belw hb); have HB9 := qh (HB5.out.trans (below_low hb HB5.out.size)); clear hq hb))
  go_ret
  exact ⟨rfl, HB10.out⟩
 ·subst hU
  obtain ⟨j, hj⟩ : ∃ j, k = j + 1 := ⟨k - 1, by omega⟩
  rw [show k - 1 = j from by omega] at htk
  have hkj : (k : Int) - 1 = (j : Int) := by omega
  have hwk : wrap64 ((k : Int) - 1) = (j : Int) := by unfold wrap64; omega
  rw [hkj] at y81
  obtain ⟨bi, oi, rfl, hbi, p0, -, -, -⟩ := (OwnT.rdm HI5.out.own HLI.out).tok htk (by omega)
  rw [htk1] at p0
  have hjr : j < r6 := by omega
  have hd1 : decide ((0 : Int) < (k : Int)) = true := decide_eq_true (by omega)
  have hne : ((j : Int) == (k : Int)) = false := by simp; omega
  clear HQU htk
  go_wp2_with (first | (have hmk := HB9.out; clear hmk; go_at_call 17; go_must (refine (equal_same HQ9.out HW9.out.rdm HW9.out.kl).mono ?_); rintro e w10 ⟨rfl, hb⟩; have HB10 := qh (HB9.out.trans (below_low hb HB9.out.size)); clear hb) | (go_at_call 18; go_must (refine (bare_any HRN5.out (by omega) (tflat_at 0 t)).mono ?_); rintro e w9 ⟨A9b, c9b, rfl, hq, hb⟩; have HQ9 := qh hq; have HW9 := qh (HRW5.out.belw hb); have HB9 := qh (HB5.out.trans (below_low hb HB5.out.size)); clear hq hb))
  go_ret
  exact ⟨rfl, HB10.out⟩
theorem cuts_int {w : World} {A : Option Addr} {n c : Nat} {S : List Int} (b a : Int) (hb : (Lit.int .u8 b).wf = true) (ha : (Lit.int .u16 a).wf = true) (hrd : Rd w A n c 1 (ics S)) (hl : S.length = n) (hsr : ∀ x ∈ S, -9223372036854775808 ≤ x ∧ x ≤ 9223372036854775807) (hA : ∀ b o, A = some ⟨b, o, none⟩ → b < w.heap.size) (htab : Asp w) : Calls Tryd.prog 5 #[.slice A n c, .int .u8 b, .int .u16 a] w fun e w' => e = .returned (.bool true) ∧ Below w.heap.size w w' := by
 obtain ⟨k, rfl, hk⟩ := byte_of hb
 have h2 : (decide (0 ≤ a) && decide (a ≤ 65535)) = true := ha
 simp only [Bool.and_eq_true, decide_eq_true_eq] at h2
 obtain ⟨j, rfl⟩ : ∃ j : Nat, a = (j : Int) := ⟨a.toNat, by omega⟩
 exact cuts_walk hrd hl hsr hA hk (by omega) htab
end
end Go.Proofs.YtjdcicopjipmnaaDoor
