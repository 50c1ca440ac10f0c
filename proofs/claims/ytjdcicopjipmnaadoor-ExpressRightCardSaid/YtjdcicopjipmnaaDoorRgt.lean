/- What a parse that goes well has made: a right expression, each node but the last one a kid once. -/
import Derived.Test.YtjdcicopjipmnaaDoorPlc
namespace Go.Proofs.YtjdcicopjipmnaaDoor
set_option linter.unusedVariables false
set_option linter.unusedSimpArgs false
def kidsAll (ns : List NodeD) : List Int := ns.flatMap (·.kids)
def IsX (op : Int) : Prop := 1 ≤ op ∧ op ≤ 21
/-- the node is there, and its Op is such a one -/
def OpAt (p : NodeD → Prop) (ns : List NodeD) (x : Int) : Prop := ∃ (k : Nat) (nd : NodeD), x = k ∧ ns[k]? = some nd ∧ p nd
abbrev XAt (ns : List NodeD) (x : Int) : Prop := OpAt (fun nd => IsX nd.op) ns x
/-- parameters, those without a kid first; late: there was one with a kid -/
inductive ParOk (ns : List NodeD) : List Int → Bool → Prop
  | nil : ParOk ns [] false
  | some_ {out : List Int} {late : Bool} {k : Int} : ParOk ns out late → OpAt (fun nd => nd.op = 22 ∧ nd.kids ≠ []) ns k → ParOk ns (out ++ [k]) true
  | none_ {out : List Int} {k : Int} : ParOk ns out false → OpAt (fun nd => nd.op = 22 ∧ nd.kids = []) ns k → ParOk ns (out ++ [k]) false
def ShapeOk (ns : List NodeD) (op : Int) (kids : List Int) : Prop :=
  (1 ≤ op ∧ op ≤ 6 ∧ kids = []) ∨
  ((op = 7 ∨ op = 8) ∧ ∀ k ∈ kids, XAt ns k) ∨
  (op = 9 ∧ kids.length % 2 = 0 ∧ ∀ k ∈ kids, XAt ns k) ∨
  ((op = 10 ∨ op = 11 ∨ op = 18) ∧ kids.length = 1 ∧ ∀ k ∈ kids, XAt ns k) ∨
  ((op = 12 ∨ op = 13 ∨ op = 14 ∨ op = 15 ∨ op = 19) ∧ kids.length = 2 ∧ ∀ k ∈ kids, XAt ns k) ∨
  ((op = 16 ∨ op = 20) ∧ kids.length = 3 ∧ ∀ k ∈ kids, XAt ns k) ∨
  (op = 17 ∧ 1 ≤ kids.length ∧ ∀ k ∈ kids, XAt ns k) ∨
  (op = 21 ∧ ∃ ps k late, kids = ps ++ [k] ∧ ParOk ns ps late ∧ XAt ns k) ∨
  (op = 22 ∧ kids.length ≤ 1 ∧ ∀ k ∈ kids, XAt ns k)
def binaries : List ByteArray := [gPlus, gMinus, gStar, gDiv, gMod, gPow]
def comparers : List ByteArray := [gEqq, gNe, gLt, gLe, gGt, gGe, kIn, tNotIn, kIs, tIsNot]
def TextOk (L : List TokD) (op : Int) (t : ByteArray) (n : Int) : Prop :=
  (n = 0 ∨ op = 4 ∧ ∃ u ∈ L, n = u.n) ∧
  ((op = 5 ∧ ∃ u ∈ L, t = u.s) ∨ ((op = 6 ∨ op = 18 ∨ op = 22) ∧ nameB t = true ∧ ∃ u ∈ L, t = u.s) ∨ (op = 12 ∧ t ∈ binaries) ∨ (op = 13 ∧ t ∈ comparers) ∨
    (op ≠ 5 ∧ op ≠ 6 ∧ op ≠ 18 ∧ op ≠ 22 ∧ op ≠ 12 ∧ op ≠ 13 ∧ t = ⟨#[]⟩))
/-- the place of one of so many tokens -/
def PlaceOk (L : List TokD) (n : Nat) (a : Int) : Prop := ∃ (k : Nat) (t : TokD), k < n ∧ L[k]? = some t ∧ t.at_ = a
structure NdOk (L : List TokD) (n : Nat) (s : PS) (i : Nat) (x : NodeD) : Prop where
  kids : ∀ k ∈ x.kids, 0 ≤ k ∧ k < (i : Int)
  shape : ShapeOk s.ns x.op x.kids
  text : TextOk L x.op x.s x.n
  place : PlaceOk L n x.at_
  deep : s.dp[i]? = some (deepest s x.kids + 1)
  lim : deepest s x.kids < 40
/-- all nodes are right, and each of them is a kid once, or pending; n: all places are those of so many tokens -/
structure BkN (L : List TokD) (n : Nat) (s : PS) (P : List Int) : Prop where
  len : s.dp.length = s.ns.length
  node : ∀ (i : Nat) (x : NodeD), s.ns[i]? = some x → NdOk L n s i x
  use : ∀ i : Nat, (kidsAll s.ns).count (i : Int) + P.count (i : Int) = if i < s.ns.length then 1 else 0
  pos : ∀ k ∈ P, 0 ≤ k
abbrev Bk (L : List TokD) (s : PS) (P : List Int) : Prop := BkN L s.at_ s P
section
variable {L : List TokD} {s s' : PS} {P : List Int}
theorem OpAt.mono {p : NodeD → Prop} {ns t : List NodeD} {x : Int} (h : OpAt p ns x) : OpAt p (ns ++ t) x := by
  obtain ⟨k, nd, e, h1, h2⟩ := h
  exact ⟨k, nd, e, by rw [List.getElem?_append_left (List.getElem?_eq_some_iff.1 h1).1]; exact h1, h2⟩
theorem OpAt.gr {p : NodeD → Prop} {n : Nat} {d : Int} {x : Int} (h : OpAt p s.ns x) (g : Gr n d s s') : OpAt p s'.ns x := by
  obtain ⟨t, ht⟩ := g.pre
  rw [ht]
  exact h.mono
theorem OpAt.in_ {p : NodeD → Prop} {x : Int} (h : OpAt p s.ns x) : In s x := by
  obtain ⟨k, nd, e, h1, _⟩ := h
  exact .inr ⟨k, e, (List.getElem?_eq_some_iff.1 h1).1⟩
theorem ParOk.mono {ns t : List NodeD} {l : List Int} {late : Bool} (h : ParOk ns l late) : ParOk (ns ++ t) l late := by
  induction h with
  | nil => exact .nil
  | some_ _ h2 ih => exact .some_ ih h2.mono
  | none_ _ h2 ih => exact .none_ ih h2.mono
theorem ParOk.gr {n : Nat} {d : Int} {l : List Int} {late : Bool} (h : ParOk s.ns l late) (g : Gr n d s s') : ParOk s'.ns l late := by
  obtain ⟨t, ht⟩ := g.pre
  rw [ht]
  exact h.mono
theorem ParOk.in_ {l : List Int} {late : Bool} (h : ParOk s.ns l late) : ∀ k ∈ l, In s k := by
  induction h with
  | nil => exact fun k hk => by cases hk
  | some_ _ h2 ih => exact in_snoc ih h2.in_
  | none_ _ h2 ih => exact in_snoc ih h2.in_
theorem ShapeOk.mono {ns t : List NodeD} {op : Int} {kids : List Int} (h : ShapeOk ns op kids) : ShapeOk (ns ++ t) op kids := by
  have hx : (∀ k ∈ kids, XAt ns k) → ∀ k ∈ kids, XAt (ns ++ t) k := fun h k hk => (h k hk).mono
  rcases h with h | ⟨h1, h2⟩ | ⟨h1, h2, h3⟩ | ⟨h1, h2, h3⟩ | ⟨h1, h2, h3⟩ | ⟨h1, h2, h3⟩ | ⟨h1, h2, h3⟩ | ⟨h1, ps, k, late, h2, h3, h4⟩ | ⟨h1, h2, h3⟩
  · exact .inl h
  · exact .inr (.inl ⟨h1, hx h2⟩)
  · exact .inr (.inr (.inl ⟨h1, h2, hx h3⟩))
  · exact .inr (.inr (.inr (.inl ⟨h1, h2, hx h3⟩)))
  · exact .inr (.inr (.inr (.inr (.inl ⟨h1, h2, hx h3⟩))))
  · exact .inr (.inr (.inr (.inr (.inr (.inl ⟨h1, h2, hx h3⟩)))))
  · exact .inr (.inr (.inr (.inr (.inr (.inr (.inl ⟨h1, h2, hx h3⟩))))))
  · exact .inr (.inr (.inr (.inr (.inr (.inr (.inr (.inl ⟨h1, ps, k, late, h2, h3.mono, h4.mono⟩)))))))
  · exact .inr (.inr (.inr (.inr (.inr (.inr (.inr (.inr ⟨h1, h2, hx h3⟩)))))))
theorem PlaceOk.up {n m : Nat} {a : Int} (h : PlaceOk L n a) (hm : n ≤ m) : PlaceOk L m a := by
  obtain ⟨k, t, h1, h2⟩ := h
  exact ⟨k, t, by omega, h2⟩
/-- no node more -/
structure Mv (s s' : PS) : Prop where
  ns : s'.ns = s.ns
  dp : s'.dp = s.dp
  up : s.at_ ≤ s'.at_
theorem Mv.refl (s : PS) : Mv s s := ⟨rfl, rfl, Nat.le_refl _⟩
theorem Mv.trans {s2 : PS} (h : Mv s s') (k : Mv s' s2) : Mv s s2 := ⟨k.ns.trans h.ns, k.dp.trans h.dp, Nat.le_trans h.up k.up⟩
theorem deep_eq {s s' : PS} (h : s'.dp = s.dp) (kids : List Int) : deepest s' kids = deepest s kids := by
  unfold deepest deepOf
  rw [h]
theorem BkN.mvn {n n' : Nat} (h : BkN L n s P) (m : Mv s s') (hn : n ≤ n') : BkN L n' s' P := by
  refine ⟨by rw [m.dp, m.ns]; exact h.len, fun i x hx => ?_, fun i => by rw [m.ns]; exact h.use i, h.pos⟩
  rw [m.ns] at hx
  have k := h.node i x hx
  exact ⟨k.kids, by rw [m.ns]; exact k.shape, k.text, k.place.up hn, by rw [m.dp, deep_eq m.dp]; exact k.deep, by rw [deep_eq m.dp]; exact k.lim⟩
theorem BkN.mv (h : Bk L s P) (m : Mv s s') : Bk L s' P := h.mvn m m.up
theorem step_mv (n : Nat) : Mv s (stepP s n) := ⟨rfl, rfl, Nat.le_add_right _ _⟩
theorem fail_mv (e a : Int) : Mv s (failP s e a) := by
  unfold failP
  split
  · exact ⟨rfl, rfl, Nat.le_refl _⟩
  · exact Mv.refl _
theorem any_mv (l : List ByteArray) : Mv s (anyP L l s).1 := by
  rcases any_cases (L := L) (s := s) l with ⟨h, _⟩ | ⟨t, _, _, h⟩
  · rw [h]; exact Mv.refl _
  · rw [h]; exact step_mv 1
theorem take_mv (t : ByteArray) : Mv s (takeP L t s).1 := any_mv [t]
theorem need_mv (t : ByteArray) : Mv s (needP L t s) := by
  unfold needP
  split
  · exact take_mv t
  · exact (take_mv t).trans (fail_mv _ _)
theorem name_mv : Mv s (nameP L s).1 := by
  unfold nameP
  split
  · exact step_mv 1
  · exact fail_mv _ _
theorem BkN.ok {n : Nat} (h : BkN L n s P) {k : Int} (hk : k ∈ P) : ∃ i : Nat, k = i ∧ i < s.ns.length := by
  have h0 := h.pos k hk
  refine ⟨k.toNat, by omega, ?_⟩
  have h1 := h.use k.toNat
  rw [Int.toNat_of_nonneg h0] at h1
  have h2 := List.count_pos_iff.2 hk
  split at h1
  · assumption
  · omega
theorem deep_le {s s' : PS} (hd : ∃ t, s'.dp = s.dp ++ t) : ∀ (kids : List Int) (m : Int), (∀ k ∈ kids, ∃ i : Nat, k = i ∧ i < s.dp.length) → kids.foldl (fun m k => max m (deepOf s' k)) m = kids.foldl (fun m k => max m (deepOf s k)) m
  | [], m, h => rfl
  | k :: kids, m, h => by
    obtain ⟨i, rfl, hi⟩ := h k (.head _)
    obtain ⟨t, ht⟩ := hd
    have : deepOf s' (i : Int) = deepOf s i := by
      unfold deepOf
      rw [if_neg (by omega), if_neg (by omega), Int.toNat_natCast, ht, List.getElem?_append_left hi]
    simp only [List.foldl_cons, this]
    exact deep_le ⟨t, ht⟩ kids _ fun k hk => h k (.tail _ hk)
theorem add_bkn {N : Nat} {op a n : Int} {t : ByteArray} {kids : List Int} (h : BkN L N s (P ++ kids)) (he : (addP s op a t n kids).1.e = 0) (hs : ShapeOk s.ns op kids) (ht : TextOk L op t n) (hp : PlaceOk L N a) :
    BkN L N (addP s op a t n kids).1 (P ++ [(addP s op a t n kids).2]) ∧ OpAt (fun nd => nd.op = op ∧ nd.kids = kids) (addP s op a t n kids).1.ns (addP s op a t n kids).2 := by
  have hk : ∀ k ∈ kids, ∃ i : Nat, k = i ∧ i < s.ns.length := fun k hk => h.ok (List.mem_append_right _ hk)
  unfold addP at he ⊢
  split at he
  · rename_i h0; exact absurd he h0
  · rename_i h0
    rw [if_neg h0]
    split at he
    · exact absurd he (fail_bad _ _ (by decide))
    · rename_i h1
      rw [if_neg h1]
      have hf : kids.filter (fun k : Int => decide (0 ≤ k ∧ k < (s.ns.length : Int))) = kids := List.filter_eq_self.2 fun k hkk => by
        obtain ⟨i, rfl, hi⟩ := hk k hkk
        exact decide_eq_true ⟨by omega, by omega⟩
      rw [hf]
      refine ⟨⟨by simp [h.len], fun i x hx => ?_, fun i => ?_, fun k hkk => ?_⟩, s.ns.length, ⟨op, a, t, n, kids⟩, rfl, by simp, rfl, rfl⟩
      · simp only at hx
        have hdp : ∀ (kids : List Int), (∀ k ∈ kids, ∃ i : Nat, k = i ∧ i < s.ns.length) → deepest { s with ns := s.ns ++ [⟨op, a, t, n, kids⟩], dp := s.dp ++ [deepest s kids + 1] } kids = deepest s kids := fun kids hh => deep_le ⟨_, rfl⟩ kids 0 (by rw [h.len]; exact hh)
        have hdp2 : ∀ (l : List Int), (∀ k ∈ l, ∃ i : Nat, k = i ∧ i < s.ns.length) → deepest { s with ns := s.ns ++ [⟨op, a, t, n, kids⟩], dp := s.dp ++ [deepest s kids + 1] } l = deepest s l := fun l hh => deep_le ⟨_, rfl⟩ l 0 (by rw [h.len]; exact hh)
        rcases Nat.lt_trichotomy i s.ns.length with h2 | h2 | h2
        · rw [List.getElem?_append_left h2] at hx
          have q := h.node i x hx
          have hq : ∀ k ∈ x.kids, ∃ j : Nat, k = j ∧ j < s.ns.length := fun k hk => ⟨k.toNat, by have := q.kids k hk; omega, by have := q.kids k hk; omega⟩
          exact ⟨q.kids, q.shape.mono, q.text, q.place, by rw [hdp2 _ hq]; show (s.dp ++ _)[i]? = _; rw [List.getElem?_append_left (by rw [h.len]; exact h2)]; exact q.deep, by rw [hdp2 _ hq]; exact q.lim⟩
        · subst h2
          rw [List.getElem?_append_right (Nat.le_refl _), Nat.sub_self] at hx
          obtain rfl := Option.some.inj hx
          refine ⟨fun k hkk => ?_, hs.mono, ht, hp, ?_, ?_⟩
          · obtain ⟨j, rfl, hj⟩ := hk k hkk
            omega
          · rw [hdp2 _ hk]
            show (s.dp ++ [_])[s.ns.length]? = _
            rw [← h.len, List.getElem?_append_right (Nat.le_refl _), Nat.sub_self]
            rfl
          · rw [hdp2 _ hk]
            omega
        · rw [List.getElem?_eq_none (by simp; omega)] at hx
          cases hx
      · have h2 := h.use i
        show (kidsAll (s.ns ++ [_])).count (i : Int) + (P ++ [(s.ns.length : Int)]).count (i : Int) = if i < (s.ns ++ [_]).length then 1 else 0
        unfold kidsAll at h2 ⊢
        rw [List.flatMap_append, List.count_append, List.count_append, List.length_append]
        rw [List.count_append] at h2
        simp only [List.flatMap_cons, List.flatMap_nil, List.append_nil, List.length_cons, List.length_nil]
        by_cases h3 : i = s.ns.length
        · subst h3
          rw [if_neg (by omega)] at h2
          rw [if_pos (by omega), List.count_cons_self, List.count_nil]
          omega
        · rw [List.count_cons_of_ne (by omega), List.count_nil]
          split at h2
          · rw [if_pos (by omega)]
            omega
          · rw [if_neg (by omega)]
            omega
      · rcases List.mem_append.1 hkk with h2 | h2
        · exact h.pos k (List.mem_append_left _ h2)
        · rw [List.mem_singleton.1 h2]
          omega
theorem add_at (op a : Int) (t : ByteArray) (n : Int) (kids : List Int) : (addP s op a t n kids).1.at_ = s.at_ := by
  unfold addP
  split
  · rfl
  · split
    · unfold failP
      split <;> rfl
    · rfl
theorem add_bk {op a n : Int} {t : ByteArray} {kids : List Int} (h : Bk L s (P ++ kids)) (he : (addP s op a t n kids).1.e = 0) (hs : ShapeOk s.ns op kids) (ht : TextOk L op t n) (hp : PlaceOk L s.at_ a) :
    Bk L (addP s op a t n kids).1 (P ++ [(addP s op a t n kids).2]) ∧ OpAt (fun nd => nd.op = op ∧ nd.kids = kids) (addP s op a t n kids).1.ns (addP s op a t n kids).2 := by
  unfold Bk
  rw [add_at]
  exact add_bkn h he hs ht hp
theorem OpAt.x {op : Int} {kids : List Int} {ns : List NodeD} {x : Int} (h : OpAt (fun nd => nd.op = op ∧ nd.kids = kids) ns x) (ho : IsX op) : XAt ns x := by
  obtain ⟨k, nd, e, h1, h2, _⟩ := h
  exact ⟨k, nd, e, h1, by show IsX nd.op; rw [h2]; exact ho⟩
theorem is_place {t : ByteArray} {n : Nat} (h : isP L s t 0 = true) (hn : s.at_ + 1 ≤ n) : PlaceOk L n (tokP L s 0).at_ := by
  obtain ⟨h1, h2⟩ := isP_in h
  exact ⟨s.at_, L[s.at_], by omega, List.getElem?_eq_getElem h2, by unfold tokP; rw [if_neg (fun e => e h1)]; simp only [Nat.add_zero] at h2 ⊢; rw [List.getElem?_eq_getElem h2]; rfl⟩
theorem tok_place {n : Nat} (h : (tokP L s 0).k ≠ 0) (hn : s.at_ + 1 ≤ n) : PlaceOk L n (tokP L s 0).at_ := by
  obtain ⟨h1, h2⟩ := tokP_in h
  exact ⟨s.at_, L[s.at_], by omega, List.getElem?_eq_getElem h2, by unfold tokP; rw [if_neg (fun e => e h1)]; simp only [Nat.add_zero] at h2 ⊢; rw [List.getElem?_eq_getElem h2]; rfl⟩
theorem tok_mem (h : (tokP L s 0).k ≠ 0) : tokP L s 0 ∈ L := by
  obtain ⟨h1, h2⟩ := tokP_in h
  unfold tokP
  rw [if_neg (fun e => e h1)]
  simp only [Nat.add_zero] at h2 ⊢
  rw [List.getElem?_eq_getElem h2]
  exact List.getElem_mem h2
theorem BkN.place {n : Nat} (h : BkN L n s P) {p : NodeD → Prop} {x : Int} (hx : OpAt p s.ns x) : PlaceOk L n (placeOf s x) := by
  obtain ⟨k, nd, rfl, h1, _⟩ := hx
  have := (h.node k nd h1).place
  unfold placeOf
  rw [if_neg (by omega), Int.toNat_natCast, h1]
  exact this
theorem all_snoc {ns : List NodeD} {l : List Int} {x : Int} (h : ∀ k ∈ l, XAt ns k) (hx : XAt ns x) : ∀ k ∈ l ++ [x], XAt ns k := fun k hk => by
  rcases List.mem_append.1 hk with h1 | h1
  · exact h k h1
  · rw [List.mem_singleton.1 h1]; exact hx
theorem all_gr {n : Nat} {d : Int} {l : List Int} (h : ∀ k ∈ l, XAt s.ns k) (g : Gr n d s s') : ∀ k ∈ l, XAt s'.ns k := fun k hk => (h k hk).gr g
theorem all_in {l : List Int} (h : ∀ k ∈ l, XAt s.ns k) : ∀ k ∈ l, In s k := fun k hk => (h k hk).in_
end
/-- a part that goes well leaves a right expression more -/
def BkE (L : List TokD) (F : Ex) : Prop := ∀ s P r, F s = some r → r.1.e = 0 → Bk L s P → Bk L r.1 (P ++ [r.2]) ∧ XAt r.1.ns r.2
section
variable {L : List TokD} {ex : Ex} {s : PS}
theorem rowE_bk (hex : BkE L ex) (hg : GdE L.length ex) (fin : ByteArray) : ∀ (m : Nat) (s : PS) (P kids : List Int) (r : PS × List Int), rowE ex L fin m s kids = some r → r.1.e = 0 → Bk L s (P ++ kids) → (∀ k ∈ kids, XAt s.ns k) → Bk L r.1 (P ++ r.2) ∧ (∀ k ∈ r.2, XAt r.1.ns k) ∧ kids.length ≤ r.2.length
  | 0, s, P, kids, r, h, he, hb, hx => by cases h
  | m + 1, s, P, kids, r, h, he, hb, hx => by
    have hgl := (rowE_gl hg fin (m + 1) s kids r (all_in hx) h).1
    unfold rowE at h
    split at h
    · rename_i hc
      obtain rfl := Option.some.inj h
      exact absurd he hc
    · split at h
      · obtain rfl := Option.some.inj h
        exact ⟨hb.mv (take_mv fin), all_gr hx (take_gr (L := L) fin), Nat.le_refl _⟩
      · split at h
        · cases h
        · rename_i s1 x hx1
          have g0 := take_gr (L := L) (s := s) fin
          have g1 := (hg _ _ hx1).1
          have i1 := (hg _ _ hx1).2
          have g2 := take_gr (L := L) (s := s1) gComma
          have hin := in_snoc (in_all (all_in hx) ((g0.trans g1).trans g2)) (i1.mono g2)
          split at h
          · have e1 : s1.e = 0 := g2.pos ((rowE_gl hg fin m _ _ _ hin h).1.pos he)
            obtain ⟨b1, x1⟩ := hex _ _ _ hx1 e1 (hb.mv (take_mv fin))
            have := rowE_bk hex hg fin m _ P (kids ++ [x]) r h he (by rw [← List.append_assoc]; exact b1.mv (take_mv _)) (all_snoc (all_gr hx ((g0.trans g1).trans g2)) (x1.gr g2))
            refine ⟨this.1, this.2.1, ?_⟩
            have h3 := this.2.2
            simp at h3
            omega
          · obtain rfl := Option.some.inj h
            have g3 := need_gr (L := L) (s := (takeP L gComma s1).1) fin
            have e1 : s1.e = 0 := g2.pos (g3.pos he)
            obtain ⟨b1, x1⟩ := hex _ _ _ hx1 e1 (hb.mv (take_mv fin))
            exact ⟨by rw [← List.append_assoc]; exact (b1.mv (take_mv _)).mv (need_mv _), all_snoc (all_gr hx (((g0.trans g1).trans g2).trans g3)) (x1.gr (g2.trans g3)), by simp⟩
theorem pairsE_bk (hex : BkE L ex) (hg : GdE L.length ex) : ∀ (m : Nat) (s : PS) (P kids : List Int) (r : PS × List Int), pairsE ex L m s kids = some r → r.1.e = 0 → Bk L s (P ++ kids) → (∀ k ∈ kids, XAt s.ns k) → kids.length % 2 = 0 → Bk L r.1 (P ++ r.2) ∧ (∀ k ∈ r.2, XAt r.1.ns k) ∧ r.2.length % 2 = 0
  | 0, s, P, kids, r, h, he, hb, hx, h2 => by cases h
  | m + 1, s, P, kids, r, h, he, hb, hx, h2 => by
    unfold pairsE at h
    split at h
    · rename_i hc
      obtain rfl := Option.some.inj h
      exact absurd he hc
    · split at h
      · obtain rfl := Option.some.inj h
        exact ⟨hb.mv (take_mv _), all_gr hx (take_gr (L := L) _), h2⟩
      · split at h
        · cases h
        · rename_i s1 x hx1
          split at h
          · cases h
          · rename_i s2 v hv
            have g0 := take_gr (L := L) (s := s) gRc
            have g1 := (hg _ _ hx1).1
            have i1 := (hg _ _ hx1).2
            have gn := need_gr (L := L) (s := s1) gColon
            have gv := (hg _ _ hv).1
            have iv := (hg _ _ hv).2
            have g2 := take_gr (L := L) (s := s2) gComma
            have hin : ∀ k ∈ kids ++ [x, v], In (takeP L gComma s2).1 k := by
              have := in_snoc (in_snoc (in_all (all_in hx) ((((g0.trans g1).trans gn).trans gv).trans g2)) (i1.mono ((gn.trans gv).trans g2))) (iv.mono g2)
              rwa [List.append_assoc] at this
            have fin : s2.e = 0 → Bk L s2 (P ++ (kids ++ [x, v])) ∧ (∀ k ∈ kids ++ [x, v], XAt s2.ns k) := fun e2 => by
              obtain ⟨b1, x1⟩ := hex _ _ _ hx1 (gn.pos (gv.pos e2)) (hb.mv (take_mv _))
              obtain ⟨b2, x2⟩ := hex _ _ _ hv e2 (b1.mv (need_mv _))
              have hk := all_snoc (all_snoc (all_gr hx (((g0.trans g1).trans gn).trans gv)) (x1.gr (gn.trans gv))) x2
              rw [List.append_assoc] at hk
              refine ⟨?_, hk⟩
              rw [List.append_assoc, List.append_assoc] at b2
              exact b2
            have hl : (kids ++ [x, v]).length % 2 = 0 := by simp; omega
            split at h
            · obtain ⟨b3, x3⟩ := fin (g2.pos ((pairsE_gl hg m _ _ _ hin h).1.pos he))
              exact pairsE_bk hex hg m _ P _ r h he (b3.mv (take_mv _)) (all_gr x3 g2) hl
            · obtain rfl := Option.some.inj h
              have g3 := need_gr (L := L) (s := (takeP L gComma s2).1) gRc
              obtain ⟨b3, x3⟩ := fin (g2.pos (g3.pos he))
              exact ⟨(b3.mv (take_mv _)).mv (need_mv _), all_gr x3 (g2.trans g3), hl⟩
theorem roundE_bk (hex : BkE L ex) (hg : GdE L.length ex) {P : List Int} {m : Nat} {a : Int} {r : PS × Int} (hp : PlaceOk L s.at_ a) (h : roundE ex L m a s = some r) (he : r.1.e = 0) (hb : Bk L s P) : Bk L r.1 (P ++ [r.2]) ∧ XAt r.1.ns r.2 := by
  unfold roundE at h
  have g0 := take_gr (L := L) (s := s) gRp
  split at h
  · obtain rfl := Option.some.inj h
    have := add_bk (P := P) (kids := []) (by rw [List.append_nil]; exact hb.mv (take_mv (L := L) gRp)) he (.inr (.inl ⟨.inr rfl, fun k hk => by cases hk⟩)) ⟨.inl rfl, by simp⟩ (hp.up g0.up)
    exact ⟨this.1, this.2.x (by constructor <;> decide)⟩
  · split at h
    · cases h
    · rename_i s1 x hx1
      have g1 := (hg _ _ hx1).1
      have g2 := take_gr (L := L) (s := s1) gRp
      split at h
      · obtain rfl := Option.some.inj h
        obtain ⟨b1, x1⟩ := hex _ _ _ hx1 (g2.pos he) (hb.mv (take_mv (L := L) gRp))
        exact ⟨b1.mv (take_mv _), x1.gr g2⟩
      · split at h
        · cases h
        · rename_i s2 kids hr
          obtain rfl := Option.some.inj h
          have g3 := need_gr (L := L) (s := (takeP L gRp s1).1) gComma
          have hin := in_snoc (l := []) (fun k hk => by cases hk) (((hg _ _ hx1).2.mono g2).mono g3)
          have g4 := (rowE_gl hg _ _ _ _ _ hin hr).1
          have e2 : s2.e = 0 := (add_gr (L := L) ..).pos he
          obtain ⟨b1, x1⟩ := hex _ _ _ hx1 (g2.pos (g3.pos (g4.pos e2))) (hb.mv (take_mv (L := L) gRp))
          obtain ⟨b2, x2, _⟩ := rowE_bk hex hg gRp m _ P [x] _ hr e2 ((b1.mv (take_mv _)).mv (need_mv _)) (all_snoc (l := []) (fun k hk => by cases hk) (x1.gr (g2.trans g3)))
          have := add_bk (P := P) b2 he (.inr (.inl ⟨.inr rfl, x2⟩)) ⟨.inl rfl, by simp⟩ (hp.up ((((g0.trans g1).trans g2).trans g3).trans g4).up)
          exact ⟨this.1, this.2.x (by constructor <;> decide)⟩
theorem atomE_bk (hex : BkE L ex) (hg : GdE L.length ex) {P : List Int} {m : Nat} {r : PS × Int} (h : atomE ex L m s = some r) (he : r.1.e = 0) (hb : Bk L s P) : Bk L r.1 (P ++ [r.2]) ∧ XAt r.1.ns r.2 := by
  unfold atomE at h
  simp only at h
  have hbad : some (failP s 30 s.at_, (-1 : Int)) = some r → False := fun h => by
    obtain rfl := Option.some.inj h
    exact fail_bad _ _ (by decide) he
  have leaf : ∀ op t n, some (addP (stepP s 1) op (tokP L s 0).at_ t n []) = some r → (tokP L s 0).k ≠ 0 → 1 ≤ op → op ≤ 6 → TextOk L op t n → Bk L r.1 (P ++ [r.2]) ∧ XAt r.1.ns r.2 := fun op t n h hk h1 h6 ht => by
    obtain rfl := Option.some.inj h
    have := add_bk (P := P) (kids := []) (by rw [List.append_nil]; exact hb.mv (step_mv 1)) he (.inl ⟨h1, h6, rfl⟩) ht (tok_place hk (Nat.le_refl _))
    exact ⟨this.1, this.2.x ⟨h1, by omega⟩⟩
  split at h
  · rename_i hk
    have hk0 : (tokP L s 0).k ≠ 0 := by rw [hk]; decide
    exact leaf _ _ _ h hk0 (by decide) (by decide) ⟨.inr ⟨rfl, _, tok_mem hk0, rfl⟩, by simp⟩
  split at h
  · rename_i _ hk
    have hk0 : (tokP L s 0).k ≠ 0 := by rw [hk]; decide
    exact leaf _ _ _ h hk0 (by decide) (by decide) ⟨.inl rfl, .inl ⟨rfl, _, tok_mem hk0, rfl⟩⟩
  split at h
  · rename_i _ _ hk
    have hk0 : (tokP L s 0).k ≠ 0 := by rw [hk]; decide
    split at h
    · rename_i op hop
      have h3 : op = 1 ∨ op = 2 ∨ op = 3 := by
        unfold wordOp at hop
        repeat' split at hop
        all_goals (first | (cases hop; done) | (injection hop with hop; omega))
      exact leaf _ _ _ h hk0 (by omega) (by omega) ⟨.inl rfl, by rcases h3 with rfl | rfl | rfl <;> simp⟩
    · split at h
      · rename_i hn
        exact leaf _ _ _ h hk0 (by decide) (by decide) ⟨.inl rfl, .inr (.inl ⟨.inl rfl, hn, _, tok_mem hk0, rfl⟩)⟩
      · exact (hbad h).elim
  split at h
  · rename_i _ _ _ hk
    have hk0 : (tokP L s 0).k ≠ 0 := by rw [hk]; decide
    have hpl : PlaceOk L (stepP s 1).at_ (tokP L s 0).at_ := tok_place hk0 (Nat.le_refl _)
    split at h
    · exact roundE_bk hex hg hpl h he (hb.mv (step_mv 1))
    · split at h
      · split at h
        · cases h
        · rename_i s2 kids hr
          obtain rfl := Option.some.inj h
          have g4 := (rowE_gl hg _ _ _ _ _ (fun k hk => by cases hk) hr).1
          have e2 : s2.e = 0 := (add_gr (L := L) ..).pos he
          obtain ⟨b2, x2, _⟩ := rowE_bk hex hg gRb m _ P [] _ hr e2 (by rw [List.append_nil]; exact hb.mv (step_mv 1)) (fun k hk => by cases hk)
          have := add_bk (P := P) b2 he (.inr (.inl ⟨.inl rfl, x2⟩)) ⟨.inl rfl, by simp⟩ (hpl.up g4.up)
          exact ⟨this.1, this.2.x (by constructor <;> decide)⟩
      · split at h
        · split at h
          · cases h
          · rename_i s2 kids hr
            obtain rfl := Option.some.inj h
            have g4 := (pairsE_gl hg _ _ _ _ (fun k hk => by cases hk) hr).1
            have e2 : s2.e = 0 := (add_gr (L := L) ..).pos he
            obtain ⟨b2, x2, x3⟩ := pairsE_bk hex hg m _ P [] _ hr e2 (by rw [List.append_nil]; exact hb.mv (step_mv 1)) (fun k hk => by cases hk) rfl
            have := add_bk (P := P) b2 he (.inr (.inr (.inl ⟨rfl, x3, x2⟩))) ⟨.inl rfl, by simp⟩ (hpl.up g4.up)
            exact ⟨this.1, this.2.x (by constructor <;> decide)⟩
        · exact (hbad h).elim
  · exact (hbad h).elim
theorem boundE_bk (hex : BkE L ex) {P : List Int} {fin : ByteArray} {r : PS × Int} (h : boundE ex L fin s = some r) (he : r.1.e = 0) (hb : Bk L s P) : BkN L (r.1.at_ + 1) r.1 (P ++ [r.2]) ∧ XAt r.1.ns r.2 := by
  unfold boundE at h
  split at h
  · rename_i hi
    obtain rfl := Option.some.inj h
    rw [add_at]
    have := add_bkn (P := P) (N := s.at_ + 1) (kids := []) (by rw [List.append_nil]; exact hb.mvn (Mv.refl s) (Nat.le_succ _)) he (.inl ⟨by decide, by decide, rfl⟩) ⟨.inl rfl, by simp⟩ (is_place hi (Nat.le_refl _))
    exact ⟨this.1, this.2.x (by constructor <;> decide)⟩
  · have := hex _ _ _ h he hb
    exact ⟨this.1.mvn (Mv.refl _) (Nat.le_succ _), this.2⟩
theorem need_on {t : ByteArray} (he : (needP L t s).e = 0) : (needP L t s).at_ = s.at_ + 1 := by
  unfold needP at he ⊢
  split at he
  · rename_i h
    rw [if_pos h, (take_step h).1]
    rfl
  · exact absurd he (fail_bad _ _ (by decide))
theorem indexE_bk (hex : BkE L ex) (hg : GdE L.length ex) {P : List Int} {x a : Int} {r : PS × Int} (hp : PlaceOk L s.at_ a) (h : indexE ex L x a s = some r) (he : r.1.e = 0) (hx : XAt s.ns x) (hb : Bk L s (P ++ [x])) : Bk L r.1 (P ++ [r.2]) ∧ XAt r.1.ns r.2 := by
  unfold indexE at h
  simp only at h
  split at h
  · cases h
  · rename_i s1 y hy
    have g1 := (boundE_gd hg hy).1
    split at h
    · rename_i hc
      obtain rfl := Option.some.inj h
      have g2 := take_gr (L := L) (s := s1) gRb
      have e2 : (takeP L gRb s1).1.e = 0 := (add_gr (L := L) ..).pos he
      have hy2 := hy
      unfold boundE at hy2
      rw [if_neg (by rw [hc.1]; decide)] at hy2
      obtain ⟨b1, x1⟩ := hex _ _ _ hy2 (g2.pos e2) hb
      have := add_bk (P := P) (kids := [x, y]) (by rw [List.append_assoc] at b1; exact b1.mv (take_mv _)) he (.inr (.inr (.inr (.inr (.inl ⟨by simp, rfl, all_snoc (l := [x]) (all_snoc (l := []) (fun k hk => by cases hk) (hx.gr (g1.trans g2))) (x1.gr g2)⟩))))) ⟨.inl rfl, by simp⟩ (hp.up (g1.trans g2).up)
      exact ⟨this.1, this.2.x (by constructor <;> decide)⟩
    · split at h
      · cases h
      · rename_i s3 z hz
        obtain rfl := Option.some.inj h
        have g2 : Gr L.length 0 s1 (if isP L s gColon 0 = true then s1 else (takeP L gRb s1).1) := by
          split
          · exact Gr.refl _ _
          · exact take_gr _
        have m2 : Mv s1 (if isP L s gColon 0 = true then s1 else (takeP L gRb s1).1) := by
          split
          · exact Mv.refl _
          · exact take_mv _
        generalize (if isP L s gColon 0 = true then s1 else (takeP L gRb s1).1) = s2 at h hz g2 m2
        have g3 := need_gr (L := L) (s := s2) gColon
        have g4 := (boundE_gd hg hz).1
        have g5 := need_gr (L := L) (s := s3) gRb
        have e5 : (needP L gRb s3).e = 0 := (add_gr (L := L) ..).pos he
        have e3 : (needP L gColon s2).e = 0 := g4.pos (g5.pos e5)
        obtain ⟨b1, x1⟩ := boundE_bk hex hy (g2.pos (g3.pos e3)) hb
        have b2 : Bk L (needP L gColon s2) (P ++ [x] ++ [y]) := b1.mvn (m2.trans (need_mv _)) (by rw [need_on e3]; have := m2.up; show s1.at_ + 1 ≤ _; omega)
        obtain ⟨b3, x3⟩ := boundE_bk hex hz (g5.pos e5) b2
        have b4 : Bk L (needP L gRb s3) (P ++ [x] ++ [y] ++ [z]) := b3.mvn (need_mv _) (by rw [need_on e5]; exact Nat.le_refl _)
        have := add_bk (P := P) (kids := [x, y, z]) (by simpa using b4) he (.inr (.inr (.inr (.inr (.inr (.inl ⟨by simp, rfl, all_snoc (l := [x, y]) (all_snoc (l := [x]) (all_snoc (l := []) (fun k hk => by cases hk) (hx.gr ((((g1.trans g2).trans g3).trans g4).trans g5))) (x1.gr (((g2.trans g3).trans g4).trans g5))) (x3.gr g5)⟩)))))) ⟨.inl rfl, by simp⟩ (hp.up ((((g1.trans g2).trans g3).trans g4).trans g5).up)
        exact ⟨this.1, this.2.x (by constructor <;> decide)⟩
theorem name_ok (he : (nameP L s).1.e = 0) : nameB (nameP L s).2 = true ∧ (nameP L s).1 = stepP s 1 ∧ (tokP L s 0).k = 1 := by
  unfold nameP at he ⊢
  split at he
  · rename_i h
    rw [if_pos h]
    exact ⟨h.2, rfl, h.1⟩
  · exact absurd he (fail_bad _ _ (by decide))
theorem name_mem (he : (nameP L s).1.e = 0) : ∃ u ∈ L, (nameP L s).2 = u.s := by
  have hk := name_ok he
  refine ⟨_, tok_mem (by rw [hk.2.2]; decide), ?_⟩
  unfold nameP
  have := hk
  unfold nameP at he
  split at he
  · rename_i h
    rw [if_pos h]
  · exact absurd he (fail_bad _ _ (by decide))
theorem postE_bk (hex : BkE L ex) (hg : GdE L.length ex) (m0 : Nat) {a : Int} : ∀ (m : Nat) (s : PS) (P : List Int) (x : Int) (r : PS × Int), (s.e = 0 → PlaceOk L s.at_ a) → postE ex L m0 a m s x = some r → r.1.e = 0 → In s x → (s.e = 0 → Bk L s (P ++ [x]) ∧ XAt s.ns x) → Bk L r.1 (P ++ [r.2]) ∧ XAt r.1.ns r.2
  | 0, s, P, x, r, hp, h, he, hi, hb => by cases h
  | m + 1, s, P, x, r, hp, h, he, hi, hb => by
    have hgl := (postE_gd hg m0 a (m + 1) s x r hi h).1
    have e0 := hgl.pos he
    obtain ⟨b0, x0⟩ := hb e0
    have hp := hp e0
    unfold postE at h
    simp only at h
    split at h
    · obtain rfl := Option.some.inj h
      exact ⟨b0, x0⟩
    · rename_i hc
      have g0 := any_yes (L := L) (s := s) (l := [gDot, gLp, gLb]) (by simpa using hc)
      have b1 := b0.mv (any_mv (L := L) [gDot, gLp, gLb])
      generalize hq : anyP L [gDot, gLp, gLb] s = q at h g0 b1
      split at h
      · have gn := name_gr (L := L) (s := q.1)
        refine postE_bk hex hg m0 m _ P _ r (fun e => ?_) h he (add_in ..) (fun e => ?_)
        · rw [add_at]
          exact hp.up (g0.trans gn).up
        · have e1 : (nameP L q.1).1.e = 0 := (add_gr (L := L) ..).pos e
          have hn := name_ok e1
          have := add_bk (P := P) (kids := [x]) (b1.mv name_mv) e (.inr (.inr (.inr (.inl ⟨by simp, rfl, all_snoc (l := []) (fun k hk => by cases hk) (x0.gr (g0.trans gn))⟩)))) ⟨.inl rfl, .inr (.inl ⟨by simp, hn.1, name_mem e1⟩)⟩ (hp.up (g0.trans gn).up)
          exact ⟨this.1, this.2.x (by constructor <;> decide)⟩
      · split at h
        · split at h
          · cases h
          · rename_i s2 kids hr
            have hin := in_snoc (l := []) (fun k hk => by cases hk) (hi.mono g0)
            have g4 := (rowE_gl hg _ _ _ _ _ hin hr).1
            refine postE_bk hex hg m0 m _ P _ r (fun e => ?_) h he (add_in ..) (fun e => ?_)
            · rw [add_at]
              exact hp.up (g0.trans g4).up
            · have e2 : s2.e = 0 := (add_gr (L := L) ..).pos e
              obtain ⟨b2, x2, x3⟩ := rowE_bk hex hg gRp m0 _ P [x] _ hr e2 b1 (all_snoc (l := []) (fun k hk => by cases hk) (x0.gr g0))
              have := add_bk (P := P) b2 e (.inr (.inr (.inr (.inr (.inr (.inr (.inl ⟨rfl, x3, x2⟩))))))) ⟨.inl rfl, by simp⟩ (hp.up (g0.trans g4).up)
              exact ⟨this.1, this.2.x (by constructor <;> decide)⟩
        · split at h
          · cases h
          · rename_i s2 y hr
            have g4 := (indexE_gd hg hr).1
            exact postE_bk hex hg m0 m _ P _ r (fun e => hp.up (g0.trans g4).up) h he (indexE_gd hg hr).2 (fun e => indexE_bk hex hg (hp.up g0.up) hr e (x0.gr g0) b1)
theorem postfixE_bk (hex : BkE L ex) (hg : GdE L.length ex) {P : List Int} {m : Nat} {r : PS × Int} (h : postfixE ex L m s = some r) (he : r.1.e = 0) (hb : Bk L s P) : Bk L r.1 (P ++ [r.2]) ∧ XAt r.1.ns r.2 := by
  unfold postfixE at h
  split at h
  · cases h
  · rename_i s1 x hx1
    have hb1 : s1.e = 0 → Bk L s1 (P ++ [x]) ∧ XAt s1.ns x := fun e => atomE_bk hex hg hx1 e hb
    exact postE_bk hex hg m m _ P _ r (fun e => (hb1 e).1.place (hb1 e).2) h he (atomE_gd hg hx1).2 hb1
theorem factorE_bk (hex : BkE L ex) (hg : GdE L.length ex) (m0 : Nat) : ∀ (m : Nat) (s : PS) (P : List Int) (r : PS × Int), factorE ex L m0 m s = some r → r.1.e = 0 → Bk L s P → Bk L r.1 (P ++ [r.2]) ∧ XAt r.1.ns r.2
  | 0, s, P, r, h, he, hb => by cases h
  | m + 1, s, P, r, h, he, hb => by
    unfold factorE at h
    simp only at h
    split at h
    · rename_i hc
      split at h
      · cases h
      · rename_i s1 x hx1
        obtain rfl := Option.some.inj h
        have g0 := take_yes hc
        have g1 := (factorE_gd hg m0 m _ _ hx1).1
        have hst := take_step hc
        rw [take_is] at hc
        obtain ⟨b1, x1⟩ := factorE_bk hex hg m0 m _ P _ hx1 ((add_gr (L := L) ..).pos he) (hb.mv (take_mv _))
        have := add_bk (P := P) (kids := [x]) b1 he (.inr (.inr (.inr (.inl ⟨by simp, rfl, all_snoc (l := []) (fun k hk => by cases hk) x1⟩)))) ⟨.inl rfl, by simp⟩ (is_place hc (by have := g1.up; rw [hst.1] at this; exact this))
        exact ⟨this.1, this.2.x (by constructor <;> decide)⟩
    · split at h
      · cases h
      · rename_i s1 x hx1
        have g0 := (take_gr (L := L) (s := s) gMinus).trans (postfixE_gd hg hx1).1
        have g2 := take_gr (L := L) (s := s1) gPow
        split at h
        · split at h
          · cases h
          · rename_i s2 y hf
            obtain rfl := Option.some.inj h
            have g3 := (factorE_gd hg m0 m _ _ hf).1
            have e2 : s2.e = 0 := (add_gr (L := L) ..).pos he
            obtain ⟨b1, x1⟩ := postfixE_bk hex hg hx1 (g2.pos (g3.pos e2)) (hb.mv (take_mv _))
            obtain ⟨b2, x2⟩ := factorE_bk hex hg m0 m _ _ _ hf e2 (b1.mv (take_mv _))
            have x1' := x1.gr (g2.trans g3)
            have hpl := b2.place x1'
            rw [List.append_assoc] at b2
            have := add_bk (P := P) (kids := [x, y]) b2 he (.inr (.inr (.inr (.inr (.inl ⟨by simp, rfl, all_snoc (l := [x]) (all_snoc (l := []) (fun k hk => by cases hk) x1') x2⟩))))) ⟨.inl rfl, .inr (.inr (.inl ⟨rfl, by simp [binaries]⟩))⟩ hpl
            exact ⟨this.1, this.2.x (by constructor <;> decide)⟩
        · obtain rfl := Option.some.inj h
          obtain ⟨b1, x1⟩ := postfixE_bk hex hg hx1 (g2.pos he) (hb.mv (take_mv _))
          exact ⟨b1.mv (take_mv _), x1.gr g2⟩
theorem leftE_bk {part : Ex} (hp : BkE L part) (hg : GdE L.length part) {op : Int} {signs : List ByteArray} (ho : (op = 12 ∧ ∀ t ∈ signs, t ∈ binaries) ∨ op = 14 ∨ op = 15) : ∀ (m : Nat) (s : PS) (P : List Int) (x : Int) (r : PS × Int), leftE L part op signs m s x = some r → r.1.e = 0 → In s x → (s.e = 0 → Bk L s (P ++ [x]) ∧ XAt s.ns x) → Bk L r.1 (P ++ [r.2]) ∧ XAt r.1.ns r.2
  | 0, s, P, x, r, h, he, hi, hb => by cases h
  | m + 1, s, P, x, r, h, he, hi, hb => by
    have e0 := (leftE_gd hg op signs (m + 1) s x r hi h).1.pos he
    obtain ⟨b0, x0⟩ := hb e0
    unfold leftE at h
    simp only at h
    split at h
    · obtain rfl := Option.some.inj h
      exact ⟨b0, x0⟩
    · rename_i hc
      have g0 := any_yes (L := L) (s := s) (l := signs) (by simpa using hc)
      have hs : (anyP L signs s).2.1 ∈ signs := by
        rcases any_cases (L := L) (s := s) signs with ⟨h1, _⟩ | ⟨t, ht, _, h1⟩
        · rw [h1] at hc; exact absurd rfl hc
        · rw [h1]; exact ht
      split at h
      · cases h
      · rename_i s1 y hy
        have g1 := (hg _ _ hy).1
        refine leftE_bk hp hg ho m _ P _ r h he (add_in ..) (fun e => ?_)
        have e1 : s1.e = 0 := (add_gr (L := L) ..).pos e
        obtain ⟨b1, x1⟩ := hp _ _ _ hy e1 (b0.mv (any_mv _))
        have x0' := x0.gr (g0.trans g1)
        have hpl := b1.place x0'
        rw [List.append_assoc] at b1
        have hx2 := all_snoc (l := [x]) (all_snoc (l := []) (fun k hk => by cases hk) x0') x1
        rcases ho with ⟨rfl, ho⟩ | rfl | rfl
        · have := add_bk (P := P) (kids := [x, y]) b1 e (.inr (.inr (.inr (.inr (.inl ⟨by simp, rfl, hx2⟩))))) ⟨.inl rfl, .inr (.inr (.inl ⟨rfl, by rw [if_pos rfl]; exact ho _ hs⟩))⟩ hpl
          exact ⟨this.1, this.2.x (by constructor <;> decide)⟩
        · have := add_bk (P := P) (kids := [x, y]) b1 e (.inr (.inr (.inr (.inr (.inl ⟨by simp, rfl, hx2⟩))))) ⟨.inl rfl, by simp⟩ hpl
          exact ⟨this.1, this.2.x (by constructor <;> decide)⟩
        · have := add_bk (P := P) (kids := [x, y]) b1 e (.inr (.inr (.inr (.inr (.inl ⟨by simp, rfl, hx2⟩))))) ⟨.inl rfl, by simp⟩ hpl
          exact ⟨this.1, this.2.x (by constructor <;> decide)⟩
theorem partsE_bk {part : Ex} (hp : BkE L part) (hg : GdE L.length part) {op : Int} {signs : List ByteArray} (ho : (op = 12 ∧ ∀ t ∈ signs, t ∈ binaries) ∨ op = 14 ∨ op = 15) {m : Nat} : BkE L (partsE L part op signs m) := by
  intro s P r h he hb
  unfold partsE at h
  split at h
  · cases h
  · rename_i s1 x hx1
    exact leftE_bk hp hg ho m _ P _ r h he (hg _ _ hx1).2 (fun e => hp _ _ _ hx1 e hb)
theorem termE_bk (hex : BkE L ex) (hg : GdE L.length ex) (m : Nat) : BkE L (termE ex L m) := partsE_bk (fun s P r h he hb => factorE_bk hex hg m m s P r h he hb) (fun s r h => factorE_gd hg m m s r h) (.inl ⟨rfl, by simp [binaries]⟩)
theorem sumE_bk (hex : BkE L ex) (hg : GdE L.length ex) (m : Nat) : BkE L (sumE ex L m) := partsE_bk (termE_bk hex hg m) (termE_gd hg m) (.inl ⟨rfl, by simp [binaries]⟩)
theorem compares_mem (h : (compares L s).2 ≠ 0) : (compares L s).1 ∈ comparers := by
  unfold compares at h ⊢
  repeat' split
  all_goals first | (simp [comparers]; done) | (simp_all)
theorem notE_bk (hex : BkE L ex) (hg : GdE L.length ex) (m0 : Nat) : ∀ (m : Nat) (s : PS) (P : List Int) (r : PS × Int), notE ex L m0 m s = some r → r.1.e = 0 → Bk L s P → Bk L r.1 (P ++ [r.2]) ∧ XAt r.1.ns r.2
  | 0, s, P, r, h, he, hb => by cases h
  | m + 1, s, P, r, h, he, hb => by
    unfold notE at h
    simp only at h
    split at h
    · rename_i hc
      split at h
      · cases h
      · rename_i s1 x hx1
        obtain rfl := Option.some.inj h
        have g1 := (notE_gd hg m0 m _ _ hx1).1
        have hst := take_step hc
        rw [take_is] at hc
        obtain ⟨b1, x1⟩ := notE_bk hex hg m0 m _ P _ hx1 ((add_gr (L := L) ..).pos he) (hb.mv (take_mv _))
        have := add_bk (P := P) (kids := [x]) b1 he (.inr (.inr (.inr (.inl ⟨by simp, rfl, all_snoc (l := []) (fun k hk => by cases hk) x1⟩)))) ⟨.inl rfl, by simp⟩ (is_place hc (by have := g1.up; rw [hst.1] at this; exact this))
        exact ⟨this.1, this.2.x (by constructor <;> decide)⟩
    · split at h
      · cases h
      · rename_i s1 x hx1
        split at h
        · obtain rfl := Option.some.inj h
          exact sumE_bk hex hg m0 _ _ _ hx1 he (hb.mv (take_mv _))
        · rename_i hn
          have hcm := compares_in hn
          have hmem := compares_mem hn
          split at h
          · cases h
          · rename_i s2 y hf
            have g2 := step_gr (L := L) hcm.1 hcm.2
            have g3 := (sumE_gd hg m0 _ _ hf).1
            split at h
            · obtain rfl := Option.some.inj h
              exact absurd he (fail_bad _ _ (by decide))
            · obtain rfl := Option.some.inj h
              have e2 : s2.e = 0 := (add_gr (L := L) ..).pos he
              obtain ⟨b1, x1⟩ := sumE_bk hex hg m0 _ _ _ hx1 hcm.1 (hb.mv (take_mv _))
              obtain ⟨b2, x2⟩ := sumE_bk hex hg m0 _ _ _ hf e2 (b1.mv (step_mv _))
              have x1' := x1.gr (g2.trans g3)
              have hpl := b2.place x1'
              rw [List.append_assoc] at b2
              have := add_bk (P := P) (kids := [x, y]) b2 he (.inr (.inr (.inr (.inr (.inl ⟨by simp, rfl, all_snoc (l := [x]) (all_snoc (l := []) (fun k hk => by cases hk) x1') x2⟩))))) ⟨.inl rfl, .inr (.inr (.inr (.inl ⟨rfl, hmem⟩)))⟩ hpl
              exact ⟨this.1, this.2.x (by constructor <;> decide)⟩
theorem andE_bk (hex : BkE L ex) (hg : GdE L.length ex) (m : Nat) : BkE L (andE ex L m) := partsE_bk (fun s P r h he hb => notE_bk hex hg m m s P r h he hb) (fun s r h => notE_gd hg m m s r h) (.inr (.inl rfl))
theorem orE_bk (hex : BkE L ex) (hg : GdE L.length ex) (m : Nat) : BkE L (orE ex L m) := partsE_bk (andE_bk hex hg m) (andE_gd hg m) (.inr (.inr rfl))
theorem paramsE_bk (hex : BkE L ex) (hg : GdE L.length ex) : ∀ (m : Nat) (s : PS) (P out : List Int) (late : Bool) (r : PS × List Int), paramsE ex L m s out late = some r → r.1.e = 0 → Bk L s (P ++ out) → ParOk s.ns out late → Bk L r.1 (P ++ r.2) ∧ ∃ late', ParOk r.1.ns r.2 late'
  | 0, s, P, out, late, r, h, he, hb, hx => by cases h
  | m + 1, s, P, out, late, r, h, he, hb, hx => by
    unfold paramsE at h
    simp only at h
    split at h
    · rename_i hc
      obtain rfl := Option.some.inj h
      exact absurd he hc
    · generalize hC : (if out = [] then takeP L gColon s else (s, false)) = C at h
      have gc : Gr L.length 0 s C.1 := by
        rw [← hC]
        split
        · exact take_gr _
        · exact Gr.refl _ _
      have mc : Mv s C.1 := by
        rw [← hC]
        split
        · exact take_mv _
        · exact Mv.refl _
      split at h
      · obtain rfl := Option.some.inj h
        exact ⟨hb.mv mc, late, hx.gr gc⟩
      · have gn := name_gr (L := L) (s := C.1)
        have gq := (take_gr (L := L) (s := (nameP L C.1).1) gEq)
        have hpl : ∀ n, (nameP L C.1).1.e = 0 → C.1.at_ + 1 ≤ n → PlaceOk L n (tokP L C.1 0).at_ := fun n e hn => tok_place (by rw [(name_ok e).2.2]; decide) hn
        have hat : (nameP L C.1).1.e = 0 → (nameP L C.1).1.at_ = C.1.at_ + 1 := fun e => by rw [(name_ok e).2.1]; rfl
        split at h
        · split at h
          · cases h
          · rename_i s1 x hx1
            have g1 := (hg _ _ hx1).1
            have ga := add_gd (L := L) (s := s1) 22 (tokP L C.1 0).at_ (nameP L C.1).2 0 [x]
            have g3 := take_gr (L := L) (s := (addP s1 22 (tokP L C.1 0).at_ (nameP L C.1).2 0 [x]).1) gComma
            have fin : (addP s1 22 (tokP L C.1 0).at_ (nameP L C.1).2 0 [x]).1.e = 0 → Bk L (addP s1 22 (tokP L C.1 0).at_ (nameP L C.1).2 0 [x]).1 (P ++ (out ++ [(addP s1 22 (tokP L C.1 0).at_ (nameP L C.1).2 0 [x]).2])) ∧ ParOk (addP s1 22 (tokP L C.1 0).at_ (nameP L C.1).2 0 [x]).1.ns (out ++ [(addP s1 22 (tokP L C.1 0).at_ (nameP L C.1).2 0 [x]).2]) true := fun e => by
              have e1 : s1.e = 0 := (add_gr (L := L) ..).pos e
              have en := gq.pos (g1.pos e1)
              obtain ⟨b1, x1⟩ := hex _ _ _ hx1 e1 ((hb.mv mc).mv (name_mv.trans (take_mv _)))
              have := add_bk (P := P ++ out) (kids := [x]) b1 e (.inr (.inr (.inr (.inr (.inr (.inr (.inr (.inr ⟨rfl, by simp, all_snoc (l := []) (fun k hk => by cases hk) x1⟩)))))))) ⟨.inl rfl, .inr (.inl ⟨by simp, (name_ok en).1, name_mem en⟩)⟩ (hpl _ en (by rw [← hat en]; exact (gq.trans g1).up))
              rw [List.append_assoc] at this
              refine ⟨this.1, .some_ (hx.gr ((((gc.trans gn).trans gq).trans g1).trans ga.1)) ?_⟩
              obtain ⟨k, nd, h1, h2, h3, h4⟩ := this.2
              exact ⟨k, nd, h1, h2, h3, by rw [h4]; simp⟩
            split at h
            · have hin := in_snoc (in_all hx.in_ (((((gc.trans gn).trans gq).trans g1).trans ga.1).trans g3)) (ga.2.mono g3)
              obtain ⟨b2, p2⟩ := fin (g3.pos ((paramsE_gl hg m _ _ _ _ hin h).1.pos he))
              exact paramsE_bk hex hg m _ P _ _ r h he (b2.mv (take_mv _)) (p2.gr g3)
            · obtain rfl := Option.some.inj h
              have g4 := need_gr (L := L) (s := (takeP L gComma (addP s1 22 (tokP L C.1 0).at_ (nameP L C.1).2 0 [x]).1).1) gColon
              obtain ⟨b2, p2⟩ := fin (g3.pos (g4.pos he))
              exact ⟨(b2.mv (take_mv _)).mv (need_mv _), true, p2.gr (g3.trans g4)⟩
        · have gf : Gr L.length 0 (takeP L gEq (nameP L C.1).1).1 (if late = true then failP (takeP L gEq (nameP L C.1).1).1 30 C.1.at_ else (takeP L gEq (nameP L C.1).1).1) := by
            split
            · refine fail_gr (.inl rfl) rfl fun hh => ?_
              have h1 := gn.up
              have h2 := gq.up
              omega
            · exact Gr.refl _ _
          have mf : Mv (takeP L gEq (nameP L C.1).1).1 (if late = true then failP (takeP L gEq (nameP L C.1).1).1 30 C.1.at_ else (takeP L gEq (nameP L C.1).1).1) := by
            split
            · exact fail_mv _ _
            · exact Mv.refl _
          have hl : (if late = true then failP (takeP L gEq (nameP L C.1).1).1 30 C.1.at_ else (takeP L gEq (nameP L C.1).1).1).e = 0 → late = false := fun e => by
            split at e
            · exact absurd e (fail_bad _ _ (by decide))
            · rename_i hh
              exact Bool.eq_false_iff.2 hh
          generalize (if late = true then failP (takeP L gEq (nameP L C.1).1).1 30 C.1.at_ else (takeP L gEq (nameP L C.1).1).1) = s1 at h gf mf hl
          have ga := add_gd (L := L) (s := s1) 22 (tokP L C.1 0).at_ (nameP L C.1).2 0 []
          have g3 := take_gr (L := L) (s := (addP s1 22 (tokP L C.1 0).at_ (nameP L C.1).2 0 []).1) gComma
          have fin : (addP s1 22 (tokP L C.1 0).at_ (nameP L C.1).2 0 []).1.e = 0 → late = false ∧ Bk L (addP s1 22 (tokP L C.1 0).at_ (nameP L C.1).2 0 []).1 (P ++ (out ++ [(addP s1 22 (tokP L C.1 0).at_ (nameP L C.1).2 0 []).2])) ∧ ParOk (addP s1 22 (tokP L C.1 0).at_ (nameP L C.1).2 0 []).1.ns (out ++ [(addP s1 22 (tokP L C.1 0).at_ (nameP L C.1).2 0 []).2]) false := fun e => by
            have e1 : s1.e = 0 := (add_gr (L := L) ..).pos e
            have en := gq.pos (gf.pos e1)
            obtain rfl := hl e1
            have b1 := ((hb.mv mc).mv (name_mv.trans (take_mv _))).mv mf
            have := add_bk (P := P ++ out) (kids := []) (by rw [List.append_nil]; exact b1) e (.inr (.inr (.inr (.inr (.inr (.inr (.inr (.inr ⟨rfl, by simp, fun k hk => by cases hk⟩)))))))) ⟨.inl rfl, .inr (.inl ⟨by simp, (name_ok en).1, name_mem en⟩)⟩ (hpl _ en (by rw [← hat en]; exact (gq.trans gf).up))
            rw [List.append_assoc] at this
            exact ⟨rfl, this.1, .none_ (hx.gr ((((gc.trans gn).trans gq).trans gf).trans ga.1)) this.2⟩
          split at h
          · have hin := in_snoc (in_all hx.in_ (((((gc.trans gn).trans gq).trans gf).trans ga.1).trans g3)) (ga.2.mono g3)
            obtain ⟨rfl, b2, p2⟩ := fin (g3.pos ((paramsE_gl hg m _ _ _ _ hin h).1.pos he))
            exact paramsE_bk hex hg m _ P _ _ r h he (b2.mv (take_mv _)) (p2.gr g3)
          · obtain rfl := Option.some.inj h
            have g4 := need_gr (L := L) (s := (takeP L gComma (addP s1 22 (tokP L C.1 0).at_ (nameP L C.1).2 0 []).1).1) gColon
            obtain ⟨rfl, b2, p2⟩ := fin (g3.pos (g4.pos he))
            exact ⟨(b2.mv (take_mv _)).mv (need_mv _), false, p2.gr (g3.trans g4)⟩
theorem exprB_bk (hex : BkE L ex) (hg : GdE L.length ex) (m : Nat) : BkE L (exprB ex L m) := by
  intro s P r h he hb
  unfold exprB at h
  simp only at h
  split at h
  · rename_i hc
    split at h
    · cases h
    · rename_i s1 kids hk
      split at h
      · cases h
      · rename_i s2 x hx1
        obtain rfl := Option.some.inj h
        have hst := take_step hc
        rw [take_is] at hc
        have g1 := (paramsE_gl hg _ _ _ _ _ (fun k hk => by cases hk) hk).1
        have g2 := (hg _ _ hx1).1
        have e2 : s2.e = 0 := (add_gr (L := L) ..).pos he
        obtain ⟨b1, late, p1⟩ := paramsE_bk hex hg m _ P [] false _ hk (g2.pos e2) (by rw [List.append_nil]; exact hb.mv (take_mv _)) .nil
        obtain ⟨b2, x2⟩ := hex _ _ _ hx1 e2 b1
        rw [List.append_assoc] at b2
        have := add_bk (P := P) (kids := kids ++ [x]) b2 he (.inr (.inr (.inr (.inr (.inr (.inr (.inr (.inl ⟨rfl, kids, x, late, rfl, p1.gr g2, x2⟩)))))))) ⟨.inl rfl, by simp⟩ (is_place hc (by have := (g1.trans g2).up; rw [hst.1] at this; exact this))
        exact ⟨this.1, this.2.x (by constructor <;> decide)⟩
  · split at h
    · cases h
    · rename_i s1 x hx1
      have g2 := take_gr (L := L) (s := s1) kIf
      split at h
      · split at h
        · cases h
        · rename_i s2 y hy
          split at h
          · cases h
          · rename_i s3 z hz
            obtain rfl := Option.some.inj h
            have g3 := (orE_gd hg m _ _ hy).1
            have g4 := need_gr (L := L) (s := s2) kElse
            have g5 := (hg _ _ hz).1
            have e3 : s3.e = 0 := (add_gr (L := L) ..).pos he
            obtain ⟨b1, x1⟩ := orE_bk hex hg m _ _ _ hx1 (g2.pos (g3.pos (g4.pos (g5.pos e3)))) (hb.mv (take_mv _))
            obtain ⟨b2, x2⟩ := orE_bk hex hg m _ _ _ hy (g4.pos (g5.pos e3)) (b1.mv (take_mv _))
            obtain ⟨b3, x3⟩ := hex _ _ _ hz e3 (b2.mv (need_mv _))
            have x1' := x1.gr (((g2.trans g3).trans g4).trans g5)
            have hpl := b3.place x1'
            have := add_bk (P := P) (kids := [x, y, z]) (by simpa using b3) he (.inr (.inr (.inr (.inr (.inr (.inl ⟨by simp, rfl, all_snoc (l := [x, y]) (all_snoc (l := [x]) (all_snoc (l := []) (fun k hk => by cases hk) x1') (x2.gr (g4.trans g5))) x3⟩)))))) ⟨.inl rfl, by simp⟩ hpl
            exact ⟨this.1, this.2.x (by constructor <;> decide)⟩
      · obtain rfl := Option.some.inj h
        obtain ⟨b1, x1⟩ := orE_bk hex hg m _ _ _ hx1 (g2.pos he) (hb.mv (take_mv _))
        exact ⟨b1.mv (take_mv _), x1.gr g2⟩
end
theorem exprE_bk (L : List TokD) : ∀ m, BkE L (exprE L m)
  | 0 => fun s P r h he hb => by cases h
  | m + 1 => exprB_bk (exprE_bk L m) (exprE_gd L m) m
/-- a parse that went well -/
theorem parsed_bk {L : List TokD} {m : Nat} {r : PS × Int} (h : exprE L m startS = some r) (he : r.1.e = 0) : Bk L r.1 [r.2] ∧ XAt r.1.ns r.2 :=
  exprE_bk L m startS [] r h he (BkN.mk rfl (fun i x hx => by cases hx) (fun i => by simp [kidsAll, startS]) (fun k hk => by cases hk))
end Go.Proofs.YtjdcicopjipmnaaDoor
