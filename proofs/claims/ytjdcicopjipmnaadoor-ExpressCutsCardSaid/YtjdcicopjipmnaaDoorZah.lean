/- Trees written as tokens: each shape parses to itself. Trees written as tokens: each shape parses to itself (2). Trees written as tokens: each shape parses to itself (3); all of them. Trees written as tokens: all of them parse to themselves, and no beginning between brackets does. -/
import Derived.Test.YtjdcicopjipmnaaDoorZag
namespace Go.Proofs.YtjdcicopjipmnaaDoor
section
set_option linter.unusedVariables false
set_option linter.unusedSimpArgs false
def AtL (L : List TokD) (a : Nat) (l : List TokD) : Prop := ∃ rest, L.drop a = l ++ rest
section
variable {L : List TokD} {a : Nat} {l l' : List TokD} {t : TokD}
theorem AtL.left (h : AtL L a (l ++ l')) : AtL L a l := by
 obtain ⟨r, h⟩ := h
 exact ⟨l' ++ r, by rw [h, List.append_assoc]⟩
theorem AtL.right (h : AtL L a (l ++ l')) : AtL L (a + l.length) l' := by
 obtain ⟨r, h⟩ := h
 exact ⟨r, by rw [← List.drop_drop, h, List.append_assoc, List.drop_left]⟩
theorem AtL.head (h : AtL L a (t :: l)) : L[a]? = some t := by
 obtain ⟨r, h⟩ := h
 have : (L.drop a)[0]? = some t := by rw [h]; rfl
 rw [List.getElem?_drop] at this
 exact this
theorem AtL.tail (h : AtL L a (t :: l)) : AtL L (a + 1) l := AtL.right (l := [t]) h
def nx (L : List TokD) (a : Nat) : TokD := (L[a]?).getD zeroT
theorem AtL.nx (h : AtL L a (t :: l)) : nx L a = t := by unfold Go.Proofs.YtjdcicopjipmnaaDoor.nx; rw [h.head]; rfl
end
def startT (t : TokD) : Bool := decide (t.k = 2) || decide (t.k = 3) || decide (t.k = 1) || (decide (t.k = 4) && [gLp, gLb, gLc, gMinus].any fun u => decide (t.s = u))
section
variable {L : List TokD} {s : PS} {a : Nat} {ks : List Tr}
theorem tok_built (he : s.e = 0) : tokP L (built s a ks) 0 = nx L a := by
 unfold tokP
 rw [if_neg (show ¬ (built s a ks).e ≠ 0 from fun e => e he)]
 rfl
theorem tok_here (he : s.e = 0) : tokP L s 0 = nx L s.at_ := by
 unfold tokP
 rw [if_neg (fun e => e he)]
 rfl
theorem built_ok (hl : s.dp.length = s.ns.length) : (built s a ks).dp.length = (built s a ks).ns.length := by
 unfold built
 simp [hl, depss_len, flats_len]
theorem take_sign {u : ByteArray} (hk : tokP L s 0 = signT u) (hu : kwB u = false) : takeP L u s = (stepP s 1, true) := by
 have h : isP L s u 0 = true := by
  rw [isP_eq, hk]
  unfold isT
  rw [hu]
  simp [signT]
 have h2 : (takeP L u s).2 = true := by rw [take_is]; exact h
 exact Prod.ext (take_step h2).1 h2
theorem take_word {u : ByteArray} (hk : tokP L s 0 = wordT u) (hu : kwB u = true) : takeP L u s = (stepP s 1, true) := by
 have h : isP L s u 0 = true := by
  rw [isP_eq, hk]
  unfold isT
  rw [hu]
  simp [wordT]
 have h2 : (takeP L u s).2 = true := by rw [take_is]; exact h
 exact Prod.ext (take_step h2).1 h2
theorem need_sign {u : ByteArray} (hk : tokP L s 0 = signT u) (hu : kwB u = false) : needP L u s = stepP s 1 := by
 unfold needP
 rw [take_sign hk hu, if_pos (by first | trivial | rfl)]
theorem need_word {u : ByteArray} (hk : tokP L s 0 = wordT u) (hu : kwB u = true) : needP L u s = stepP s 1 := by
 unfold needP
 rw [take_word hk hu, if_pos (by first | trivial | rfl)]
theorem start_no {t : TokD} (h : startT t = true) {u : ByteArray} (hu : [gRp, gRb, gRc, gColon, gComma].any (fun v => decide (v = u)) = true) : isT t u = false := by
 cases hi : isT t u with
 | false => rfl
 | true =>
  exfalso
  unfold isT at hi
  rw [Bool.and_eq_true] at hi
  have h1 := of_decide_eq_true hi.1
  have h2 := of_decide_eq_true hi.2
  have hk : kwB u = false ∧ [gLp, gLb, gLc, gMinus].any (fun v => decide (u = v)) = false := by
   simp only [List.any_cons, List.any_nil, Bool.or_false, Bool.or_eq_true, decide_eq_true_eq] at hu
   rcases hu with rfl | rfl | rfl | rfl | rfl <;> decide
  rw [hk.1] at h1
  simp only [Bool.false_eq_true, if_false] at h1
  unfold startT at h
  rw [h1, h2] at h
  revert h
  rw [hk.2]
  decide
end
def RetX (L : List TokD) (e : Tr) : Prop := ∀ (m : Nat) (s : PS), s.e = 0 → s.dp.length = s.ns.length → AtL L s.at_ (Tr.toks e) → noT hExpr (nx L (s.at_ + (Tr.toks e).length)) = true → Rt (exprE L m s) (built s (s.at_ + (Tr.toks e).length) [e], topOf s e)
def Begins (e : Tr) : Prop := ∃ t l, Tr.toks e = t :: l ∧ startT t = true
section
variable {L : List TokD} {s : PS} {m m' : Nat}
theorem at_begin {e : Tr} (hb : Begins e) {a : Nat} {l : List TokD} (h : AtL L a (Tr.toks e ++ l)) : startT (nx L a) = true := by
 obtain ⟨t, l, h1, h2⟩ := hb
 rw [h1] at h
 rw [show nx L a = t from h.nx]
 exact h2
theorem inside_atom {e : Tr} (hx : RetX L e) (hb : Begins e) (he : s.e = 0) (hl : s.dp.length = s.ns.length) (ha : AtL L s.at_ (insideT (Tr.toks e))) : Rt (atomE (exprE L m) L m' s) (built s (s.at_ + (insideT (Tr.toks e)).length) [e], topOf s e) := by
 intro q hq
 have h0 := ha.nx
 have h1 := ha.tail
 have h2 := at_begin hb h1
 have h3 := h1.right
 have h4 := h3.nx
 unfold atomE at hq
 simp only [tok_here (L := L) he, h0] at hq
 rw [if_neg (by decide), if_neg (by decide), if_neg (by decide), if_pos (by decide), if_pos (by first | trivial | rfl)] at hq
 unfold roundE at hq
 have t0 : takeP L gRp (stepP s 1) = (stepP s 1, false) := take_none (by rw [isP_eq, tok_here (s := stepP s 1) he]; exact start_no h2 (by decide))
 rw [t0, if_neg (by first | decide | simp)] at hq
 split at hq
 ·cases hq
 ·rename_i s1 x hx1
  obtain ⟨rfl, rfl⟩ := Prod.mk.inj (hx m (stepP s 1) he hl h1.left (by show noT hExpr (nx L (s.at_ + 1 + _)) = true; rw [h4]; decide) _ hx1)
  have t1 := take_sign (L := L) (s := built (stepP s 1) ((stepP s 1).at_ + (Tr.toks e).length) [e]) (u := gRp) (by rw [tok_built (s := stepP s 1) he]; exact h4) (by decide)
  rw [t1, if_pos (by first | trivial | rfl)] at hq
  obtain rfl := Option.some.inj hq
  refine Prod.ext ?_ rfl
  show built s (s.at_ + 1 + (Tr.toks e).length + 1) [e] = built s _ [e]
  congr 1
  simp only [insideT, List.length_cons, List.length_append, List.length_nil]
  omega
theorem depm_mem : ∀ (ks : List Tr) (k : Tr), k ∈ ks → Tr.dep k ≤ Tr.depm ks
 | k :: ks, x, h => by
  simp only [Tr.depm]
  rcases List.mem_cons.1 h with rfl | h
  ·omega
  ·have := depm_mem ks x h
   omega
theorem row_back {fin : ByteArray} (hf : fin = gRp ∨ fin = gRb) (all : Bool) : ∀ (ks : List Tr) (m' : Nat) (s : PS) (a : Nat) (pre : List Tr), (∀ k ∈ ks, RetX L k ∧ Begins k) → s.e = 0 → s.dp.length = s.ns.length → AtL L a (rowsT all (Tr.tokss ks) ++ [signT fin]) →
  Rt (rowE (exprE L m) L fin m' (built s a pre) (Tr.idxs s.ns.length pre)) (built s (a + (rowsT all (Tr.tokss ks)).length + 1) (pre ++ ks), Tr.idxs s.ns.length (pre ++ ks))
 | ks, 0, s, a, pre, hk, he, hl, ha => fun q hq => by cases hq
 | [], m' + 1, s, a, pre, hk, he, hl, ha => by
  intro q hq
  unfold rowE at hq
  rw [if_neg (show ¬ (built s a pre).e ≠ 0 from fun e => e he)] at hq
  have t0 := take_sign (L := L) (s := built s a pre) (u := fin) (by rw [tok_built he]; exact ha.nx) (by rcases hf with rfl | rfl <;> decide)
  rw [t0, if_pos (by first | trivial | rfl)] at hq
  obtain rfl := Option.some.inj hq
  rw [List.append_nil]
  rfl
 | k :: ks, m' + 1, s, a, pre, hk, he, hl, ha => by
  intro q hq
  have hs : kwB fin = false ∧ [gRp, gRb, gRc, gColon, gComma].any (fun v => decide (v = fin)) = true ∧ noT hExpr (signT fin) = true ∧ isT (signT fin) gComma = false := by rcases hf with rfl | rfl <;> decide
  obtain ⟨hx, hb⟩ := hk k (.head _)
  have ha0 : AtL L a (Tr.toks k ++ (((if all || !(Tr.tokss ks).isEmpty then [signT gComma] else []) ++ rowsT all (Tr.tokss ks)) ++ [signT fin])) := by
   have := ha
   simp only [Tr.tokss, rowsT, List.append_assoc] at this ⊢
   exact this
  have h2 := at_begin hb ha0
  unfold rowE at hq
  rw [if_neg (show ¬ (built s a pre).e ≠ 0 from fun e => e he)] at hq
  have t0 : takeP L fin (built s a pre) = (built s a pre, false) := take_none (by rw [isP_eq, tok_built he]; exact start_no h2 hs.2.1)
  rw [t0, if_neg (by first | decide | simp)] at hq
  have h3 := ha0.right
  split at hq
  ·cases hq
  ·rename_i s1 x hx1
   by_cases hc : (all || !(Tr.tokss ks).isEmpty) = true
   ·rw [if_pos hc] at h3
    have h4 := h3.nx
    obtain ⟨rfl, rfl⟩ := Prod.mk.inj (hx m (built s a pre) he (built_ok hl) ha0.left (by show noT hExpr (nx L (a + _)) = true; rw [h4]; decide) _ hx1)
    rw [built_app] at hq
    have t1 := take_sign (L := L) (s := built s (a + (Tr.toks k).length) (pre ++ [k])) (u := gComma) (by rw [tok_built he]; exact h4) (by decide)
    rw [show (built s a pre).at_ = a from rfl, t1, if_pos (by first | trivial | rfl), ← top_built, built_step] at hq
    have h5 := row_back hf all ks m' s (a + (Tr.toks k).length + 1) (pre ++ [k]) (fun k hk' => hk k (.tail _ hk')) he hl h3.tail q hq
    rw [h5, List.append_assoc]
    simp only [Tr.tokss, rowsT, if_pos hc, LL, List.cons_append, List.nil_append]
    congr 2
    omega
   ·rw [if_neg hc] at h3
    have hall : all = false := by
     cases all with
     | false => rfl
     | true => exact absurd rfl hc
    have hks : ks = [] := by
     cases ks with
     | nil => rfl
     | cons y ys => exact absurd (by simp [Tr.tokss]) hc
    subst hks
    have h4 : nx L (a + (Tr.toks k).length) = signT fin := h3.nx
    obtain ⟨rfl, rfl⟩ := Prod.mk.inj (hx m (built s a pre) he (built_ok hl) ha0.left (by show noT hExpr (nx L (a + _)) = true; rw [h4]; exact hs.2.2.1) _ hx1)
    rw [built_app] at hq
    have t1 : takeP L gComma (built s (a + (Tr.toks k).length) (pre ++ [k])) = (_, false) := take_none (by rw [isP_eq, tok_built he, h4]; exact hs.2.2.2)
    have t2 := need_sign (L := L) (s := built s (a + (Tr.toks k).length) (pre ++ [k])) (u := fin) (by rw [tok_built he]; exact h4) hs.1
    rw [show (built s a pre).at_ = a from rfl, t1, if_neg (by first | decide | simp), t2, ← top_built, built_step] at hq
    obtain rfl := Option.some.inj hq
    have hz : (rowsT all (Tr.tokss [k])).length = (Tr.toks k).length := by
     subst hall
     simp [Tr.tokss, rowsT]
    rw [hz]
theorem pairs_back : ∀ (ks : List Tr) (m' : Nat) (s : PS) (a : Nat) (pre : List Tr), (∀ k ∈ ks, RetX L k ∧ Begins k) → ks.length % 2 = 0 → s.e = 0 → s.dp.length = s.ns.length → AtL L a (pairsT (Tr.tokss ks) ++ [signT gRc]) →
  Rt (pairsE (exprE L m) L m' (built s a pre) (Tr.idxs s.ns.length pre)) (built s (a + (pairsT (Tr.tokss ks)).length + 1) (pre ++ ks), Tr.idxs s.ns.length (pre ++ ks))
 | ks, 0, s, a, pre, hk, hev, he, hl, ha => fun q hq => by cases hq
 | [], m' + 1, s, a, pre, hk, hev, he, hl, ha => by
  intro q hq
  unfold pairsE at hq
  rw [if_neg (show ¬ (built s a pre).e ≠ 0 from fun e => e he)] at hq
  have t0 := take_sign (L := L) (s := built s a pre) (u := gRc) (by rw [tok_built he]; exact ha.nx) (by decide)
  rw [t0, if_pos (by first | trivial | rfl)] at hq
  obtain rfl := Option.some.inj hq
  rw [List.append_nil]
  rfl
 | [k], m' + 1, s, a, pre, hk, hev, he, hl, ha => by simp at hev
 | k :: v :: ks, m' + 1, s, a, pre, hk, hev, he, hl, ha => by
  intro q hq
  obtain ⟨hx, hb⟩ := hk k (.head _)
  obtain ⟨hv, hbv⟩ := hk v (.tail _ (.head _))
  have ha0 : AtL L a (Tr.toks k ++ (signT gColon :: (Tr.toks v ++ (signT gComma :: (pairsT (Tr.tokss ks) ++ [signT gRc]))))) := by
   have := ha
   simp only [Tr.tokss, pairsT, List.append_assoc, List.cons_append] at this ⊢
   exact this
  have h2 := at_begin hb ha0
  unfold pairsE at hq
  rw [if_neg (show ¬ (built s a pre).e ≠ 0 from fun e => e he)] at hq
  have t0 : takeP L gRc (built s a pre) = (built s a pre, false) := take_none (by rw [isP_eq, tok_built he]; exact start_no h2 (by decide))
  rw [t0, if_neg (by first | decide | simp)] at hq
  have h3 := ha0.right
  have h4 := h3.nx
  split at hq
  ·cases hq
  ·rename_i s1 x hx1
   obtain ⟨rfl, rfl⟩ := Prod.mk.inj (hx m (built s a pre) he (built_ok hl) ha0.left (by show noT hExpr (nx L (a + _)) = true; rw [h4]; decide) _ hx1)
   rw [built_app] at hq
   have t1 := need_sign (L := L) (s := built s (a + (Tr.toks k).length) (pre ++ [k])) (u := gColon) (by rw [tok_built he]; exact h4) (by decide)
   rw [show (built s a pre).at_ = a from rfl, t1, built_step] at hq
   have h5 := h3.tail.right
   have h6 := h5.nx
   split at hq
   ·cases hq
   ·rename_i s2 y hy1
    obtain ⟨rfl, rfl⟩ := Prod.mk.inj (hv m (built s (a + (Tr.toks k).length + 1) (pre ++ [k])) he (built_ok hl) h3.tail.left (by show noT hExpr (nx L (a + _ + 1 + _)) = true; rw [h6]; decide) _ hy1)
    rw [built_app] at hq
    have t2 := take_sign (L := L) (s := built s (a + (Tr.toks k).length + 1 + (Tr.toks v).length) (pre ++ [k] ++ [v])) (u := gComma) (by rw [tok_built he]; exact h6) (by decide)
    rw [show (built s (a + (Tr.toks k).length + 1) (pre ++ [k])).at_ = a + (Tr.toks k).length + 1 from rfl, t2, if_pos (by first | trivial | rfl), built_step] at hq
    have e2 : Tr.idxs s.ns.length pre ++ [topOf (built s a pre) k, topOf (built s (a + (Tr.toks k).length + 1) (pre ++ [k])) v] = Tr.idxs s.ns.length (pre ++ [k] ++ [v]) := by
     rw [top_built s (a + (Tr.toks k).length + 1) (pre ++ [k]) v, top_built s a pre k, List.append_assoc]
     rfl
    rw [e2] at hq
    have h7 := pairs_back ks m' s _ (pre ++ [k] ++ [v]) (fun k hk' => hk k (.tail _ (.tail _ hk'))) (by simp only [List.length_cons] at hev; omega) he hl h5.tail q hq
    rw [h7, List.append_assoc, List.append_assoc]
    simp only [Tr.tokss, pairsT, List.length_append, List.length_cons, List.cons_append, List.nil_append]
    congr 2
    omega
end
end
section
set_option linter.unusedVariables false
set_option linter.unusedSimpArgs false
section
variable {L : List TokD} {s : PS} {m m' : Nat}
theorem built_at (s : PS) : built s (s.at_ + 1) [] = stepP s 1 := by simp [built, stepP, Tr.flats, Tr.depss]
theorem any_pick {t : TokD} (h : tokP L s 0 = t) {u : ByteArray} : ∀ {signs : List ByteArray}, signs.find? (fun u => isT t u) = some u → anyP L signs s = (stepP s 1, u, true)
 | [], hf => by cases hf
 | v :: signs, hf => by
  unfold anyP
  rw [isP_eq, h]
  rw [List.find?_cons] at hf
  split at hf
  ·rename_i hv
   obtain rfl := Option.some.inj hf
   rw [if_pos hv]
  ·rename_i hv
   rw [if_neg (by rw [hv]; decide)]
   exact any_pick h hf
theorem add_two (he : s.e = 0) (hl : s.dp.length = s.ns.length) {x y : Tr} (b c : Nat) (op : Int) (t : ByteArray) (hd : Tr.depm [x, y] < 40) :
  addP (built (built s b [x]) c [y]) op (placeOf (built (built s b [x]) c [y]) (topOf s x)) t 0 [topOf s x, topOf (built s b [x]) y] = (built s c [.mk op 0 t [x, y]], topOf s (.mk op 0 t [x, y])) := by
 rw [built_app, place_built _ _ _ _ (top_ge s x)]
 have := add_built he hl c op 0 t [x, y] hd
 rw [← this]
 congr 1
 exact (top_built s b [x] y).symm
theorem add_three (he : s.e = 0) (hl : s.dp.length = s.ns.length) {x y z : Tr} (b b2 c : Nat) (op : Int) (t : ByteArray) {a : Int} (ha : a = 0) (hd : Tr.depm [x, y, z] < 40) :
  addP (built s c [x, y, z]) op a t 0 [topOf s x, topOf (built s b [x]) y, topOf (built s b2 [x, y]) z] = (built s c [.mk op 0 t [x, y, z]], topOf s (.mk op 0 t [x, y, z])) := by
 subst ha
 have := add_built he hl c op 0 t [x, y, z] hd
 rw [← this]
 congr 1
 have h1 := top_built s b2 [x, y] z
 have h2 := top_built s b [x] y
 rw [show ([x, y, z] : List Tr) = [x, y] ++ [z] from rfl, h1, show ([x, y] : List Tr) = [x] ++ [y] from rfl, h2]
 rfl
theorem leaf_back {op n : Int} {t : ByteArray} {tk : TokD} (ht : Tr.toks (.mk op n t []) = [tk]) (h0 : noT [gMinus, kNot, kLambda] tk = true)
  (hat : ∀ (ex : Ex) (m : Nat) (s : PS), tokP L s 0 = tk → atomE ex L m s = some (addP (stepP s 1) op 0 t n [])) : RetX L (.mk op n t []) := by
 intro m s he hl ha hn
 rw [ht] at ha hn ⊢
 cases m with
 | zero => exact fun q hq => by cases hq
 | succ m =>
  have h1 : tokP L s 0 = tk := by rw [tok_here he]; exact ha.nx
  have hr : addP (stepP s 1) op 0 t n [] = (built s (s.at_ + 1) [.mk op n t []], topOf s (.mk op n t [])) := by
   have := add_built he hl (s.at_ + 1) op n t [] (by show (0 : Int) < 40; decide)
   rw [built_at] at this
   exact this
  refine expr_of_atom (r := (built s (s.at_ + 1) [.mk op n t []], topOf s (.mk op n t []))) ?_ (by rw [h1]; exact h0) (by rw [tok_built he]; exact hn)
  intro q hq
  rw [hat _ _ _ h1, hr] at hq
  exact (Option.some.inj hq).symm
theorem name_no {t : ByteArray} (h : nameB t = true) : kwB t = false := by
 unfold nameB at h
 split at h
 ·cases h
 ·simp only [Bool.and_eq_true, Bool.not_eq_true'] at h
  exact h.2
theorem name_off {t : ByteArray} (h : nameB t = true) {u : ByteArray} (hu : kwB u = true) : t ≠ u := by
 rintro rfl
 rw [name_no h] at hu
 cases hu
theorem word_no {t u : ByteArray} (h : nameB t = true) : isT (wordT t) u = false := by
 cases hi : isT (wordT t) u with
 | false => rfl
 | true =>
  exfalso
  unfold isT at hi
  rw [Bool.and_eq_true] at hi
  have h1 := of_decide_eq_true hi.1
  have h2 : t = u := of_decide_eq_true hi.2
  subst h2
  rw [name_no h] at h1
  exact absurd h1 (show ¬ ((1 : Int) = if false = true then 1 else 4) by decide)
theorem leaf_word {op : Int} {t : ByteArray} (hop : wordOp t = some op) (ht : Tr.toks (.mk op 0 ⟨#[]⟩ []) = [wordT t]) (h0 : noT [gMinus, kNot, kLambda] (wordT t) = true) : RetX L (.mk op 0 ⟨#[]⟩ []) :=
 leaf_back ht h0 fun ex m s h => by
  unfold atomE
  simp only [h]
  rw [if_neg (show ¬ (wordT t).k = 2 from (show ¬ (1 : Int) = 2 by decide)), if_neg (show ¬ (wordT t).k = 3 from (show ¬ (1 : Int) = 3 by decide)), if_pos (show (wordT t).k = 1 from rfl)]
  rw [show (wordT t).s = t from rfl, hop]
  rfl
theorem brackets_back {op : Int} {ks : List Tr} {l : List TokD} (hd : Tr.depm ks < 40) (ht : Tr.toks (.mk op 0 ⟨#[]⟩ ks) = l) {tk : TokD} {l1 : List TokD} (hl1 : l = tk :: l1) (h0 : noT [gMinus, kNot, kLambda] tk = true)
  (hat : ∀ (m m' : Nat) (s : PS), s.e = 0 → s.dp.length = s.ns.length → AtL L s.at_ l → Rt (atomE (exprE L m) L m' s) (addP (built s (s.at_ + l.length) ks) op 0 ⟨#[]⟩ 0 (Tr.idxs s.ns.length ks))) : RetX L (.mk op 0 ⟨#[]⟩ ks) := by
 intro m s he hl ha hn
 rw [ht] at ha hn ⊢
 cases m with
 | zero => exact fun q hq => by cases hq
 | succ m =>
  have h1 : tokP L s 0 = tk := by rw [tok_here he]; rw [hl1] at ha; exact ha.nx
  refine expr_of_atom ?_ (by rw [h1]; exact h0) (by rw [tok_built he]; exact hn)
  have := hat m m s he hl ha
  rw [add_built he hl (s.at_ + l.length) op 0 ⟨#[]⟩ ks hd] at this
  exact this
theorem list_back {ks : List Tr} (hk : ∀ k ∈ ks, RetX L k ∧ Begins k) (hd : Tr.depm ks < 40) : RetX L (.mk 7 0 ⟨#[]⟩ ks) := by
 refine brackets_back hd (l := signT gLb :: (rowsT false (Tr.tokss ks) ++ [signT gRb])) (by simp [Tr.toks, lay]) rfl (by decide) ?_
 intro m m' s he hl ha q hq
 unfold atomE at hq
 simp only [tok_here (L := L) he, ha.nx] at hq
 rw [if_neg (by decide), if_neg (by decide), if_neg (by decide), if_pos (by decide), if_neg (by decide), if_pos (by decide)] at hq
 split at hq
 ·cases hq
 ·rename_i s1 x hx
  rw [← built_at] at hx
  obtain ⟨rfl, rfl⟩ := Prod.mk.inj (row_back (m := m) (.inr rfl) false ks m' s (s.at_ + 1) [] hk he hl ha.tail _ hx)
  obtain rfl := Option.some.inj hq
  rw [List.nil_append]
  have e : s.at_ + 1 + (rowsT false (Tr.tokss ks)).length + 1 = s.at_ + (signT gLb :: (rowsT false (Tr.tokss ks) ++ [signT gRb])).length := by
   simp only [List.length_cons, List.length_append, List.length_nil]
   omega
  rw [e]
  rfl
theorem dict_back {ks : List Tr} (hk : ∀ k ∈ ks, RetX L k ∧ Begins k) (hev : ks.length % 2 = 0) (hd : Tr.depm ks < 40) : RetX L (.mk 9 0 ⟨#[]⟩ ks) := by
 refine brackets_back hd (l := signT gLc :: (pairsT (Tr.tokss ks) ++ [signT gRc])) (by simp [Tr.toks, lay]) rfl (by decide) ?_
 intro m m' s he hl ha q hq
 unfold atomE at hq
 simp only [tok_here (L := L) he, ha.nx] at hq
 rw [if_neg (by decide), if_neg (by decide), if_neg (by decide), if_pos (by decide), if_neg (by decide), if_neg (by decide), if_pos (by decide)] at hq
 split at hq
 ·cases hq
 ·rename_i s1 x hx
  rw [← built_at] at hx
  obtain ⟨rfl, rfl⟩ := Prod.mk.inj (pairs_back (m := m) ks m' s (s.at_ + 1) [] hk hev he hl ha.tail _ hx)
  obtain rfl := Option.some.inj hq
  rw [List.nil_append]
  have e : s.at_ + 1 + (pairsT (Tr.tokss ks)).length + 1 = s.at_ + (signT gLc :: (pairsT (Tr.tokss ks) ++ [signT gRc])).length := by
   simp only [List.length_cons, List.length_append, List.length_nil]
   omega
  rw [e]
  rfl
theorem tuple_back {ks : List Tr} (hk : ∀ k ∈ ks, RetX L k ∧ Begins k) (hd : Tr.depm ks < 40) : RetX L (.mk 8 0 ⟨#[]⟩ ks) := by
 refine brackets_back hd (l := signT gLp :: (rowsT true (Tr.tokss ks) ++ [signT gRp])) (by simp [Tr.toks, lay]) rfl (by decide) ?_
 intro m m' s he hl ha q hq
 unfold atomE at hq
 simp only [tok_here (L := L) he, ha.nx] at hq
 rw [if_neg (by decide), if_neg (by decide), if_neg (by decide), if_pos (by decide), if_pos (by first | trivial | rfl)] at hq
 unfold roundE at hq
 cases ks with
 | nil =>
  have h2 : nx L (s.at_ + 1) = signT gRp := ha.tail.nx
  rw [take_sign (L := L) (s := stepP s 1) (u := gRp) (by rw [tok_here (s := stepP s 1) he]; exact h2) (by decide), if_pos (by first | trivial | rfl)] at hq
  obtain rfl := Option.some.inj hq
  have e : built s (s.at_ + (signT gLp :: (rowsT true (Tr.tokss []) ++ [signT gRp])).length) [] = stepP (stepP s 1) 1 := by
   simp [built, stepP, Tr.flats, Tr.depss, Tr.tokss, rowsT]
  rw [e]
  rfl
 | cons k ks =>
  obtain ⟨hx, hb⟩ := hk k (.head _)
  have ha0 : AtL L (s.at_ + 1) (Tr.toks k ++ (signT gComma :: (rowsT true (Tr.tokss ks) ++ [signT gRp]))) := by
   have := ha.tail
   simp only [Tr.tokss, rowsT, Bool.true_or, if_true, List.append_assoc, List.cons_append, List.nil_append] at this ⊢
   exact this
  have h2 := at_begin hb ha0
  have t0 : takeP L gRp (stepP s 1) = (stepP s 1, false) := take_none (by rw [isP_eq, tok_here (s := stepP s 1) he]; exact start_no h2 (by decide))
  rw [t0, if_neg (by first | decide | simp)] at hq
  have h3 := ha0.right
  have h4 := h3.nx
  split at hq
  ·cases hq
  ·rename_i s1 x hx1
   obtain ⟨rfl, rfl⟩ := Prod.mk.inj (hx m (stepP s 1) he hl ha0.left (by show noT hExpr (nx L (s.at_ + 1 + _)) = true; rw [h4]; decide) _ hx1)
   have eb : built (stepP s 1) ((stepP s 1).at_ + (Tr.toks k).length) [k] = built s (s.at_ + 1 + (Tr.toks k).length) [k] := rfl
   rw [eb] at hq
   have t1 : takeP L gRp (built s (s.at_ + 1 + (Tr.toks k).length) [k]) = (_, false) := take_none (by rw [isP_eq, tok_built he, h4]; decide)
   have t2 := need_sign (L := L) (s := built s (s.at_ + 1 + (Tr.toks k).length) [k]) (u := gComma) (by rw [tok_built he]; exact h4) (by decide)
   rw [t1, if_neg (by first | decide | simp), t2, built_step] at hq
   split at hq
   ·cases hq
   ·rename_i s2 kids hr
    obtain ⟨rfl, rfl⟩ := Prod.mk.inj (row_back (m := m) (.inl rfl) true ks m' s _ [k] (fun k hk' => hk k (.tail _ hk')) he hl h3.tail _ hr)
    obtain rfl := Option.some.inj hq
    have e : s.at_ + 1 + (Tr.toks k).length + 1 + (rowsT true (Tr.tokss ks)).length + 1 = s.at_ + (signT gLp :: (rowsT true (Tr.tokss (k :: ks)) ++ [signT gRp])).length := by
     simp only [Tr.tokss, rowsT, Bool.true_or, if_true, List.length_cons, List.length_append, List.length_nil, List.cons_append, List.nil_append]
     omega
    rw [e]
    rfl
theorem inside_expr {e : Tr} (hx : RetX L e) (hb : Begins e) (he : s.e = 0) (hl : s.dp.length = s.ns.length) (ha : AtL L s.at_ (insideT (Tr.toks e))) (hn : noT hExpr (nx L (s.at_ + (insideT (Tr.toks e)).length)) = true) : Rt (exprE L m s) (built s (s.at_ + (insideT (Tr.toks e)).length) [e], topOf s e) := by
 cases m with
 | zero => exact fun q hq => by cases hq
 | succ m => exact expr_of_atom (inside_atom hx hb he hl ha) (by rw [tok_here he, ha.nx]; decide) (by rw [tok_built he]; exact hn)
theorem inside_fac {e : Tr} (hx : RetX L e) (hb : Begins e) (he : s.e = 0) (hl : s.dp.length = s.ns.length) (ha : AtL L s.at_ (insideT (Tr.toks e))) (hn : noT hFac (nx L (s.at_ + (insideT (Tr.toks e)).length)) = true) (k : Nat) : Rt (factorE (exprE L m) L m' k s) (built s (s.at_ + (insideT (Tr.toks e)).length) [e], topOf s e) :=
 fac_of_atom (inside_atom hx hb he hl ha) (by rw [tok_here he, ha.nx]; decide) (by rw [tok_built he]; exact hn) k
theorem inside_term {e : Tr} (hx : RetX L e) (hb : Begins e) (he : s.e = 0) (hl : s.dp.length = s.ns.length) (ha : AtL L s.at_ (insideT (Tr.toks e))) (hn : noT hTerm (nx L (s.at_ + (insideT (Tr.toks e)).length)) = true) : Rt (termE (exprE L m) L m' s) (built s (s.at_ + (insideT (Tr.toks e)).length) [e], topOf s e) :=
 term_of_fac (inside_fac hx hb he hl ha (h_fac hn) m') (by rw [tok_built he]; exact hn)
theorem inside_sum {e : Tr} (hx : RetX L e) (hb : Begins e) (he : s.e = 0) (hl : s.dp.length = s.ns.length) (ha : AtL L s.at_ (insideT (Tr.toks e))) (hn : noT hSum (nx L (s.at_ + (insideT (Tr.toks e)).length)) = true) : Rt (sumE (exprE L m) L m' s) (built s (s.at_ + (insideT (Tr.toks e)).length) [e], topOf s e) :=
 sum_of_term (inside_term hx hb he hl ha (h_term hn)) (by rw [tok_built he]; exact hn)
theorem inside_not {e : Tr} (hx : RetX L e) (hb : Begins e) (he : s.e = 0) (hl : s.dp.length = s.ns.length) (ha : AtL L s.at_ (insideT (Tr.toks e))) (hn : noT hNot (nx L (s.at_ + (insideT (Tr.toks e)).length)) = true) (k : Nat) : Rt (notE (exprE L m) L m' k s) (built s (s.at_ + (insideT (Tr.toks e)).length) [e], topOf s e) :=
 not_of_sum (inside_sum hx hb he hl ha (h_sum hn)) (by rw [tok_here he, ha.nx]; decide) (by rw [tok_built he]; exact hn) k
theorem inside_and {e : Tr} (hx : RetX L e) (hb : Begins e) (he : s.e = 0) (hl : s.dp.length = s.ns.length) (ha : AtL L s.at_ (insideT (Tr.toks e))) (hn : noT hAnd (nx L (s.at_ + (insideT (Tr.toks e)).length)) = true) : Rt (andE (exprE L m) L m' s) (built s (s.at_ + (insideT (Tr.toks e)).length) [e], topOf s e) :=
 and_of_not (inside_not hx hb he hl ha (h_not hn) m') (by rw [tok_built he]; exact hn)
theorem inside_or {e : Tr} (hx : RetX L e) (hb : Begins e) (he : s.e = 0) (hl : s.dp.length = s.ns.length) (ha : AtL L s.at_ (insideT (Tr.toks e))) (hn : noT hOr (nx L (s.at_ + (insideT (Tr.toks e)).length)) = true) : Rt (orE (exprE L m) L m' s) (built s (s.at_ + (insideT (Tr.toks e)).length) [e], topOf s e) :=
 or_of_and (inside_and hx hb he hl ha (h_and hn)) (by rw [tok_built he]; exact hn)
theorem hx_fac {t : TokD} (h : noT hExpr t = true) : noT hFac t = true := h_fac (h_term (h_sum (h_not (h_and (h_or h)))))
theorem hx_term {t : TokD} (h : noT hExpr t = true) : noT hTerm t = true := h_term (h_sum (h_not (h_and (h_or h))))
theorem hx_sum {t : TokD} (h : noT hExpr t = true) : noT hSum t = true := h_sum (h_not (h_and (h_or h)))
theorem hx_not {t : TokD} (h : noT hExpr t = true) : noT hNot t = true := h_not (h_and (h_or h))
theorem hx_and {t : TokD} (h : noT hExpr t = true) : noT hAnd t = true := h_and (h_or h)
theorem neg_back {x : Tr} (hx : RetX L x) (hb : Begins x) (hd : Tr.depm [x] < 40) : RetX L (.mk 10 0 ⟨#[]⟩ [x]) := by
 intro m s he hl ha hn
 have ht : Tr.toks (.mk 10 0 ⟨#[]⟩ [x]) = signT gMinus :: insideT (Tr.toks x) := by simp [Tr.toks, Tr.tokss, lay, nthT]
 rw [ht] at ha hn ⊢
 cases m with
 | zero => exact fun q hq => by cases hq
 | succ m =>
  have h0 := ha.nx
  have e : s.at_ + (signT gMinus :: insideT (Tr.toks x)).length = s.at_ + 1 + (insideT (Tr.toks x)).length := by simp only [List.length_cons]; omega
  rw [e] at hn ⊢
  have hf : ∀ k, Rt (factorE (exprE L m) L m k s) (built s (s.at_ + 1 + (insideT (Tr.toks x)).length) [.mk 10 0 ⟨#[]⟩ [x]], topOf s (.mk 10 0 ⟨#[]⟩ [x])) := by
   intro k q hq
   cases k with
   | zero => cases hq
   | succ k =>
    unfold factorE at hq
    simp only [tok_here (L := L) he, h0] at hq
    rw [take_sign (L := L) (by rw [tok_here he]; exact h0) (by decide), if_pos (by first | trivial | rfl)] at hq
    split at hq
    ·cases hq
    ·rename_i s1 y hy
     obtain ⟨rfl, rfl⟩ := Prod.mk.inj (inside_fac (s := stepP s 1) hx hb he hl ha.tail (hx_fac hn) k _ hy)
     obtain rfl := Option.some.inj hq
     exact add_built he hl _ 10 0 ⟨#[]⟩ [x] hd
  have hn' := hn
  refine expr_of_not (not_of_sum (sum_of_term (term_of_fac (hf m) ?_) ?_) ?_ ?_ m) ?_ ?_
  ·rw [tok_built he]; exact hx_term hn
  ·rw [tok_built he]; exact hx_sum hn
  ·rw [tok_here he, h0]; decide
  ·rw [tok_built he]; exact hx_not hn
  ·rw [tok_here he, h0]; decide
  ·rw [tok_built he]; exact hn
theorem nott_back {x : Tr} (hx : RetX L x) (hb : Begins x) (hd : Tr.depm [x] < 40) : RetX L (.mk 11 0 ⟨#[]⟩ [x]) := by
 intro m s he hl ha hn
 have ht : Tr.toks (.mk 11 0 ⟨#[]⟩ [x]) = wordT kNot :: insideT (Tr.toks x) := by simp [Tr.toks, Tr.tokss, lay, nthT]
 rw [ht] at ha hn ⊢
 cases m with
 | zero => exact fun q hq => by cases hq
 | succ m =>
  have h0 := ha.nx
  have e : s.at_ + (wordT kNot :: insideT (Tr.toks x)).length = s.at_ + 1 + (insideT (Tr.toks x)).length := by simp only [List.length_cons]; omega
  rw [e] at hn ⊢
  have hf : ∀ k, Rt (notE (exprE L m) L m k s) (built s (s.at_ + 1 + (insideT (Tr.toks x)).length) [.mk 11 0 ⟨#[]⟩ [x]], topOf s (.mk 11 0 ⟨#[]⟩ [x])) := by
   intro k q hq
   cases k with
   | zero => cases hq
   | succ k =>
    unfold notE at hq
    simp only [tok_here (L := L) he, h0] at hq
    rw [take_word (L := L) (by rw [tok_here he]; exact h0) (by decide), if_pos (by first | trivial | rfl)] at hq
    split at hq
    ·cases hq
    ·rename_i s1 y hy
     obtain ⟨rfl, rfl⟩ := Prod.mk.inj (inside_not (s := stepP s 1) hx hb he hl ha.tail (hx_not hn) k _ hy)
     obtain rfl := Option.some.inj hq
     exact add_built he hl _ 11 0 ⟨#[]⟩ [x] hd
  refine expr_of_not (hf m) ?_ ?_
  ·rw [tok_here he, h0]; decide
  ·rw [tok_built he]; exact hn
end
end
section
set_option linter.unusedVariables false
set_option linter.unusedSimpArgs false
section
variable {L : List TokD} {s : PS} {m m' : Nat}
theorem two_at {x y : Tr} {o : List TokD} {a : Nat} (ha : AtL L a (insideT (Tr.toks x) ++ (o ++ insideT (Tr.toks y)))) : AtL L a (insideT (Tr.toks x)) ∧ AtL L (a + (insideT (Tr.toks x)).length) (o ++ insideT (Tr.toks y)) ∧ AtL L (a + (insideT (Tr.toks x)).length + o.length) (insideT (Tr.toks y)) :=
 ⟨ha.left, ha.right, ha.right.right⟩
theorem two_len {x y : Tr} {o : List TokD} (a : Nat) : a + (insideT (Tr.toks x) ++ (o ++ insideT (Tr.toks y))).length = a + (insideT (Tr.toks x)).length + o.length + (insideT (Tr.toks y)).length := by
 simp only [List.length_append]
 omega
theorem parts_back {x y : Tr} {op : Int} {t : ByteArray} {tk : TokD} {u : ByteArray} {part : Ex} {signs : List ByteArray} (he : s.e = 0) (hl : s.dp.length = s.ns.length)
  (hd : Tr.depm [x, y] < 40) (ha : AtL L s.at_ (insideT (Tr.toks x) ++ ([tk] ++ insideT (Tr.toks y)))) (hu : signs.find? (fun u => isT tk u) = some u) (ht : (if op = 12 then u else ⟨#[]⟩) = t)
  (h1 : Rt (part s) (built s (s.at_ + (insideT (Tr.toks x)).length) [x], topOf s x))
  (h2 : Rt (part (built s (s.at_ + (insideT (Tr.toks x)).length + 1) [x])) (built (built s (s.at_ + (insideT (Tr.toks x)).length + 1) [x]) (s.at_ + (insideT (Tr.toks x)).length + 1 + (insideT (Tr.toks y)).length) [y], topOf (built s (s.at_ + (insideT (Tr.toks x)).length + 1) [x]) y))
  (hn : noT signs (nx L (s.at_ + (insideT (Tr.toks x) ++ ([tk] ++ insideT (Tr.toks y))).length)) = true) (k : Nat) :
  Rt (partsE L part op signs k s) (built s (s.at_ + (insideT (Tr.toks x) ++ ([tk] ++ insideT (Tr.toks y))).length) [.mk op 0 t [x, y]], topOf s (.mk op 0 t [x, y])) := by
 have h0 := (two_at ha).2.1.nx
 rw [two_len] at hn ⊢
 refine parts_two (u := u) h1 (any_pick (t := tk) (by rw [tok_built he]; exact h0) hu) (by rw [built_step]; exact h2) ?_ (by rw [tok_built he]; exact hn)
 rw [ht]
 exact add_two he hl _ _ op t hd
theorem bin_back {x y : Tr} {t : ByteArray} (ht : t ∈ binaries) (hx : RetX L x ∧ Begins x) (hy : RetX L y ∧ Begins y) (hd : Tr.depm [x, y] < 40) : RetX L (.mk 12 0 t [x, y]) := by
 intro m s he hl ha hn
 have hl0 : Tr.toks (.mk 12 0 t [x, y]) = insideT (Tr.toks x) ++ ([signT t] ++ insideT (Tr.toks y)) := by
  simp only [binaries, List.mem_cons, List.not_mem_nil, or_false] at ht
  rcases ht with rfl | rfl | rfl | rfl | rfl | rfl <;> simp [Tr.toks, Tr.tokss, lay, nthT, opWords]
 rw [hl0] at ha hn ⊢
 cases m with
 | zero => exact fun q hq => by cases hq
 | succ m =>
  obtain ⟨a1, a2, a3⟩ := two_at ha
  have h0 := a2.nx
  have hs0 : tokP L s 0 = signT gLp := by rw [tok_here he]; exact a1.nx
  have a3' : AtL L (s.at_ + (insideT (Tr.toks x)).length + 1) (insideT (Tr.toks y)) := a3
  have hn2 := hn
  rw [two_len] at hn2
  simp only [binaries, List.mem_cons, List.not_mem_nil, or_false] at ht
  have hl1 : (built s (s.at_ + (insideT (Tr.toks x)).length + 1) [x]).dp.length = (built s (s.at_ + (insideT (Tr.toks x)).length + 1) [x]).ns.length := built_ok hl
  have hsum : (t = gPlus ∨ t = gMinus) → Rt (exprE L (m + 1) s) (built s (s.at_ + (insideT (Tr.toks x) ++ ([signT t] ++ insideT (Tr.toks y))).length) [.mk 12 0 t [x, y]], topOf s (.mk 12 0 t [x, y])) := fun htt => by
   refine expr_of_sum ?_ (by rw [hs0]; decide) (by rw [tok_built he]; exact hn)
   refine parts_back (u := t) he hl hd ha (by rcases htt with rfl | rfl <;> rfl) (if_pos rfl) (inside_term hx.1 hx.2 he hl a1 (by rw [h0]; rcases htt with rfl | rfl <;> decide)) (inside_term (s := built s (s.at_ + (insideT (Tr.toks x)).length + 1) [x]) hy.1 hy.2 he hl1 a3' (hx_term hn2)) (noT_mono hn ?_) m
   intro u hu
   have := hu
   simp only [List.mem_cons, List.not_mem_nil, or_false] at this
   rcases this with rfl | rfl <;> simp
  have hterm : (t = gStar ∨ t = gDiv ∨ t = gMod) → Rt (exprE L (m + 1) s) (built s (s.at_ + (insideT (Tr.toks x) ++ ([signT t] ++ insideT (Tr.toks y))).length) [.mk 12 0 t [x, y]], topOf s (.mk 12 0 t [x, y])) := fun htt => by
   refine expr_of_term ?_ (by rw [hs0]; decide) (by rw [tok_built he]; exact hn)
   refine parts_back (u := t) he hl hd ha (by rcases htt with rfl | rfl | rfl <;> rfl) (if_pos rfl) (inside_fac hx.1 hx.2 he hl a1 (by rw [h0]; rcases htt with rfl | rfl | rfl <;> decide) m) (inside_fac (s := built s (s.at_ + (insideT (Tr.toks x)).length + 1) [x]) hy.1 hy.2 he hl1 a3' (hx_fac hn2) m) (noT_mono hn ?_) m
   intro u hu
   have := hu
   simp only [List.mem_cons, List.not_mem_nil, or_false] at this
   rcases this with rfl | rfl | rfl <;> simp
  rcases ht with h | h | h | h | h | rfl
  ·exact hsum (.inl h)
  ·exact hsum (.inr h)
  ·exact hterm (.inl h)
  ·exact hterm (.inr (.inl h))
  ·exact hterm (.inr (.inr h))
  ·rw [two_len] at hn ⊢
   have hf : ∀ k, Rt (factorE (exprE L m) L m k s) (built s (s.at_ + (insideT (Tr.toks x)).length + 1 + (insideT (Tr.toks y)).length) [.mk 12 0 gPow [x, y]], topOf s (.mk 12 0 gPow [x, y])) := by
    intro k q hq
    cases k with
    | zero => cases hq
    | succ k =>
     unfold factorE at hq
     have t0 : takeP L gMinus s = (s, false) := take_none (by rw [isP_eq, hs0]; decide)
     simp only [t0] at hq
     rw [if_neg (by first | decide | simp)] at hq
     split at hq
     ·cases hq
     ·rename_i s1 z hz
      obtain ⟨rfl, rfl⟩ := Prod.mk.inj (post_up (inside_atom hx.1 hx.2 he hl a1) (by rw [tok_built he, h0]; decide) _ hz)
      have t1 := take_sign (L := L) (s := built s (s.at_ + (insideT (Tr.toks x)).length) [x]) (u := gPow) (by rw [tok_built he]; exact h0) (by decide)
      rw [t1, if_pos (by first | trivial | rfl), built_step] at hq
      split at hq
      ·cases hq
      ·rename_i s2 v hv
       obtain ⟨rfl, rfl⟩ := Prod.mk.inj (inside_fac (s := built s (s.at_ + (insideT (Tr.toks x)).length + 1) [x]) hy.1 hy.2 he hl1 a3' (hx_fac hn2) k _ hv)
       obtain rfl := Option.some.inj hq
       exact add_two he hl _ _ 12 gPow hd
   refine expr_of_term (term_of_fac (hf m) ?_) (by rw [hs0]; decide) ?_
   ·rw [tok_built he]; exact hx_term hn
   ·rw [tok_built he]; exact hn
theorem and_back {x y : Tr} (hx : RetX L x ∧ Begins x) (hy : RetX L y ∧ Begins y) (hd : Tr.depm [x, y] < 40) : RetX L (.mk 14 0 ⟨#[]⟩ [x, y]) := by
 intro m s he hl ha hn
 have hl0 : Tr.toks (.mk 14 0 ⟨#[]⟩ [x, y]) = insideT (Tr.toks x) ++ ([wordT kAnd] ++ insideT (Tr.toks y)) := by simp [Tr.toks, Tr.tokss, lay, nthT]
 rw [hl0] at ha hn ⊢
 cases m with
 | zero => exact fun q hq => by cases hq
 | succ m =>
  obtain ⟨a1, a2, a3⟩ := two_at ha
  have h0 := a2.nx
  have hs0 : tokP L s 0 = signT gLp := by rw [tok_here he]; exact a1.nx
  have hn2 := hn
  rw [two_len] at hn2
  refine expr_of_and ?_ (by rw [hs0]; decide) (by rw [tok_built he]; exact hn)
  refine parts_back (u := kAnd) he hl hd ha rfl rfl (inside_not hx.1 hx.2 he hl a1 (by rw [h0]; decide) m) (inside_not (s := built s (s.at_ + (insideT (Tr.toks x)).length + 1) [x]) hy.1 hy.2 he (built_ok hl) a3 (hx_not hn2) m) (noT_mono hn ?_) m
  intro u hu
  rw [List.mem_singleton.1 hu]
  simp
theorem or_back {x y : Tr} (hx : RetX L x ∧ Begins x) (hy : RetX L y ∧ Begins y) (hd : Tr.depm [x, y] < 40) : RetX L (.mk 15 0 ⟨#[]⟩ [x, y]) := by
 intro m s he hl ha hn
 have hl0 : Tr.toks (.mk 15 0 ⟨#[]⟩ [x, y]) = insideT (Tr.toks x) ++ ([wordT kOr] ++ insideT (Tr.toks y)) := by simp [Tr.toks, Tr.tokss, lay, nthT]
 rw [hl0] at ha hn ⊢
 cases m with
 | zero => exact fun q hq => by cases hq
 | succ m =>
  obtain ⟨a1, a2, a3⟩ := two_at ha
  have h0 := a2.nx
  have hs0 : tokP L s 0 = signT gLp := by rw [tok_here he]; exact a1.nx
  have hn2 := hn
  rw [two_len] at hn2
  refine expr_of_or ?_ (by rw [hs0]; decide) (by rw [tok_built he]; exact hn)
  refine parts_back (u := kOr) he hl hd ha rfl rfl (inside_and hx.1 hx.2 he hl a1 (by rw [h0]; decide)) (inside_and (s := built s (s.at_ + (insideT (Tr.toks x)).length + 1) [x]) hy.1 hy.2 he (built_ok hl) a3 (hx_and hn2)) (noT_mono hn ?_) m
  intro u hu
  rw [List.mem_singleton.1 hu]
  simp
def cmpT (a b : TokD) : ByteArray × Nat :=
 if isT a gEqq then (gEqq, 1) else if isT a gNe then (gNe, 1) else if isT a gLt then (gLt, 1) else if isT a gLe then (gLe, 1)
 else if isT a gGt then (gGt, 1) else if isT a gGe then (gGe, 1) else if isT a kIn then (kIn, 1)
 else if isT a kNot && isT b kIn then (tNotIn, 2) else if isT a kIs && isT b kNot then (tIsNot, 2) else if isT a kIs then (kIs, 1) else (⟨#[]⟩, 0)
theorem cmp_at {a b : TokD} (ha : tokP L s 0 = a) (hb : tokP L s 1 = b) : compares L s = cmpT a b := by
 subst ha hb
 rfl
theorem tok_next (he : s.e = 0) {a : Nat} {ks : List Tr} : tokP L (built s a ks) 1 = nx L (a + 1) := by
 unfold tokP
 rw [if_neg (show ¬ (built s a ks).e ≠ 0 from fun e => e he)]
 rfl
theorem cmp_back {x y : Tr} {t : ByteArray} (ht : t ∈ comparers) (hx : RetX L x ∧ Begins x) (hy : RetX L y ∧ Begins y) (hd : Tr.depm [x, y] < 40) : RetX L (.mk 13 0 t [x, y]) := by
 intro m s he hl ha hn
 have hl0 : Tr.toks (.mk 13 0 t [x, y]) = insideT (Tr.toks x) ++ (opWords t ++ insideT (Tr.toks y)) := by simp [Tr.toks, Tr.tokss, lay, nthT]
 rw [hl0] at ha hn ⊢
 cases m with
 | zero => exact fun q hq => by cases hq
 | succ m =>
  obtain ⟨a1, a2, a3⟩ := two_at ha
  have hs0 : tokP L s 0 = signT gLp := by rw [tok_here he]; exact a1.nx
  rw [two_len] at hn ⊢
  have hop : ∃ u v, nx L (s.at_ + (insideT (Tr.toks x)).length) = u ∧ nx L (s.at_ + (insideT (Tr.toks x)).length + 1) = v ∧ noT hSum u = true ∧ cmpT u v = (t, (opWords t).length) ∧ (opWords t).length ≠ 0 := by
   simp only [comparers, List.mem_cons, List.not_mem_nil, or_false] at ht
   rcases ht with rfl | rfl | rfl | rfl | rfl | rfl | rfl | rfl | rfl | rfl <;> exact ⟨_, _, a2.nx, a2.tail.nx, by decide, by decide, by decide⟩
  obtain ⟨u, v, hu, hv, h5, h6, h7⟩ := hop
  have hf : ∀ k, Rt (notE (exprE L m) L m k s) (built s (s.at_ + (insideT (Tr.toks x)).length + (opWords t).length + (insideT (Tr.toks y)).length) [.mk 13 0 t [x, y]], topOf s (.mk 13 0 t [x, y])) := by
   intro k q hq
   cases k with
   | zero => cases hq
   | succ k =>
    unfold notE at hq
    have t0 : takeP L kNot s = (s, false) := take_none (by rw [isP_eq, hs0]; decide)
    simp only [t0] at hq
    rw [if_neg (by first | decide | simp)] at hq
    split at hq
    ·cases hq
    ·rename_i s1 z hz
     obtain ⟨rfl, rfl⟩ := Prod.mk.inj (inside_sum hx.1 hx.2 he hl a1 (by rw [hu]; exact h5) _ hz)
     have hc := cmp_at (L := L) (s := built s (s.at_ + (insideT (Tr.toks x)).length) [x]) (a := u) (b := v) (by rw [tok_built he]; exact hu) (by rw [tok_next he]; exact hv)
     rw [h6] at hc
     rw [hc, if_neg h7, built_step] at hq
     split at hq
     ·cases hq
     ·rename_i s2 w hw
      obtain ⟨rfl, rfl⟩ := Prod.mk.inj (inside_sum (s := built s (s.at_ + (insideT (Tr.toks x)).length + (opWords t).length) [x]) hy.1 hy.2 he (built_ok hl) a3 (hx_sum hn) _ hw)
      have h8 := add_two he hl (s.at_ + (insideT (Tr.toks x)).length + (opWords t).length) (s.at_ + (insideT (Tr.toks x)).length + (opWords t).length + (insideT (Tr.toks y)).length) 13 t hd
      have eb : (built s (s.at_ + (insideT (Tr.toks x)).length + (opWords t).length) [x]).at_ = s.at_ + (insideT (Tr.toks x)).length + (opWords t).length := rfl
      rw [eb] at hq
      simp only [h8] at hq
      have h9 := cmp_off (L := L) (s := built s (s.at_ + (insideT (Tr.toks x)).length + (opWords t).length + (insideT (Tr.toks y)).length) [.mk 13 0 t [x, y]]) (noT_mono (by rw [tok_built he]; exact hx_not hn) fun u hu => List.mem_append_right _ hu)
      rw [h9, if_neg (by first | decide | simp)] at hq
      exact (Option.some.inj hq).symm
  refine expr_of_not (hf m) ?_ ?_
  ·rw [hs0]; decide
  ·rw [tok_built he]; exact hn
theorem if_back {x y z : Tr} (hx : RetX L x ∧ Begins x) (hy : RetX L y ∧ Begins y) (hz : RetX L z ∧ Begins z) (hd : Tr.depm [x, y, z] < 40) : RetX L (.mk 16 0 ⟨#[]⟩ [x, y, z]) := by
 intro m s he hl ha hn
 have hl0 : Tr.toks (.mk 16 0 ⟨#[]⟩ [x, y, z]) = insideT (Tr.toks x) ++ (wordT kIf :: (insideT (Tr.toks y) ++ (wordT kElse :: insideT (Tr.toks z)))) := by simp [Tr.toks, Tr.tokss, lay, nthT]
 rw [hl0] at ha hn ⊢
 cases m with
 | zero => exact fun q hq => by cases hq
 | succ m =>
  have a1 := ha.left
  have h0 := ha.right.nx
  have a2 := ha.right.tail.left
  have h1 := ha.right.tail.right.nx
  have a3 := ha.right.tail.right.tail
  have hs0 : tokP L s 0 = signT gLp := by rw [tok_here he]; exact a1.nx
  have e : s.at_ + (insideT (Tr.toks x) ++ (wordT kIf :: (insideT (Tr.toks y) ++ (wordT kElse :: insideT (Tr.toks z))))).length = s.at_ + (insideT (Tr.toks x)).length + 1 + (insideT (Tr.toks y)).length + 1 + (insideT (Tr.toks z)).length := by
   simp only [List.length_append, List.length_cons]
   omega
  rw [e] at hn ⊢
  intro q hq
  change exprB (exprE L m) L m s = some q at hq
  unfold exprB at hq
  have t0 : takeP L kLambda s = (s, false) := take_none (by rw [isP_eq, hs0]; decide)
  simp only [t0] at hq
  rw [if_neg (by first | decide | simp)] at hq
  split at hq
  ·cases hq
  ·rename_i s1 v hv
   obtain ⟨rfl, rfl⟩ := Prod.mk.inj (inside_or hx.1 hx.2 he hl a1 (by rw [h0]; decide) _ hv)
   have t1 := take_word (L := L) (s := built s (s.at_ + (insideT (Tr.toks x)).length) [x]) (u := kIf) (by rw [tok_built he]; exact h0) (by decide)
   rw [t1, if_pos (by first | trivial | rfl), built_step] at hq
   split at hq
   ·cases hq
   ·rename_i s2 v2 hv2
    obtain ⟨rfl, rfl⟩ := Prod.mk.inj (inside_or (s := built s (s.at_ + (insideT (Tr.toks x)).length + 1) [x]) hy.1 hy.2 he (built_ok hl) a2 (by show noT hOr (nx L (s.at_ + (insideT (Tr.toks x)).length + 1 + _)) = true; rw [h1]; decide) _ hv2)
    rw [built_app] at hq
    have eb : (built s (s.at_ + (insideT (Tr.toks x)).length + 1) [x]).at_ = s.at_ + (insideT (Tr.toks x)).length + 1 := rfl
    rw [eb] at hq
    have t2 := need_word (L := L) (s := built s (s.at_ + (insideT (Tr.toks x)).length + 1 + (insideT (Tr.toks y)).length) ([x] ++ [y])) (u := kElse) (by rw [tok_built he]; exact h1) (by decide)
    rw [t2, built_step] at hq
    split at hq
    ·cases hq
    ·rename_i s3 v3 hv3
     obtain ⟨rfl, rfl⟩ := Prod.mk.inj (inside_expr (s := built s (s.at_ + (insideT (Tr.toks x)).length + 1 + (insideT (Tr.toks y)).length + 1) ([x] ++ [y])) hz.1 hz.2 he (built_ok hl) a3 hn _ hv3)
     rw [built_app] at hq
     obtain rfl := Option.some.inj hq
     exact add_three he hl _ _ _ 16 ⟨#[]⟩ (place_built _ _ _ _ (top_ge s x)) hd
end
end
section
set_option linter.unusedVariables false
set_option linter.unusedSimpArgs false
section
variable {L : List TokD} {s : PS} {m m' : Nat}
theorem post_back {ex : Ex} {s1 : PS} {x : Int} {r : PS × Int} (h : Rt (atomE ex L m s) (s1, x)) (h2 : ∀ m', Rt (postE ex L m (placeOf s1 x) m' s1 x) r) : Rt (postfixE ex L m s) r := by
 intro q hq
 unfold postfixE at hq
 split at hq
 ·cases hq
 ·rename_i s1' x' ha
  obtain ⟨rfl, rfl⟩ := Prod.mk.inj (h _ ha)
  exact h2 m q hq
theorem post_stop {ex : Ex} {a : Int} {x : Int} (hn : noT hPost (tokP L s 0) = true) (k : Nat) : Rt (postE ex L m a k s x) (s, x) := by
 intro q hq
 cases k with
 | zero => cases hq
 | succ k =>
  unfold postE at hq
  simp only [any_none (noT_is hn)] at hq
  rw [if_pos (by first | trivial | rfl)] at hq
  exact (Option.some.inj hq).symm
theorem hx_post {t : TokD} (h : noT hExpr t = true) : noT hPost t = true := h_post (hx_fac h)
theorem call_back {f : Tr} {ks : List Tr} (hf : RetX L f ∧ Begins f) (hk : ∀ k ∈ ks, RetX L k ∧ Begins k) (hd : Tr.depm (f :: ks) < 40) : RetX L (.mk 17 0 ⟨#[]⟩ (f :: ks)) := by
 intro m s he hl ha hn
 have hl0 : Tr.toks (.mk 17 0 ⟨#[]⟩ (f :: ks)) = insideT (Tr.toks f) ++ (signT gLp :: (rowsT false (Tr.tokss ks) ++ [signT gRp])) := by simp [Tr.toks, Tr.tokss, lay, nthT]
 rw [hl0] at ha hn ⊢
 cases m with
 | zero => exact fun q hq => by cases hq
 | succ m =>
  have a1 := ha.left
  have h0 := ha.right.nx
  have a2 := ha.right.tail
  have hs0 : tokP L s 0 = signT gLp := by rw [tok_here he]; exact a1.nx
  have e : s.at_ + (insideT (Tr.toks f) ++ (signT gLp :: (rowsT false (Tr.tokss ks) ++ [signT gRp]))).length = s.at_ + (insideT (Tr.toks f)).length + 1 + (rowsT false (Tr.tokss ks)).length + 1 := by
   simp only [LL]
   omega
  rw [e] at hn ⊢
  refine expr_of_post (post_back (inside_atom hf.1 hf.2 he hl a1) ?_) (by rw [hs0]; decide) (by rw [tok_built he]; exact hn)
  rw [place_built _ _ _ _ (top_ge s f)]
  intro k q hq
  cases k with
  | zero => cases hq
  | succ k =>
   unfold postE at hq
   rw [any_pick (t := signT gLp) (u := gLp) (by rw [tok_built he]; exact h0) rfl] at hq
   simp only at hq
   rw [if_neg (by decide), if_neg (by decide), if_pos (by first | trivial | rfl), built_step] at hq
   split at hq
   ·cases hq
   ·rename_i s2 kids hr
    obtain ⟨rfl, rfl⟩ := Prod.mk.inj (row_back (m := m) (.inl rfl) false ks m s _ [f] hk he hl a2 _ hr)
    have h8 := add_built he hl (s.at_ + (insideT (Tr.toks f)).length + 1 + (rowsT false (Tr.tokss ks)).length + 1) 17 0 ⟨#[]⟩ ([f] ++ ks) hd
    simp only [h8] at hq
    exact post_stop (by rw [tok_built he]; exact hx_post hn) k q hq
theorem attr_back {f : Tr} {t : ByteArray} (ht : nameB t = true) (hf : RetX L f ∧ Begins f) (hd : Tr.depm [f] < 40) : RetX L (.mk 18 0 t [f]) := by
 intro m s he hl ha hn
 have hl0 : Tr.toks (.mk 18 0 t [f]) = insideT (Tr.toks f) ++ [signT gDot, wordT t] := by simp [Tr.toks, Tr.tokss, lay, nthT]
 rw [hl0] at ha hn ⊢
 cases m with
 | zero => exact fun q hq => by cases hq
 | succ m =>
  have a1 := ha.left
  have h0 := ha.right.nx
  have h1 := ha.right.tail.nx
  have hs0 : tokP L s 0 = signT gLp := by rw [tok_here he]; exact a1.nx
  have e : s.at_ + (insideT (Tr.toks f) ++ [signT gDot, wordT t]).length = s.at_ + (insideT (Tr.toks f)).length + 1 + 1 := by
   simp only [LL]
   omega
  rw [e] at hn ⊢
  refine expr_of_post (post_back (inside_atom hf.1 hf.2 he hl a1) ?_) (by rw [hs0]; decide) (by rw [tok_built he]; exact hn)
  rw [place_built _ _ _ _ (top_ge s f)]
  intro k q hq
  cases k with
  | zero => cases hq
  | succ k =>
   unfold postE at hq
   rw [any_pick (t := signT gDot) (u := gDot) (by rw [tok_built he]; exact h0) rfl] at hq
   simp only at hq
   rw [if_neg (by decide), if_pos (by first | trivial | rfl), built_step] at hq
   have hnm : nameP L (built s (s.at_ + (insideT (Tr.toks f)).length + 1) [f]) = (built s (s.at_ + (insideT (Tr.toks f)).length + 1 + 1) [f], t) := by
    unfold nameP
    rw [tok_built he, h1, if_pos ⟨rfl, ht⟩, built_step]
    rfl
   rw [hnm] at hq
   have h8 := add_built he hl (s.at_ + (insideT (Tr.toks f)).length + 1 + 1) 18 0 t [f] hd
   rw [idxs_one] at h8
   simp only [h8] at hq
   exact post_stop (by rw [tok_built he]; exact hx_post hn) k q hq
theorem index_back {x y : Tr} (hx : RetX L x ∧ Begins x) (hy : RetX L y ∧ Begins y) (hd : Tr.depm [x, y] < 40) : RetX L (.mk 19 0 ⟨#[]⟩ [x, y]) := by
 intro m s he hl ha hn
 have hl0 : Tr.toks (.mk 19 0 ⟨#[]⟩ [x, y]) = insideT (Tr.toks x) ++ (signT gLb :: (Tr.toks y ++ [signT gRb])) := by simp [Tr.toks, Tr.tokss, lay, nthT]
 rw [hl0] at ha hn ⊢
 cases m with
 | zero => exact fun q hq => by cases hq
 | succ m =>
  have a1 := ha.left
  have h0 := ha.right.nx
  have a2 := ha.right.tail
  have h2 := at_begin hy.2 a2
  have h3 := a2.right.nx
  have hs0 : tokP L s 0 = signT gLp := by rw [tok_here he]; exact a1.nx
  have e : s.at_ + (insideT (Tr.toks x) ++ (signT gLb :: (Tr.toks y ++ [signT gRb]))).length = s.at_ + (insideT (Tr.toks x)).length + 1 + (Tr.toks y).length + 1 := by
   simp only [LL]
   omega
  rw [e] at hn ⊢
  refine expr_of_post (post_back (inside_atom hx.1 hx.2 he hl a1) ?_) (by rw [hs0]; decide) (by rw [tok_built he]; exact hn)
  rw [place_built _ _ _ _ (top_ge s x)]
  intro k q hq
  cases k with
  | zero => cases hq
  | succ k =>
   unfold postE at hq
   rw [any_pick (t := signT gLb) (u := gLb) (by rw [tok_built he]; exact h0) rfl] at hq
   simp only at hq
   rw [if_neg (by decide), if_neg (by decide), if_neg (by decide), built_step] at hq
   unfold indexE boundE at hq
   have i0 : isP L (built s (s.at_ + (insideT (Tr.toks x)).length + 1) [x]) gColon 0 = false := by rw [isP_eq, tok_built he]; exact start_no h2 (by decide)
   rw [i0, if_neg (by decide)] at hq
   split at hq
   ·cases hq
   ·rename_i s2 v hv
    split at hv
    ·cases hv
    ·rename_i s3 v3 hv3
     obtain ⟨rfl, rfl⟩ := Prod.mk.inj (hy.1 m (built s (s.at_ + (insideT (Tr.toks x)).length + 1) [x]) he (built_ok hl) a2.left (by show noT hExpr (nx L (s.at_ + (insideT (Tr.toks x)).length + 1 + _)) = true; rw [h3]; decide) _ hv3)
     rw [built_app] at hv
     have eb : (built s (s.at_ + (insideT (Tr.toks x)).length + 1) [x]).at_ = s.at_ + (insideT (Tr.toks x)).length + 1 := rfl
     rw [eb] at hv
     have t1 := take_sign (L := L) (s := built s (s.at_ + (insideT (Tr.toks x)).length + 1 + (Tr.toks y).length) ([x] ++ [y])) (u := gRb) (by rw [tok_built he]; exact h3) (by decide)
     rw [t1, if_pos ⟨rfl, rfl⟩, built_step] at hv
     have h8 := add_built he hl (s.at_ + (insideT (Tr.toks x)).length + 1 + (Tr.toks y).length + 1) 19 0 ⟨#[]⟩ ([x] ++ [y]) hd
     rw [top_built s (s.at_ + (insideT (Tr.toks x)).length + 1) [x] y] at h8
     rw [show (Tr.idxs s.ns.length [x] ++ [topOf (built s (s.at_ + (insideT (Tr.toks x)).length + 1) [x]) y]) = [topOf s x, topOf (built s (s.at_ + (insideT (Tr.toks x)).length + 1) [x]) y] from rfl] at h8
     rw [h8] at hv
     obtain ⟨rfl, rfl⟩ := Prod.mk.inj (Option.some.inj hv)
     exact post_stop (by rw [tok_built he]; exact hx_post hn) k q hq
theorem slice_back {x y z : Tr} (hx : RetX L x ∧ Begins x) (hy : RetX L y ∧ Begins y) (hz : RetX L z ∧ Begins z) (hd : Tr.depm [x, y, z] < 40) : RetX L (.mk 20 0 ⟨#[]⟩ [x, y, z]) := by
 intro m s he hl ha hn
 have hl0 : Tr.toks (.mk 20 0 ⟨#[]⟩ [x, y, z]) = insideT (Tr.toks x) ++ (signT gLb :: (Tr.toks y ++ (signT gColon :: (Tr.toks z ++ [signT gRb])))) := by simp [Tr.toks, Tr.tokss, lay, nthT]
 rw [hl0] at ha hn ⊢
 cases m with
 | zero => exact fun q hq => by cases hq
 | succ m =>
  have a1 := ha.left
  have h0 := ha.right.nx
  have a2 := ha.right.tail
  have h2 := at_begin hy.2 a2
  have h3 := a2.right.nx
  have a3 := a2.right.tail
  have h4 := at_begin hz.2 a3
  have h5 := a3.right.nx
  have hs0 : tokP L s 0 = signT gLp := by rw [tok_here he]; exact a1.nx
  have e : s.at_ + (insideT (Tr.toks x) ++ (signT gLb :: (Tr.toks y ++ (signT gColon :: (Tr.toks z ++ [signT gRb]))))).length = s.at_ + (insideT (Tr.toks x)).length + 1 + (Tr.toks y).length + 1 + (Tr.toks z).length + 1 := by
   simp only [LL]
   omega
  rw [e] at hn ⊢
  refine expr_of_post (post_back (inside_atom hx.1 hx.2 he hl a1) ?_) (by rw [hs0]; decide) (by rw [tok_built he]; exact hn)
  rw [place_built _ _ _ _ (top_ge s x)]
  intro k q hq
  cases k with
  | zero => cases hq
  | succ k =>
   unfold postE at hq
   rw [any_pick (t := signT gLb) (u := gLb) (by rw [tok_built he]; exact h0) rfl] at hq
   simp only at hq
   rw [if_neg (by decide), if_neg (by decide), if_neg (by decide), built_step] at hq
   unfold indexE boundE at hq
   have i0 : isP L (built s (s.at_ + (insideT (Tr.toks x)).length + 1) [x]) gColon 0 = false := by rw [isP_eq, tok_built he]; exact start_no h2 (by decide)
   rw [i0, if_neg (by decide)] at hq
   split at hq
   ·cases hq
   ·rename_i s2 v hv
    split at hv
    ·cases hv
    ·rename_i s3 v3 hv3
     obtain ⟨rfl, rfl⟩ := Prod.mk.inj (hy.1 m (built s (s.at_ + (insideT (Tr.toks x)).length + 1) [x]) he (built_ok hl) a2.left (by show noT hExpr (nx L (s.at_ + (insideT (Tr.toks x)).length + 1 + _)) = true; rw [h3]; decide) _ hv3)
     rw [built_app] at hv
     have eb : (built s (s.at_ + (insideT (Tr.toks x)).length + 1) [x]).at_ = s.at_ + (insideT (Tr.toks x)).length + 1 := rfl
     rw [eb] at hv
     have t1 : takeP L gRb (built s (s.at_ + (insideT (Tr.toks x)).length + 1 + (Tr.toks y).length) ([x] ++ [y])) = (_, false) := take_none (by rw [isP_eq, tok_built he, h3]; decide)
     have t2 := need_sign (L := L) (s := built s (s.at_ + (insideT (Tr.toks x)).length + 1 + (Tr.toks y).length) ([x] ++ [y])) (u := gColon) (by rw [tok_built he]; exact h3) (by decide)
     rw [t1, if_neg (by rintro ⟨_, h⟩; cases h)] at hv
     simp only [Bool.false_eq_true, if_false] at hv
     rw [t2, built_step] at hv
     have i1 : isP L (built s (s.at_ + (insideT (Tr.toks x)).length + 1 + (Tr.toks y).length + 1) ([x] ++ [y])) gRb 0 = false := by rw [isP_eq, tok_built he]; exact start_no h4 (by decide)
     rw [i1] at hv
     simp only [Bool.false_eq_true, if_false] at hv
     split at hv
     ·cases hv
     ·rename_i s4 v4 hv4
      obtain ⟨rfl, rfl⟩ := Prod.mk.inj (hz.1 m (built s (s.at_ + (insideT (Tr.toks x)).length + 1 + (Tr.toks y).length + 1) ([x] ++ [y])) he (built_ok hl) a3.left (by show noT hExpr (nx L (s.at_ + (insideT (Tr.toks x)).length + 1 + (Tr.toks y).length + 1 + _)) = true; rw [h5]; decide) _ hv4)
      rw [built_app] at hv
      have eb2 : (built s (s.at_ + (insideT (Tr.toks x)).length + 1 + (Tr.toks y).length + 1) ([x] ++ [y])).at_ = s.at_ + (insideT (Tr.toks x)).length + 1 + (Tr.toks y).length + 1 := rfl
      rw [eb2] at hv
      have t3 := need_sign (L := L) (s := built s (s.at_ + (insideT (Tr.toks x)).length + 1 + (Tr.toks y).length + 1 + (Tr.toks z).length) ([x] ++ [y] ++ [z])) (u := gRb) (by rw [tok_built he]; exact h5) (by decide)
      rw [t3, built_step] at hv
      have h8 := add_three (x := x) (y := y) (z := z) he hl (s.at_ + (insideT (Tr.toks x)).length + 1) (s.at_ + (insideT (Tr.toks x)).length + 1 + (Tr.toks y).length + 1) (s.at_ + (insideT (Tr.toks x)).length + 1 + (Tr.toks y).length + 1 + (Tr.toks z).length + 1) 20 ⟨#[]⟩ (a := 0) rfl hd
      have h9 := hv.symm.trans (congrArg some h8)
      obtain ⟨rfl, rfl⟩ := Prod.mk.inj (Option.some.inj h9)
      exact post_stop (by rw [tok_built he]; exact hx_post hn) k q hq
theorem lambda_back {x : Tr} {t : ByteArray} (ht : nameB t = true) (hx : RetX L x ∧ Begins x) (hd : Tr.depm [.mk 22 0 t [], x] < 40) : RetX L (.mk 21 0 ⟨#[]⟩ [.mk 22 0 t [], x]) := by
 intro m s he hl ha hn
 have hl0 : Tr.toks (.mk 21 0 ⟨#[]⟩ [.mk 22 0 t [], x]) = wordT kLambda :: wordT t :: signT gColon :: Tr.toks x := by simp [Tr.toks, Tr.tokss, lay, nthT, rowsT]
 rw [hl0] at ha hn ⊢
 cases m with
 | zero => exact fun q hq => by cases hq
 | succ m =>
  have h0 := ha.nx
  have h1 := ha.tail.nx
  have h2 := ha.tail.tail.nx
  have a3 := ha.tail.tail.tail
  have e : s.at_ + (wordT kLambda :: wordT t :: signT gColon :: Tr.toks x).length = s.at_ + 1 + 1 + 1 + (Tr.toks x).length := by
   simp only [List.length_cons]
   omega
  rw [e] at hn ⊢
  intro q hq
  change exprB (exprE L m) L m s = some q at hq
  unfold exprB at hq
  simp only [tok_here (L := L) he, h0] at hq
  rw [take_word (L := L) (by rw [tok_here he]; exact h0) (by decide), if_pos (by first | trivial | rfl)] at hq
  split at hq
  ·cases hq
  ·rename_i s1 kids hk
   cases m with
   | zero => cases hk
   | succ m =>
    have ts : tokP L (stepP s 1) 0 = wordT t := by rw [tok_here (s := stepP s 1) he]; exact h1
    rw [paramsE_eq (s := stepP s 1) m [] false he, if_neg (by rintro ⟨_, h⟩; rw [isP_eq, ts, word_no ht] at h; cases h)] at hk
    unfold parG at hk
    have hnm : nameP L (stepP s 1) = (stepP (stepP s 1) 1, t) := by
     unfold nameP
     rw [ts, if_pos ⟨rfl, ht⟩]
     rfl
    have ts2 : tokP L (stepP (stepP s 1) 1) 0 = signT gColon := by rw [tok_here (s := stepP (stepP s 1) 1) he]; exact h2
    rw [hnm] at hk
    simp only at hk
    rw [take_none (s := stepP (stepP s 1) 1) (t := gEq) (by rw [isP_eq, ts2]; decide), if_neg (by first | decide | simp), if_neg (by decide), ts] at hk
    have h8 := add_built he hl (s.at_ + 1 + 1) 22 0 t [] (by show (0 : Int) < 40; decide)
    rw [show built s (s.at_ + 1 + 1) [] = stepP (stepP s 1) 1 from by rw [← built_step s (s.at_ + 1) 1 [], built_at]] at h8
    have hk2 : parT (exprE L (m + 1)) L m [] false (built s (s.at_ + 1 + 1) [.mk 22 0 t []], topOf s (.mk 22 0 t [])) = some (s1, kids) := by
     rw [← h8]
     exact hk
    unfold parT at hk2
    have tsb : tokP L (built s (s.at_ + 1 + 1) [.mk 22 0 t []]) 0 = signT gColon := by rw [tok_built he]; exact h2
    rw [take_none (t := gComma) (by rw [isP_eq, tsb]; decide), if_neg (by first | decide | simp)] at hk2
    simp only at hk2
    rw [need_sign tsb (by decide), built_step] at hk2
    obtain ⟨rfl, rfl⟩ := Prod.mk.inj (Option.some.inj hk2)
    split at hq
    ·cases hq
    ·rename_i s2 v hv
     obtain ⟨rfl, rfl⟩ := Prod.mk.inj (hx.1 (m + 1) (built s (s.at_ + 1 + 1 + 1) [.mk 22 0 t []]) he (built_ok hl) a3 hn _ hv)
     rw [built_app] at hq
     have h9 := add_built he hl (s.at_ + 1 + 1 + 1 + (Tr.toks x).length) 21 0 ⟨#[]⟩ ([.mk 22 0 t []] ++ [x]) hd
     rw [top_built s (s.at_ + 1 + 1 + 1) [.mk 22 0 t []] x] at h9
     have h10 := (Option.some.inj hq).symm
     exact h10.trans h9
end
theorem begins_of {e : Tr} {t : TokD} {l : List TokD} (h : Tr.toks e = t :: l) (ht : startT t = true) : Begins e := ⟨t, l, h, ht⟩
theorem begin_inside {e : Tr} {x : Tr} {l : List TokD} (h : Tr.toks e = insideT (Tr.toks x) ++ l) : Begins e := ⟨signT gLp, _, h, by decide⟩
theorem str_no (t u : ByteArray) : isT (strT t) u = false := by
 unfold isT
 have : ¬ (strT t).k = if kwB u = true then 1 else 4 := by
  show ¬ (3 : Int) = _
  split <;> decide
 rw [decide_eq_false this, Bool.false_and]
theorem good_all (L : List TokD) {e : Tr} (h : Good e) : Tr.dep e ≤ 40 → RetX L e ∧ Begins e := by
 have kid : ∀ {ks : List Tr}, Tr.depm ks + 1 ≤ 40 → ∀ k ∈ ks, Tr.dep k ≤ 40 := fun h k hk => by have := depm_mem _ k hk; omega
 induction h with
 | none_ => exact fun _ => ⟨leaf_word (t := kNone) rfl (by simp [Tr.toks, lay]) (by decide), begins_of (t := wordT kNone) (l := []) (by simp [Tr.toks, lay]) (by decide)⟩
 | true_ => exact fun _ => ⟨leaf_word (t := kTrue) rfl (by simp [Tr.toks, lay]) (by decide), begins_of (t := wordT kTrue) (l := []) (by simp [Tr.toks, lay]) (by decide)⟩
 | false_ => exact fun _ => ⟨leaf_word (t := kFalse) rfl (by simp [Tr.toks, lay]) (by decide), begins_of (t := wordT kFalse) (l := []) (by simp [Tr.toks, lay]) (by decide)⟩
 | int_ n h1 h2 =>
  refine fun _ => ⟨leaf_back (tk := numT n) (by simp [Tr.toks, lay]) rfl fun ex m s h => ?_, begins_of (t := numT n) (l := []) (by simp [Tr.toks, lay]) rfl⟩
  unfold atomE
  simp only [h]
  rw [if_pos (show (numT n).k = 2 from rfl)]
  rfl
 | str_ t h1 =>
  refine fun _ => ⟨leaf_back (tk := strT t) (by simp [Tr.toks, lay]) ?_ fun ex m s h => ?_, begins_of (t := strT t) (l := []) (by simp [Tr.toks, lay]) rfl⟩
  ·unfold noT
   simp [str_no]
  ·unfold atomE
   simp only [h]
   rw [if_neg (show ¬ (strT t).k = 2 from (show ¬ (3 : Int) = 2 by decide)), if_pos (show (strT t).k = 3 from rfl)]
   rfl
 | name_ t h1 h2 =>
  refine fun _ => ⟨leaf_back (tk := wordT t) (by simp [Tr.toks, lay]) ?_ fun ex m s h => ?_, begins_of (t := wordT t) (l := []) (by simp [Tr.toks, lay]) rfl⟩
  ·unfold noT
   simp [word_no h2]
  ·unfold atomE
   simp only [h]
   rw [if_neg (show ¬ (wordT t).k = 2 from (show ¬ (1 : Int) = 2 by decide)), if_neg (show ¬ (wordT t).k = 3 from (show ¬ (1 : Int) = 3 by decide)), if_pos (show (wordT t).k = 1 from rfl)]
   have hw : wordOp (wordT t).s = none := by
    unfold wordOp
    rw [if_neg (show ¬ (wordT t).s = kNone from name_off h2 (by decide)), if_neg (show ¬ (wordT t).s = kTrue from name_off h2 (by decide)), if_neg (show ¬ (wordT t).s = kFalse from name_off h2 (by decide))]
   rw [hw]
   simp only
   rw [if_pos (show nameB (wordT t).s = true from h2)]
   rfl
 | list_ ks hk hl4 ih => exact fun hd => ⟨list_back (fun k h => ih k h (kid hd k h)) (by simp only [Tr.dep] at hd; omega), begins_of (t := signT gLb) (by simp [Tr.toks, lay]; rfl) (by decide)⟩
 | tuple_ ks hk hl4 ih => exact fun hd => ⟨tuple_back (fun k h => ih k h (kid hd k h)) (by simp only [Tr.dep] at hd; omega), begins_of (t := signT gLp) (by simp [Tr.toks, lay]; rfl) (by decide)⟩
 | dict_ ks hk hev hl4 ih => exact fun hd => ⟨dict_back (fun k h => ih k h (kid hd k h)) hev (by simp only [Tr.dep] at hd; omega), begins_of (t := signT gLc) (by simp [Tr.toks, lay]; rfl) (by decide)⟩
 | neg_ a ha ih =>
  intro hd
  obtain ⟨h1, h2⟩ := ih (kid hd a (by simp))
  exact ⟨neg_back h1 h2 (by simp only [Tr.dep] at hd; omega), begins_of (t := signT gMinus) (l := insideT (Tr.toks a)) (by simp [Tr.toks, Tr.tokss, lay, nthT]) (by decide)⟩
 | not_ a ha ih =>
  intro hd
  obtain ⟨h1, h2⟩ := ih (kid hd a (by simp))
  exact ⟨nott_back h1 h2 (by simp only [Tr.dep] at hd; omega), begins_of (t := wordT kNot) (l := insideT (Tr.toks a)) (by simp [Tr.toks, Tr.tokss, lay, nthT]) (by decide)⟩
 | bin_ t a b ht ha hb iha ihb => exact fun hd => ⟨bin_back ht (iha (kid hd a (by simp))) (ihb (kid hd b (by simp))) (by simp only [Tr.dep] at hd; omega), begin_inside (x := a) (l := opWords t ++ insideT (Tr.toks b)) (by simp [Tr.toks, Tr.tokss, lay, nthT])⟩
 | cmp_ t a b ht ha hb iha ihb => exact fun hd => ⟨cmp_back ht (iha (kid hd a (by simp))) (ihb (kid hd b (by simp))) (by simp only [Tr.dep] at hd; omega), begin_inside (x := a) (l := opWords t ++ insideT (Tr.toks b)) (by simp [Tr.toks, Tr.tokss, lay, nthT])⟩
 | and_ a b ha hb iha ihb => exact fun hd => ⟨and_back (iha (kid hd a (by simp))) (ihb (kid hd b (by simp))) (by simp only [Tr.dep] at hd; omega), begin_inside (x := a) (l := wordT kAnd :: insideT (Tr.toks b)) (by simp [Tr.toks, Tr.tokss, lay, nthT])⟩
 | or_ a b ha hb iha ihb => exact fun hd => ⟨or_back (iha (kid hd a (by simp))) (ihb (kid hd b (by simp))) (by simp only [Tr.dep] at hd; omega), begin_inside (x := a) (l := wordT kOr :: insideT (Tr.toks b)) (by simp [Tr.toks, Tr.tokss, lay, nthT])⟩
 | if_ a b c ha hb hc iha ihb ihc => exact fun hd => ⟨if_back (iha (kid hd a (by simp))) (ihb (kid hd b (by simp))) (ihc (kid hd c (by simp))) (by simp only [Tr.dep] at hd; omega), begin_inside (x := a) (l := wordT kIf :: (insideT (Tr.toks b) ++ (wordT kElse :: insideT (Tr.toks c)))) (by simp [Tr.toks, Tr.tokss, lay, nthT])⟩
 | call_ f ks hf hk hl4 ihf ihk => exact fun hd => ⟨call_back (ihf (kid hd f (by simp))) (fun k h => ihk k h (kid hd k (by simp [h]))) (by simp only [Tr.dep] at hd; omega), begin_inside (x := f) (l := signT gLp :: (rowsT false (Tr.tokss ks) ++ [signT gRp])) (by simp [Tr.toks, Tr.tokss, lay, nthT])⟩
 | attr_ t a h1 h2 ha ih => exact fun hd => ⟨attr_back h2 (ih (kid hd a (by simp))) (by simp only [Tr.dep] at hd; omega), begin_inside (x := a) (l := [signT gDot, wordT t]) (by simp [Tr.toks, Tr.tokss, lay, nthT])⟩
 | index_ a b ha hb iha ihb => exact fun hd => ⟨index_back (iha (kid hd a (by simp))) (ihb (kid hd b (by simp))) (by simp only [Tr.dep] at hd; omega), begin_inside (x := a) (l := signT gLb :: (Tr.toks b ++ [signT gRb])) (by simp [Tr.toks, Tr.tokss, lay, nthT])⟩
 | slice_ a b c ha hb hc iha ihb ihc => exact fun hd => ⟨slice_back (iha (kid hd a (by simp))) (ihb (kid hd b (by simp))) (ihc (kid hd c (by simp))) (by simp only [Tr.dep] at hd; omega), begin_inside (x := a) (l := signT gLb :: (Tr.toks b ++ (signT gColon :: (Tr.toks c ++ [signT gRb])))) (by simp [Tr.toks, Tr.tokss, lay, nthT])⟩
 | lambda_ t a h1 h2 ha ih => exact fun hd => ⟨lambda_back h2 (ih (kid hd a (by simp))) (by simp only [Tr.dep] at hd; omega), begins_of (t := wordT kLambda) (l := wordT t :: signT gColon :: Tr.toks a) (by simp [Tr.toks, Tr.tokss, lay, nthT, rowsT]) (by decide)⟩
theorem back_plain {e : Tr} (h : Good e) (hd : Tr.dep e ≤ 40) {rest : List TokD} (hr : noT hExpr ((rest[0]?).getD zeroT) = true) {m : Nat} {q : PS × Int} (hq : exprE (Tr.toks e ++ rest) m startS = some q) :
  q = (⟨(Tr.toks e).length, 0, 0, Tr.flat 0 e, Tr.deps e⟩, (Tr.size e : Int) - 1) := by
 have h1 := (good_all (Tr.toks e ++ rest) h hd).1 m startS rfl rfl ⟨rest, rfl⟩ (by
  show noT hExpr (nx (Tr.toks e ++ rest) (0 + (Tr.toks e).length)) = true
  unfold nx
  rw [Nat.zero_add, List.getElem?_append_right (Nat.le_refl _), Nat.sub_self]
  exact hr) q hq
 rw [h1]
 refine Prod.ext ?_ ?_
 ·simp [built, startS, Tr.flats, Tr.depss]
 ·simp [topOf, startS]
end
end Go.Proofs.YtjdcicopjipmnaaDoor
