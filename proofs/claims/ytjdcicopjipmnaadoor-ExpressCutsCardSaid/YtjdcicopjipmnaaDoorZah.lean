/- Cut tokens (4): parameters, and the whole expression. Trees written as tokens with all brackets; how the plain parser climbs. Trees written as tokens: each shape parses to itself. Trees written as tokens: each shape parses to itself (2). Trees written as tokens: each shape parses to itself (3); all of them. Trees written as tokens: all of them parse to themselves, and no beginning between brackets does. Trees of tokens: how many nodes and tokens there are. -/
import Derived.Test.YtjdcicopjipmnaaDoorZaa
import Derived.Test.YtjdcicopjipmnaaDoorZag
namespace Go.Proofs.YtjdcicopjipmnaaDoor
section
set_option linter.unusedVariables false
set_option linter.unusedSimpArgs false
section
variable {L : List TokD} {n : Nat} {ex ex' : Ex} {s : PS}
def parT (ex : Ex) (L : List TokD) (m : Nat) (out : List Int) (late : Bool) (a : PS × Int) : Option (PS × List Int) :=
 if (takeP L gComma a.1).2 then paramsE ex L m (takeP L gComma a.1).1 (out ++ [a.2]) late
 else some (needP L gColon (takeP L gComma a.1).1, out ++ [a.2])
def parG (ex : Ex) (L : List TokD) (m : Nat) (out : List Int) (late : Bool) (s : PS) : Option (PS × List Int) :=
 if (takeP L gEq (nameP L s).1).2 then match ex (takeP L gEq (nameP L s).1).1 with
  | none => none
  | some (s1, x) => parT ex L m out true (addP s1 22 (tokP L s 0).at_ (nameP L s).2 0 [x])
 else parT ex L m out late (addP (if late then failP (takeP L gEq (nameP L s).1).1 30 s.at_ else (takeP L gEq (nameP L s).1).1) 22 (tokP L s 0).at_ (nameP L s).2 0 [])
theorem paramsE_eq (m : Nat) (out : List Int) (late : Bool) (h0 : s.e = 0) : paramsE ex L (m + 1) s out late = if out = [] ∧ isP L s gColon 0 = true then some (stepP s 1, out) else parG ex L m out late s := by
 unfold paramsE
 rw [if_neg (fun e => e h0)]
 simp only
 generalize hC : (if out = [] then takeP L gColon s else (s, false)) = C
 have hC2 : C = if out = [] ∧ isP L s gColon 0 = true then (stepP s 1, true) else (s, false) := by
  rw [← hC]
  by_cases ho : out = []
  ·rw [if_pos ho]
   cases hi : isP L s gColon 0 with
   | true =>
    rw [if_pos ⟨ho, rfl⟩]
    exact Prod.ext (take_step (t := gColon) (by rw [take_is]; exact hi)).1 (by rw [take_is]; exact hi)
   | false => rw [take_none hi, if_neg (by rintro ⟨_, h⟩; cases h)]
  ·rw [if_neg ho, if_neg (by rintro ⟨h, _⟩; exact ho h)]
 by_cases hc : out = [] ∧ isP L s gColon 0 = true
 ·rw [if_pos hc] at hC2 ⊢
  subst hC2
  rfl
 ·rw [if_neg hc] at hC2 ⊢
  subst hC2
  rfl
theorem parT_bad {m : Nat} {out : List Int} {late : Bool} {a : PS × Int} (h : a.1.e ≠ 0) : parT ex L m out late a = some (a.1, out ++ [a.2]) := by
 unfold parT
 rw [bad_take h, if_neg (by first | decide | simp), bad_need h]
theorem parT_pos (hg : GdE L.length ex) {m : Nat} {out : List Int} {late : Bool} {a : PS × Int} {r : PS × List Int} (h : parT ex L m out late a = some r) (hi : ∀ k ∈ out ++ [a.2], In a.1 k) (he : r.1.e = 0) : a.1.e = 0 := by
 unfold parT at h
 have gt := take_gr (L := L) (s := a.1) gComma
 split at h
 ·exact gt.pos ((paramsE_gl hg m _ _ _ _ (in_all hi gt) h).1.pos he)
 ·obtain rfl := Option.some.inj h
  exact gt.pos ((need_gr (L := L) gColon).pos he)
theorem fold_gr {N : Nat} {d : Int} {s1 : PS} (g : Gr N d s s1) (hl : s.dp.length = s.ns.length) : ∀ {ks : List Int}, (∀ k ∈ ks, In s k) → ∀ m : Int, ks.foldl (fun m k => max m (deepOf s1 k)) m = ks.foldl (fun m k => max m (deepOf s k)) m
 | [], h, m => rfl
 | k :: ks, h, m => by
  simp only [List.foldl_cons, deep_gr g hl (h k (.head _))]
  exact fold_gr g hl (fun k hk => h k (.tail _ hk)) _
end
def ParC (L : List TokD) (n : Nat) (ex ex' : Ex) (m : Nat) : Prop := ∀ (s : PS) (out : List Int) (late : Bool) (r r' : PS × List Int),
  s.e = 0 → s.dp.length = s.ns.length → s.at_ ≤ n → (∀ k ∈ out, In s k) → paramsE ex L m s out late = some r → r.1.e = 0 → paramsE ex' (L.take n) m s out late = some r' → Cl L n r r'
section
variable {L : List TokD} {n : Nat} {ex ex' : Ex} {s : PS}
theorem parT_cut {m : Nat} (hm : ParC L n ex ex' m) {out : List Int} {late : Bool} {a a' : PS × Int} {r r' : PS × List Int} (h : parT ex L m out late a = some r) (he : r.1.e = 0) (hea : a.1.e = 0) (hl : a.1.dp.length = a.1.ns.length) (hi : ∀ k ∈ out ++ [a.2], In a.1 k)
  (hc : Cu L n a a') (h' : parT ex' (L.take n) m out late a' = some r') : Cl L n r r' := by
 rcases hc with hf | ⟨rfl, h3⟩ | ⟨h3, _⟩
 ·rw [parT_bad hf.ne] at h'
  obtain rfl := Option.some.inj h'
  exact .inl hf
 ·unfold parT at h h'
  rw [take_cut h3] at h'
  split at h
  ·rename_i hy
   rw [if_pos hy] at h'
   have hst := take_step hy
   rw [hst.1] at h h'
   exact hm _ _ _ _ _ (show (stepP a'.1 1).e = 0 from hea) hl (by show a'.1.at_ + 1 ≤ n; omega) (in_all (L := L) hi (step_gr (k := 1) hst.2.1 (by omega))) h he h'
  ·rename_i hy
   rw [if_neg hy] at h'
   rw [take_no (Bool.eq_false_iff.2 hy)] at h h'
   obtain rfl := Option.some.inj h
   rw [need_cut h3] at h'
   obtain rfl := Option.some.inj h'
   exact .inr ⟨rfl, by simp only; rw [need_ok he]; show a'.1.at_ + 1 ≤ n; omega⟩
 ·unfold parT at h'
  rw [h3.take (by decide), if_neg (by first | decide | simp)] at h'
  obtain rfl := Option.some.inj h'
  exact .inl (h3.need (by decide))
theorem paramsE_cut (hc : CutE L n ex ex') (hg : GdE L.length ex) (hg' : GdE (L.take n).length ex') (hend : EndE (L.take n) n ex') : ∀ m : Nat, ParC L n ex ex' m
 | 0 => fun s out late r r' h0 hl ha hk h he h' => by cases h
 | m + 1 => by
  intro s out late r r' h0 hl ha hk h he h'
  have hm := paramsE_cut hc hg hg' hend m
  rw [paramsE_eq m out late h0] at h h'
  rcases Nat.lt_or_ge s.at_ n with hlt | hge
  ·rw [is_cut (b := 0) hlt] at h'
   split at h
   ·rename_i hcc
    rw [if_pos hcc] at h'
    obtain rfl := Option.some.inj h
    obtain rfl := Option.some.inj h'
    exact .inr ⟨rfl, by show s.at_ + 1 ≤ n; omega⟩
   ·rename_i hcc
    rw [if_neg hcc] at h'
    unfold parG at h h'
    rw [name_cut hlt, tok_cut (b := 0) hlt] at h'
    have gn := name_gr (L := L) (s := s)
    have gq := take_gr (L := L) (s := (nameP L s).1) gEq
    -- the name is one
    have en : (nameP L s).1.e = 0 := by
     refine gq.pos ?_
     split at h
     ·split at h
      ·cases h
      ·rename_i s1 x hx
       have gx := hg _ _ hx
       exact gx.1.pos (add_lim (parT_pos hg h (in_snoc (in_all (L := L) hk (((gn.trans gq).trans gx.1).trans (add_gr ..))) (add_in ..)) he)).1
     ·have gf : Gr L.length 0 (takeP L gEq (nameP L s).1).1 (if late = true then failP (takeP L gEq (nameP L s).1).1 30 s.at_ else (takeP L gEq (nameP L s).1).1) := by
       split
       ·exact fail_gr (.inl rfl) rfl fun hh => by have := gn.up; have := gq.up; omega
       ·exact Gr.refl _ _
      exact gf.pos (add_lim (parT_pos hg h (in_snoc (in_all (L := L) hk (((gn.trans gq).trans gf).trans (add_gr ..))) (add_in ..)) he)).1
    have hn := name_ok en
    rw [hn.2.1] at h h' gq gn
    have hls : (stepP s 1).dp.length = (stepP s 1).ns.length := hl
    rcases Nat.lt_or_ge (s.at_ + 1) n with hlt1 | hge1
    ·rw [take_cut (show (stepP s 1).at_ < n from hlt1)] at h'
     split at h
     ·rename_i ht
      rw [if_pos ht] at h'
      have hst := take_step ht
      split at h
      ·cases h
      ·rename_i s1 x hx
       split at h'
       ·cases h'
       ·rename_i s1' x' hx'
        have gx := hg _ _ hx
        have gx' := hg' _ _ hx'
        have hin := in_snoc (in_all (L := L) hk (((gn.trans gq).trans gx.1).trans (add_gr (L := L) 22 (tokP L s 0).at_ (nameP L s).2 0 [x]))) (add_in 22 (tokP L s 0).at_ (nameP L s).2 0 [x])
        have ea := parT_pos hg h hin he
        have hl1 := ((gn.trans gq).trans gx.1).len hl
        refine parT_cut hm h he ea ((add_gr (L := L) ..).len hl1) hin ?_ h'
        rcases hc _ _ _ (by rw [hst.1]; exact h0) (by rw [hst.1]; exact hl) (by rw [hst.1]; show s.at_ + 1 + 1 ≤ n; omega) hx (add_lim ea).1 hx' with hf | ⟨e, h3⟩ | ⟨h3, h4⟩
        ·simp only at hf
         exact .inl (by rw [bad_add hf.ne]; exact hf)
        ·obtain ⟨rfl, rfl⟩ := Prod.mk.inj e
         exact .inr (.inl ⟨rfl, by rw [add_at]; exact h3⟩)
        ·refine .inr (.inr (h3.add (gx'.1.len (by rw [hst.1]; exact hl)) hl1 (by simp only [deepest_one] at h4 ⊢; omega) ea))
     ·rename_i ht
      rw [if_neg ht] at h'
      rw [take_no (Bool.eq_false_iff.2 ht)] at h h' gq
      have hlate : late = false := by
       cases late with
       | false => rfl
       | true =>
        exfalso
        have hbad : (failP (stepP s 1) 30 s.at_).e ≠ 0 := fail_bad _ _ (by decide)
        rw [if_pos (by first | trivial | rfl), parT_bad (by rw [bad_add hbad]; exact hbad), bad_add hbad] at h
        obtain rfl := Option.some.inj h
        exact hbad he
      subst hlate
      rw [if_neg (by first | decide | simp)] at h h'
      have hin := in_snoc (in_all (L := L) hk (gn.trans (add_gr (L := L) 22 (tokP L s 0).at_ (nameP L s).2 0 []))) (add_in 22 (tokP L s 0).at_ (nameP L s).2 0 [])
      have ea := parT_pos hg h hin he
      exact parT_cut hm h he ea ((add_gr (L := L) ..).len hl) hin (.inr (.inl ⟨rfl, by rw [add_at]; exact hlt1⟩)) h'
    ·rw [take_none (s := stepP s 1) (is_cut0 (by show n ≤ s.at_ + 1 + 0; omega) _), if_neg (by first | decide | simp)] at h'
     have hstp : Stp (L.take n) n (stepP s 1) := Stp.end_ h0 (by show s.at_ + 1 = n; omega)
     cases late with
     | true =>
      rw [if_pos (by first | trivial | rfl)] at h'
      have hf : Fl (L.take n) n (failP (stepP s 1) 30 s.at_) := by
       unfold failP
       rw [if_pos (show (stepP s 1).e = 0 from h0)]
       refine ⟨rfl, .inr ⟨by show (s.at_ : Int) + 1 = n; omega, tokP L s 0, ?_, hn.2.2⟩⟩
       have h4 := tokP_in (b := 0) (show (tokP L s 0).k ≠ 0 by rw [hn.2.2]; decide)
       rw [show n - 1 = s.at_ + 0 from by omega, List.getElem?_take, if_pos (by omega), List.getElem?_eq_getElem h4.2]
       unfold tokP
       rw [if_neg (fun e => e h4.1), List.getElem?_eq_getElem h4.2]
       rfl
      rw [parT_bad (by rw [bad_add hf.ne]; exact hf.ne), bad_add hf.ne] at h'
      obtain rfl := Option.some.inj h'
      exact .inl hf
     | false =>
      rw [if_neg (by first | decide | simp)] at h'
      have ea := add_new (s := stepP s 1) h0 hl (op := 22) (a := (tokP L s 0).at_) (m := 0) (t := (nameP L s).2) (kids := []) (show (0 : Int) < 40 by decide)
      have h5 : Stp (L.take n) n (addP (stepP s 1) 22 (tokP L s 0).at_ (nameP L s).2 0 []).1 := Stp.end_ ea.1 (by rw [ea.2.1]; show s.at_ + 1 = n; omega)
      unfold parT at h'
      rw [h5.take (by decide), if_neg (by first | decide | simp)] at h'
      obtain rfl := Option.some.inj h'
      exact .inl (h5.need (by decide))
  ·rw [if_neg (by rintro ⟨_, h⟩; rw [is_cut0 (by omega)] at h; cases h)] at h'
   unfold parG at h'
   have hf := Stp.name (L := L) (n := n) (s := s) h0 (by omega)
   rw [bad_take hf.ne, if_neg (by first | decide | simp)] at h'
   have hfe : failP (nameP (L.take n) s).1 30 s.at_ = (nameP (L.take n) s).1 := by
    unfold failP
    rw [if_neg hf.ne]
   simp only [hfe, ite_self] at h'
   rw [parT_bad (by rw [bad_add hf.ne]; exact hf.ne), bad_add hf.ne] at h'
   obtain rfl := Option.some.inj h'
   exact .inl hf
theorem exprB_cut (hc : CutE L n ex ex') (hg : GdE L.length ex) (hg' : GdE (L.take n).length ex') (hend : EndE (L.take n) n ex') (m : Nat) : CutE L n (exprB ex L m) (exprB ex' (L.take n) m) := by
 intro s r r' h0 hl ha h he h'
 rcases Nat.lt_or_ge s.at_ n with hlt | hge
 ·unfold exprB at h h'
  simp only [tok_cut (L := L) (s := s) (b := 0) (n := n) hlt] at h h'
  rw [take_cut hlt] at h'
  split at h
  ·rename_i ht
   rw [if_pos ht] at h'
   have hst := take_step ht
   rw [hst.1] at h h'
   have ha1 : (stepP s 1).at_ ≤ n := by show s.at_ + 1 ≤ n; omega
   split at h
   ·cases h
   ·rename_i s1 kids hk
    split at h'
    ·cases h'
    ·rename_i s1' kids' hk'
     split at h
     ·cases h
     ·rename_i s2 x hx
      split at h'
      ·cases h'
      ·rename_i s2' x' hx'
       obtain rfl := Option.some.inj h
       obtain rfl := Option.some.inj h'
       have gk := paramsE_gl hg m _ _ _ _ (fun k hk => by cases hk) hk
       have gk' := paramsE_gl hg' m _ _ _ _ (fun k hk => by cases hk) hk'
       have gx := hg _ _ hx
       have gx' := hg' _ _ hx'
       have e2 := (add_lim he).1
       have e1 := gx.1.pos e2
       rcases paramsE_cut hc hg hg' hend m _ _ _ _ _ (show (stepP s 1).e = 0 from h0) hl ha1 (fun k hk => by cases hk) hk e1 hk' with hf | ⟨e, h3⟩
       ·have := gx'.1.bad hf.ne
        simp only at this hf
        subst this
        exact .inl (by rw [bad_add hf.ne]; exact hf)
       ·obtain ⟨rfl, rfl⟩ := Prod.mk.inj e
        rcases hc _ _ _ e1 (gk.1.len hl) h3 hx e2 hx' with hf | ⟨e, h4⟩ | ⟨h4, h5⟩
        ·simp only at hf
         exact .inl (by rw [bad_add hf.ne]; exact hf)
        ·obtain ⟨rfl, rfl⟩ := Prod.mk.inj e
         exact .inr (.inl ⟨rfl, by rw [add_at]; exact h4⟩)
        ·refine .inr (.inr (h4.add (gx'.1.len (gk.1.len hl)) (gx.1.len (gk.1.len hl)) ?_ he))
         simp only [deepest_app] at h5 ⊢
         have hl1 : s1'.dp.length = s1'.ns.length := gk.1.len hl
         have k1 : deepest s2 kids' = deepest s1' kids' := by
          unfold deepest
          exact fold_gr gx.1 hl1 gk.2 0
         have k2 : deepest s2' kids' = deepest s1' kids' := by
          unfold deepest
          exact fold_gr gx'.1 hl1 gk.2 0
         rw [k1, k2]
         omega
  ·rename_i ht
   rw [if_neg ht] at h'
   rw [take_no (Bool.eq_false_iff.2 ht)] at h h'
   split at h
   ·cases h
   ·rename_i s1 x hx
    split at h'
    ·cases h'
    ·rename_i s1' x' hx'
     have gx := orE_gd hg m _ _ hx
     have gx' := orE_gd hg' m _ _ hx'
     have hin : s1.e = 0 ∧ deepOf s1 x ≤ deepOf r.1 r.2 := by
      split at h
      ·rename_i hp
       have hst := take_step hp
       split at h
       ·cases h
       ·rename_i s2 y hy
        split at h
        ·cases h
        ·rename_i s3 z hz
         obtain rfl := Option.some.inj h
         have gs := take_gr (L := L) (s := s1) kIf
         have gy := (orE_gd hg m _ _ hy).1
         have gn := need_gr (L := L) (s := s2) kElse
         have gz := (hg _ _ hz).1
         have gg := gs.trans (gy.trans (gn.trans gz))
         have := add_deep (x := x) (gg.len (gx.1.len hl)) he (by simp)
         rw [deep_gr gg (gx.1.len hl) gx.2] at this
         exact ⟨hst.2.1, this⟩
      ·rename_i hp
       rw [take_no (Bool.eq_false_iff.2 hp)] at h
       obtain rfl := Option.some.inj h
       exact ⟨he, Int.le_refl _⟩
     rcases orE_cut hc hg hg' hend m _ _ _ h0 hl ha hx hin.1 hx' with hf | ⟨e, h3⟩ | ⟨h3, h4⟩
     ·simp only at hf
      rw [bad_take hf.ne, if_neg (by first | decide | simp)] at h'
      obtain rfl := Option.some.inj h'
      exact .inl hf
     ·obtain ⟨rfl, rfl⟩ := Prod.mk.inj e
      simp only at h3
      rw [take_cut h3] at h'
      split at h
      ·rename_i hp
       rw [if_pos hp] at h'
       have hst := take_step hp
       have gs := take_gr (L := L) (s := s1') kIf
       rw [hst.1] at h h' gs
       split at h
       ·cases h
       ·rename_i s2 y hy
        split at h'
        ·cases h'
        ·rename_i s2' y' hy'
         split at h
         ·cases h
         ·rename_i s3 z hz
          split at h'
          ·cases h'
          ·rename_i s3' z' hz'
           obtain rfl := Option.some.inj h
           obtain rfl := Option.some.inj h'
           have gy := orE_gd hg m _ _ hy
           have gn := need_gr (L := L) (s := s2) kElse
           have gz := hg _ _ hz
           have gz' := hg' _ _ hz'
           have e3 := (add_lim he).1
           have en := gz.1.pos e3
           have bad : Fl (L.take n) n (needP (L.take n) kElse s2') → Cu L n (addP s3 16 (placeOf s3 x') ⟨#[]⟩ 0 [x', y, z]) (addP s3' 16 (placeOf s3' x') ⟨#[]⟩ 0 [x', y', z']) := fun hf => by
            have := gz'.1.bad hf.ne
            simp only at this
            rw [this]
            exact .inl (by rw [bad_add hf.ne]; exact hf)
           rcases orE_cut hc hg hg' hend m _ _ _ (show (stepP s1' 1).e = 0 from hst.2.1) (gx.1.len hl) (by show s1'.at_ + 1 ≤ n; omega) hy (gn.pos en) hy' with hf | ⟨e, h5⟩ | ⟨h5, h6⟩
           ·simp only at hf
            exact bad (by rw [bad_need hf.ne]; exact hf)
           ·obtain ⟨rfl, rfl⟩ := Prod.mk.inj e
            simp only at h5
            have hne := need_ok en
            rw [need_cut h5] at hz'
            have gz' := hg' _ _ hz'
            have hl2 : (needP L kElse s2').dp.length = (needP L kElse s2').ns.length := gn.len (gy.1.len (gx.1.len hl))
            have gg := gs.trans (gy.1.trans gn)
            rcases hc _ _ _ en hl2 (by rw [hne]; show s2'.at_ + 1 ≤ n; omega) hz e3 hz' with hf | ⟨e, h6⟩ | ⟨h6, h7⟩
            ·simp only at hf
             exact .inl (by rw [bad_add hf.ne]; exact hf)
            ·obtain ⟨rfl, rfl⟩ := Prod.mk.inj e
             exact .inr (.inl ⟨rfl, by rw [add_at]; exact h6⟩)
            ·refine .inr (.inr (h6.add (gz'.1.len hl2) (gz.1.len hl2) ?_ he))
             simp only [deepest_three] at h7 ⊢
             have ix := gx.2.mono gg
             have iy := gy.2.mono gn
             rw [deep_gr gz.1 hl2 ix, deep_gr gz'.1 hl2 ix, deep_gr gz.1 hl2 iy, deep_gr gz'.1 hl2 iy]
             omega
           ·exact bad (h5.need (by decide))
      ·rename_i hp
       rw [if_neg hp] at h'
       rw [take_no (Bool.eq_false_iff.2 hp)] at h h'
       obtain rfl := Option.some.inj h
       obtain rfl := Option.some.inj h'
       exact .inr (.inl ⟨rfl, h3⟩)
     ·simp only at h3 h4
      rw [h3.take (by decide), if_neg (by first | decide | simp)] at h'
      obtain rfl := Option.some.inj h'
      exact .inr (.inr ⟨h3, by simp only; omega⟩)
 ·exact .inl (expr_end hg' m _ _ h0 (by omega) h')
end
theorem exprE_cut (L : List TokD) (n : Nat) : ∀ m, CutE L n (exprE L m) (exprE (L.take n) m)
 | 0 => fun s r r' h0 hl ha h he h' => by cases h
 | m + 1 => exprB_cut (exprE_cut L n m) (exprE_gd L m) (exprE_gd _ m) (ends_all L n m) m
theorem cut_parse {L : List TokD} {n m : Nat} {r r' : PS × Int} (hL : L[0]?.map (fun t => (t.k, t.s)) = some (4, gLp)) (h : exprE L m startS = some r) (he : r.1.e = 0) (hfull : ∀ q ex m', GdE L.length ex → (∃ j, ex = exprE L j) → atomE ex L m' startS = some q → q.1.e = 0 → q.1.at_ = L.length) (hn : n < L.length) (h' : exprE (L.take n) m startS = some r') : Fl (L.take n) n r'.1 := by
 cases m with
 | zero => cases h
 | succ m =>
  rcases Nat.eq_zero_or_pos n with rfl | hpos
  ·exact expr_end (exprE_gd _ m) m _ _ rfl rfl h'
  ·have htok : tokP L startS 0 = (L[0]?).getD zeroT := by
    unfold tokP
    rw [if_neg (fun e => e rfl)]
    rfl
   have hks : (tokP L startS 0).k = 4 ∧ (tokP L startS 0).s = gLp := by
    rw [htok]
    cases hx : L[0]? with
    | none => rw [hx] at hL; cases hL
    | some t =>
     rw [hx] at hL
     have := Option.some.inj hL
     exact ⟨congrArg Prod.fst this, congrArg Prod.snd this⟩
   have no : ∀ t, t ≠ gLp → isP L startS t 0 = false := fun t ht => is_not ht hks.2
   have no' : ∀ t, t ≠ gLp → isP (L.take n) startS t 0 = false := fun t ht => by rw [is_cut (by show 0 + 0 < n; omega)]; exact no t ht
   obtain ⟨q, h1, h2⟩ := expr_first (exprE_gd L m) (no _ (by decide)) (no _ (by decide)) (no _ (by decide)) h
   obtain ⟨q', h1', h2'⟩ := expr_first (exprE_gd (L.take n) m) (no' _ (by decide)) (no' _ (by decide)) (no' _ (by decide)) h'
   have eq : q.1.e = 0 := Decidable.byContradiction fun e => e (by rw [← h2 e]; exact he)
   rcases atomE_cut (s := startS) (exprE_cut L n m) (exprE_gd L m) (exprE_gd _ m) (ends_all L n m) rfl rfl (Nat.zero_le _) h1 eq h1' with hf | ⟨e, h3⟩
   ·rw [h2' hf.ne]
    exact hf
   ·have := hfull q _ m (exprE_gd L m) ⟨m, rfl⟩ h1 eq
    omega
end
section
set_option linter.unusedVariables false
set_option linter.unusedSimpArgs false
def strT (s : ByteArray) : TokD := ⟨3, 0, s, 0⟩
def rowsT (all : Bool) : List (List TokD) → List TokD
 | [] => []
 | t :: r => t ++ ((if all || !r.isEmpty then [signT gComma] else []) ++ rowsT all r)
def pairsT : List (List TokD) → List TokD
 | k :: v :: r => k ++ (signT gColon :: (v ++ (signT gComma :: pairsT r)))
 | _ => []
def insideT (t : List TokD) : List TokD := signT gLp :: (t ++ [signT gRp])
def opWords (s : ByteArray) : List TokD :=
 if s = tNotIn then [wordT kNot, wordT kIn] else if s = tIsNot then [wordT kIs, wordT kNot] else if s = kIn ∨ s = kIs then [wordT s] else [signT s]
def nthT (P : List (List TokD)) (i : Nat) : List TokD := (P[i]?).getD []
def lay (op n : Int) (s : ByteArray) (P : List (List TokD)) : List TokD :=
 if op = 1 then [wordT kNone] else if op = 2 then [wordT kTrue] else if op = 3 then [wordT kFalse]
 else if op = 4 then [numT n] else if op = 5 then [strT s] else if op = 6 then [wordT s]
 else if op = 7 then signT gLb :: (rowsT false P ++ [signT gRb])
 else if op = 8 then signT gLp :: (rowsT true P ++ [signT gRp])
 else if op = 9 then signT gLc :: (pairsT P ++ [signT gRc])
 else if op = 10 then signT gMinus :: insideT (nthT P 0)
 else if op = 11 then wordT kNot :: insideT (nthT P 0)
 else if op = 12 ∨ op = 13 then insideT (nthT P 0) ++ (opWords s ++ insideT (nthT P 1))
 else if op = 14 then insideT (nthT P 0) ++ (wordT kAnd :: insideT (nthT P 1))
 else if op = 15 then insideT (nthT P 0) ++ (wordT kOr :: insideT (nthT P 1))
 else if op = 16 then insideT (nthT P 0) ++ (wordT kIf :: (insideT (nthT P 1) ++ (wordT kElse :: insideT (nthT P 2))))
 else if op = 17 then insideT (nthT P 0) ++ (signT gLp :: (rowsT false P.tail ++ [signT gRp]))
 else if op = 18 then insideT (nthT P 0) ++ [signT gDot, wordT s]
 else if op = 19 then insideT (nthT P 0) ++ (signT gLb :: (nthT P 1 ++ [signT gRb]))
 else if op = 20 then insideT (nthT P 0) ++ (signT gLb :: (nthT P 1 ++ (signT gColon :: (nthT P 2 ++ [signT gRb]))))
 else if op = 22 then wordT s :: (if P.isEmpty then [] else signT gEq :: nthT P 0)
 else wordT kLambda :: (rowsT false P.dropLast ++ (signT gColon :: (P.getLast?).getD []))
mutual
def Tr.toks : Tr → List TokD
 | .mk op n s ks => lay op n s (Tr.tokss ks)
def Tr.tokss : List Tr → List (List TokD)
 | [] => []
 | k :: ks => Tr.toks k :: Tr.tokss ks
end
inductive Good : Tr → Prop
 | none_ : Good (.mk 1 0 ⟨#[]⟩ [])
 | true_ : Good (.mk 2 0 ⟨#[]⟩ [])
 | false_ : Good (.mk 3 0 ⟨#[]⟩ [])
 | int_ (n : Int) : 0 ≤ n → n ≤ 64 → Good (.mk 4 n ⟨#[]⟩ [])
 | str_ (s : ByteArray) : s.size ≤ 64 → Good (.mk 5 0 s [])
 | name_ (s : ByteArray) : s.size ≤ 64 → nameB s = true → Good (.mk 6 0 s [])
 | list_ (ks : List Tr) : (∀ k ∈ ks, Good k) → ks.length ≤ 4 → Good (.mk 7 0 ⟨#[]⟩ ks)
 | tuple_ (ks : List Tr) : (∀ k ∈ ks, Good k) → ks.length ≤ 4 → Good (.mk 8 0 ⟨#[]⟩ ks)
 | dict_ (ks : List Tr) : (∀ k ∈ ks, Good k) → ks.length % 2 = 0 → ks.length ≤ 4 → Good (.mk 9 0 ⟨#[]⟩ ks)
 | neg_ (a : Tr) : Good a → Good (.mk 10 0 ⟨#[]⟩ [a])
 | not_ (a : Tr) : Good a → Good (.mk 11 0 ⟨#[]⟩ [a])
 | bin_ (s : ByteArray) (a b : Tr) : s ∈ binaries → Good a → Good b → Good (.mk 12 0 s [a, b])
 | cmp_ (s : ByteArray) (a b : Tr) : s ∈ comparers → Good a → Good b → Good (.mk 13 0 s [a, b])
 | and_ (a b : Tr) : Good a → Good b → Good (.mk 14 0 ⟨#[]⟩ [a, b])
 | or_ (a b : Tr) : Good a → Good b → Good (.mk 15 0 ⟨#[]⟩ [a, b])
 | if_ (a b c : Tr) : Good a → Good b → Good c → Good (.mk 16 0 ⟨#[]⟩ [a, b, c])
 | call_ (f : Tr) (ks : List Tr) : Good f → (∀ k ∈ ks, Good k) → ks.length ≤ 4 → Good (.mk 17 0 ⟨#[]⟩ (f :: ks))
 | attr_ (s : ByteArray) (a : Tr) : s.size ≤ 64 → nameB s = true → Good a → Good (.mk 18 0 s [a])
 | index_ (a b : Tr) : Good a → Good b → Good (.mk 19 0 ⟨#[]⟩ [a, b])
 | slice_ (a b c : Tr) : Good a → Good b → Good c → Good (.mk 20 0 ⟨#[]⟩ [a, b, c])
 | lambda_ (s : ByteArray) (a : Tr) : s.size ≤ 64 → nameB s = true → Good a → Good (.mk 21 0 ⟨#[]⟩ [.mk 22 0 s [], a])
def isT (t : TokD) (u : ByteArray) : Bool := decide (t.k = if kwB u then 1 else 4) && decide (t.s = u)
def noT (l : List ByteArray) (t : TokD) : Bool := l.all fun u => !isT t u
section
variable {L : List TokD} {s : PS}
theorem isP_eq (u : ByteArray) (b : Nat) : isP L s u b = isT (tokP L s b) u := rfl
theorem noT_is {l : List ByteArray} {b : Nat} (h : noT l (tokP L s b) = true) : ∀ u ∈ l, isP L s u b = false := fun u hu => by
 have := List.all_eq_true.1 h u hu
 rw [isP_eq]
 simpa using this
theorem noT_mono {l l' : List ByteArray} {t : TokD} (h : noT l t = true) (hs : ∀ u ∈ l', u ∈ l) : noT l' t = true := List.all_eq_true.2 fun u hu => List.all_eq_true.1 h u (hs u hu)
end
abbrev hPost : List ByteArray := [gDot, gLp, gLb]
abbrev hFac : List ByteArray := hPost ++ [gPow]
abbrev hTerm : List ByteArray := hFac ++ [gStar, gDiv, gMod]
abbrev hSum : List ByteArray := hTerm ++ [gPlus, gMinus]
abbrev hNot : List ByteArray := hSum ++ [gEqq, gNe, gLt, gLe, gGt, gGe, kIn, kIs, kNot]
abbrev hAnd : List ByteArray := hNot ++ [kAnd]
abbrev hOr : List ByteArray := hAnd ++ [kOr]
abbrev hExpr : List ByteArray := hOr ++ [kIf]
def Rt {α : Type} (A : Option α) (r : α) : Prop := ∀ q, A = some q → q = r
section
variable {L : List TokD} {ex : Ex} {s : PS} {r : PS × Int}
theorem post_up {m : Nat} (h : Rt (atomE ex L m s) r) (hn : noT hPost (tokP L r.1 0) = true) : Rt (postfixE ex L m s) r := by
 intro q hq
 unfold postfixE at hq
 split at hq
 ·cases hq
 ·rename_i s1 x ha
  obtain rfl := h _ ha
  cases m with
  | zero => cases hq
  | succ m =>
   unfold postE at hq
   simp only [any_none (noT_is hn)] at hq
   rw [if_pos (by first | trivial | rfl)] at hq
   exact (Option.some.inj hq).symm
theorem fac_up {m0 : Nat} (hm : isT (tokP L s 0) gMinus = false) (h : Rt (postfixE ex L m0 s) r) (hn : isT (tokP L r.1 0) gPow = false) : ∀ m, Rt (factorE ex L m0 m s) r
 | 0 => fun q hq => by cases hq
 | m + 1 => by
  intro q hq
  unfold factorE at hq
  simp only [take_none hm] at hq
  rw [if_neg (by first | decide | simp)] at hq
  split at hq
  ·cases hq
  ·rename_i s1 x ha
   obtain rfl := h _ ha
   rw [take_none hn, if_neg (by first | decide | simp)] at hq
   exact (Option.some.inj hq).symm
theorem parts_up {part : Ex} {op : Int} {signs : List ByteArray} {m : Nat} (h : Rt (part s) r) (hn : noT signs (tokP L r.1 0) = true) : Rt (partsE L part op signs m s) r := by
 intro q hq
 unfold partsE at hq
 split at hq
 ·cases hq
 ·rename_i s1 x ha
  obtain rfl := h _ ha
  cases m with
  | zero => cases hq
  | succ m =>
   unfold leftE at hq
   simp only [any_none (noT_is hn)] at hq
   rw [if_pos (by first | trivial | rfl)] at hq
   exact (Option.some.inj hq).symm
theorem cmp_off (h : noT [gEqq, gNe, gLt, gLe, gGt, gGe, kIn, kIs, kNot] (tokP L s 0) = true) : compares L s = (⟨#[]⟩, 0) := by
 have h2 := noT_is (L := L) (s := s) h
 exact cmp_none (fun t ht => h2 t (List.mem_append_left [kNot] ht)) fun e => by rw [h2 kNot (by simp)] at e; cases e
theorem not_up {m0 : Nat} (hm : isT (tokP L s 0) kNot = false) (h : Rt (sumE ex L m0 s) r) (hn : compares L r.1 = (⟨#[]⟩, 0)) : ∀ m, Rt (notE ex L m0 m s) r
 | 0 => fun q hq => by cases hq
 | m + 1 => by
  intro q hq
  unfold notE at hq
  simp only [take_none hm] at hq
  rw [if_neg (by first | decide | simp)] at hq
  split at hq
  ·cases hq
  ·rename_i s1 x ha
   obtain rfl := h _ ha
   rw [hn, if_pos (by first | trivial | rfl)] at hq
   exact (Option.some.inj hq).symm
theorem expr_up {m : Nat} (hm : isT (tokP L s 0) kLambda = false) (h : Rt (orE ex L m s) r) (hn : isT (tokP L r.1 0) kIf = false) : Rt (exprB ex L m s) r := by
 intro q hq
 unfold exprB at hq
 simp only [take_none hm] at hq
 rw [if_neg (by first | decide | simp)] at hq
 split at hq
 ·cases hq
 ·rename_i s1 x ha
  obtain rfl := h _ ha
  rw [take_none hn, if_neg (by first | decide | simp)] at hq
  exact (Option.some.inj hq).symm
theorem noT_at {l : List ByteArray} {t : TokD} (h : noT l t = true) {u : ByteArray} (hu : u ∈ l) : isT t u = false := by
 have := List.all_eq_true.1 h u hu
 simpa using this
theorem fac_of_atom {m : Nat} (h : Rt (atomE ex L m s) r) (h1 : isT (tokP L s 0) gMinus = false) (hn : noT hFac (tokP L r.1 0) = true) (k : Nat) : Rt (factorE ex L m k s) r :=
 fac_up h1 (post_up h (noT_mono hn fun u hu => List.mem_append_left _ hu)) (noT_at hn (by simp)) k
theorem fac_of_post {m : Nat} (h : Rt (postfixE ex L m s) r) (h1 : isT (tokP L s 0) gMinus = false) (hn : noT hFac (tokP L r.1 0) = true) (k : Nat) : Rt (factorE ex L m k s) r := fac_up h1 h (noT_at hn (by simp)) k
theorem term_of_fac {m : Nat} (h : Rt (factorE ex L m m s) r) (hn : noT hTerm (tokP L r.1 0) = true) : Rt (termE ex L m s) r := parts_up h (noT_mono hn fun u hu => List.mem_append_right _ hu)
theorem sum_of_term {m : Nat} (h : Rt (termE ex L m s) r) (hn : noT hSum (tokP L r.1 0) = true) : Rt (sumE ex L m s) r := parts_up h (noT_mono hn fun u hu => List.mem_append_right _ hu)
theorem not_of_sum {m : Nat} (h : Rt (sumE ex L m s) r) (h1 : isT (tokP L s 0) kNot = false) (hn : noT hNot (tokP L r.1 0) = true) (k : Nat) : Rt (notE ex L m k s) r := not_up h1 h (cmp_off (noT_mono hn fun u hu => List.mem_append_right _ hu)) k
theorem and_of_not {m : Nat} (h : Rt (notE ex L m m s) r) (hn : noT hAnd (tokP L r.1 0) = true) : Rt (andE ex L m s) r := parts_up h (noT_mono hn fun u hu => List.mem_append_right _ hu)
theorem or_of_and {m : Nat} (h : Rt (andE ex L m s) r) (hn : noT hOr (tokP L r.1 0) = true) : Rt (orE ex L m s) r := parts_up h (noT_mono hn fun u hu => List.mem_append_right _ hu)
theorem expr_of_or {m : Nat} (h : Rt (orE ex L m s) r) (h1 : isT (tokP L s 0) kLambda = false) (hn : noT hExpr (tokP L r.1 0) = true) : Rt (exprB ex L m s) r := expr_up h1 h (noT_at hn (by simp))
theorem h_or {t : TokD} (h : noT hExpr t = true) : noT hOr t = true := noT_mono h fun u hu => List.mem_append_left _ hu
theorem h_and {t : TokD} (h : noT hOr t = true) : noT hAnd t = true := noT_mono h fun u hu => List.mem_append_left _ hu
theorem h_not {t : TokD} (h : noT hAnd t = true) : noT hNot t = true := noT_mono h fun u hu => List.mem_append_left _ hu
theorem h_sum {t : TokD} (h : noT hNot t = true) : noT hSum t = true := noT_mono h fun u hu => List.mem_append_left _ hu
theorem h_term {t : TokD} (h : noT hSum t = true) : noT hTerm t = true := noT_mono h fun u hu => List.mem_append_left _ hu
theorem h_fac {t : TokD} (h : noT hTerm t = true) : noT hFac t = true := noT_mono h fun u hu => List.mem_append_left _ hu
theorem h_post {t : TokD} (h : noT hFac t = true) : noT hPost t = true := noT_mono h fun u hu => List.mem_append_left _ hu
theorem expr_of_and {m : Nat} (h : Rt (andE ex L m s) r) (h1 : isT (tokP L s 0) kLambda = false) (hn : noT hExpr (tokP L r.1 0) = true) : Rt (exprB ex L m s) r := expr_of_or (or_of_and h (h_or hn)) h1 hn
theorem expr_of_not {m : Nat} (h : Rt (notE ex L m m s) r) (h1 : isT (tokP L s 0) kLambda = false) (hn : noT hExpr (tokP L r.1 0) = true) : Rt (exprB ex L m s) r := expr_of_and (and_of_not h (h_and (h_or hn))) h1 hn
theorem expr_of_sum {m : Nat} (h : Rt (sumE ex L m s) r) (h0 : noT [gMinus, kNot, kLambda] (tokP L s 0) = true) (hn : noT hExpr (tokP L r.1 0) = true) : Rt (exprB ex L m s) r := expr_of_not (not_of_sum h (noT_at h0 (by simp)) (h_not (h_and (h_or hn))) m) (noT_at h0 (by simp)) hn
theorem expr_of_term {m : Nat} (h : Rt (termE ex L m s) r) (h0 : noT [gMinus, kNot, kLambda] (tokP L s 0) = true) (hn : noT hExpr (tokP L r.1 0) = true) : Rt (exprB ex L m s) r := expr_of_sum (sum_of_term h (h_sum (h_not (h_and (h_or hn))))) h0 hn
theorem expr_of_post {m : Nat} (h : Rt (postfixE ex L m s) r) (h0 : noT [gMinus, kNot, kLambda] (tokP L s 0) = true) (hn : noT hExpr (tokP L r.1 0) = true) : Rt (exprB ex L m s) r := expr_of_term (term_of_fac (fac_of_post h (noT_at h0 (by simp)) (h_fac (h_term (h_sum (h_not (h_and (h_or hn)))))) m) (h_term (h_sum (h_not (h_and (h_or hn)))))) h0 hn
theorem expr_of_atom {m : Nat} (h : Rt (atomE ex L m s) r) (h0 : noT [gMinus, kNot, kLambda] (tokP L s 0) = true) (hn : noT hExpr (tokP L r.1 0) = true) : Rt (exprB ex L m s) r := expr_of_post (post_up h (h_post (h_fac (h_term (h_sum (h_not (h_and (h_or hn)))))))) h0 hn
theorem parts_two {part : Ex} {op : Int} {signs : List ByteArray} {m : Nat} {s1 s2 : PS} {x y : Int} {u : ByteArray} (h1 : Rt (part s) (s1, x)) (hu : anyP L signs s1 = (stepP s1 1, u, true)) (h2 : Rt (part (stepP s1 1)) (s2, y))
  (ha : addP s2 op (placeOf s2 x) (if op = 12 then u else ⟨#[]⟩) 0 [x, y] = r) (hn : noT signs (tokP L r.1 0) = true) : Rt (partsE L part op signs m s) r := by
 intro q hq
 unfold partsE at hq
 split at hq
 ·cases hq
 ·rename_i s1' x' ha1
  obtain ⟨rfl, rfl⟩ := Prod.mk.inj (h1 _ ha1)
  cases m with
  | zero => cases hq
  | succ m =>
   unfold leftE at hq
   simp only [hu] at hq
   rw [if_neg (by first | decide | simp)] at hq
   split at hq
   ·cases hq
   ·rename_i s2' y' hy
    obtain ⟨rfl, rfl⟩ := Prod.mk.inj (h2 _ hy)
    rw [ha] at hq
    cases m with
    | zero => cases hq
    | succ m =>
     unfold leftE at hq
     simp only [any_none (noT_is hn)] at hq
     rw [if_pos (by first | trivial | rfl)] at hq
     exact (Option.some.inj hq).symm
end
end
section
set_option linter.unusedVariables false
set_option linter.unusedSimpArgs false
def AtL (L : List TokD) (a : Nat) (l : List TokD) : Prop := ∃ rest, L.drop a = l ++ rest
section
variable {L : List TokD} {a : Nat} {l l' : List TokD} {t : TokD}
theorem AtL.left (h : AtL L a (l ++ l')) : AtL L a l := by
 obtain ⟨r, h⟩ := h
 exact ⟨l' ++ r, by rw [h, List.append_assoc]⟩
theorem AtL.right (h : AtL L a (l ++ l')) : AtL L (a + l.length) l' := by
 obtain ⟨r, h⟩ := h
 exact ⟨r, by rw [← List.drop_drop, h, List.append_assoc, List.drop_left]⟩
theorem AtL.head (h : AtL L a (t :: l)) : L[a]? = some t := by
 obtain ⟨r, h⟩ := h
 have : (L.drop a)[0]? = some t := by rw [h]; rfl
 rw [List.getElem?_drop] at this
 exact this
theorem AtL.tail (h : AtL L a (t :: l)) : AtL L (a + 1) l := AtL.right (l := [t]) h
def nx (L : List TokD) (a : Nat) : TokD := (L[a]?).getD zeroT
theorem AtL.nx (h : AtL L a (t :: l)) : nx L a = t := by unfold Go.Proofs.YtjdcicopjipmnaaDoor.nx; rw [h.head]; rfl
end
def startT (t : TokD) : Bool := decide (t.k = 2) || decide (t.k = 3) || decide (t.k = 1) || (decide (t.k = 4) && [gLp, gLb, gLc, gMinus].any fun u => decide (t.s = u))
section
variable {L : List TokD} {s : PS} {a : Nat} {ks : List Tr}
theorem tok_built (he : s.e = 0) : tokP L (built s a ks) 0 = nx L a := by
 unfold tokP
 rw [if_neg (show ¬ (built s a ks).e ≠ 0 from fun e => e he)]
 rfl
theorem tok_here (he : s.e = 0) : tokP L s 0 = nx L s.at_ := by
 unfold tokP
 rw [if_neg (fun e => e he)]
 rfl
theorem built_ok (hl : s.dp.length = s.ns.length) : (built s a ks).dp.length = (built s a ks).ns.length := by
 unfold built
 simp [hl, depss_len, flats_len]
theorem take_sign {u : ByteArray} (hk : tokP L s 0 = signT u) (hu : kwB u = false) : takeP L u s = (stepP s 1, true) := by
 have h : isP L s u 0 = true := by
  rw [isP_eq, hk]
  unfold isT
  rw [hu]
  simp [signT]
 have h2 : (takeP L u s).2 = true := by rw [take_is]; exact h
 exact Prod.ext (take_step h2).1 h2
theorem take_word {u : ByteArray} (hk : tokP L s 0 = wordT u) (hu : kwB u = true) : takeP L u s = (stepP s 1, true) := by
 have h : isP L s u 0 = true := by
  rw [isP_eq, hk]
  unfold isT
  rw [hu]
  simp [wordT]
 have h2 : (takeP L u s).2 = true := by rw [take_is]; exact h
 exact Prod.ext (take_step h2).1 h2
theorem need_sign {u : ByteArray} (hk : tokP L s 0 = signT u) (hu : kwB u = false) : needP L u s = stepP s 1 := by
 unfold needP
 rw [take_sign hk hu, if_pos (by first | trivial | rfl)]
theorem need_word {u : ByteArray} (hk : tokP L s 0 = wordT u) (hu : kwB u = true) : needP L u s = stepP s 1 := by
 unfold needP
 rw [take_word hk hu, if_pos (by first | trivial | rfl)]
theorem start_no {t : TokD} (h : startT t = true) {u : ByteArray} (hu : [gRp, gRb, gRc, gColon, gComma].any (fun v => decide (v = u)) = true) : isT t u = false := by
 cases hi : isT t u with
 | false => rfl
 | true =>
  exfalso
  unfold isT at hi
  rw [Bool.and_eq_true] at hi
  have h1 := of_decide_eq_true hi.1
  have h2 := of_decide_eq_true hi.2
  have hk : kwB u = false ∧ [gLp, gLb, gLc, gMinus].any (fun v => decide (u = v)) = false := by
   simp only [List.any_cons, List.any_nil, Bool.or_false, Bool.or_eq_true, decide_eq_true_eq] at hu
   rcases hu with rfl | rfl | rfl | rfl | rfl <;> decide
  rw [hk.1] at h1
  simp only [Bool.false_eq_true, if_false] at h1
  unfold startT at h
  rw [h1, h2] at h
  revert h
  rw [hk.2]
  decide
end
def RetX (L : List TokD) (e : Tr) : Prop := ∀ (m : Nat) (s : PS), s.e = 0 → s.dp.length = s.ns.length → AtL L s.at_ (Tr.toks e) → noT hExpr (nx L (s.at_ + (Tr.toks e).length)) = true → Rt (exprE L m s) (built s (s.at_ + (Tr.toks e).length) [e], topOf s e)
def Begins (e : Tr) : Prop := ∃ t l, Tr.toks e = t :: l ∧ startT t = true
section
variable {L : List TokD} {s : PS} {m m' : Nat}
theorem at_begin {e : Tr} (hb : Begins e) {a : Nat} {l : List TokD} (h : AtL L a (Tr.toks e ++ l)) : startT (nx L a) = true := by
 obtain ⟨t, l, h1, h2⟩ := hb
 rw [h1] at h
 rw [show nx L a = t from h.nx]
 exact h2
theorem inside_atom {e : Tr} (hx : RetX L e) (hb : Begins e) (he : s.e = 0) (hl : s.dp.length = s.ns.length) (ha : AtL L s.at_ (insideT (Tr.toks e))) : Rt (atomE (exprE L m) L m' s) (built s (s.at_ + (insideT (Tr.toks e)).length) [e], topOf s e) := by
 intro q hq
 have h0 := ha.nx
 have h1 := ha.tail
 have h2 := at_begin hb h1
 have h3 := h1.right
 have h4 := h3.nx
 unfold atomE at hq
 simp only [tok_here (L := L) he, h0] at hq
 rw [if_neg (by decide), if_neg (by decide), if_neg (by decide), if_pos (by decide), if_pos (by first | trivial | rfl)] at hq
 unfold roundE at hq
 have t0 : takeP L gRp (stepP s 1) = (stepP s 1, false) := take_none (by rw [isP_eq, tok_here (s := stepP s 1) he]; exact start_no h2 (by decide))
 rw [t0, if_neg (by first | decide | simp)] at hq
 split at hq
 ·cases hq
 ·rename_i s1 x hx1
  obtain ⟨rfl, rfl⟩ := Prod.mk.inj (hx m (stepP s 1) he hl h1.left (by show noT hExpr (nx L (s.at_ + 1 + _)) = true; rw [h4]; decide) _ hx1)
  have t1 := take_sign (L := L) (s := built (stepP s 1) ((stepP s 1).at_ + (Tr.toks e).length) [e]) (u := gRp) (by rw [tok_built (s := stepP s 1) he]; exact h4) (by decide)
  rw [t1, if_pos (by first | trivial | rfl)] at hq
  obtain rfl := Option.some.inj hq
  refine Prod.ext ?_ rfl
  show built s (s.at_ + 1 + (Tr.toks e).length + 1) [e] = built s _ [e]
  congr 1
  simp only [insideT, List.length_cons, List.length_append, List.length_nil]
  omega
theorem depm_mem : ∀ (ks : List Tr) (k : Tr), k ∈ ks → Tr.dep k ≤ Tr.depm ks
 | k :: ks, x, h => by
  simp only [Tr.depm]
  rcases List.mem_cons.1 h with rfl | h
  ·omega
  ·have := depm_mem ks x h
   omega
theorem row_back {fin : ByteArray} (hf : fin = gRp ∨ fin = gRb) (all : Bool) : ∀ (ks : List Tr) (m' : Nat) (s : PS) (a : Nat) (pre : List Tr), (∀ k ∈ ks, RetX L k ∧ Begins k) → s.e = 0 → s.dp.length = s.ns.length → AtL L a (rowsT all (Tr.tokss ks) ++ [signT fin]) →
  Rt (rowE (exprE L m) L fin m' (built s a pre) (Tr.idxs s.ns.length pre)) (built s (a + (rowsT all (Tr.tokss ks)).length + 1) (pre ++ ks), Tr.idxs s.ns.length (pre ++ ks))
 | ks, 0, s, a, pre, hk, he, hl, ha => fun q hq => by cases hq
 | [], m' + 1, s, a, pre, hk, he, hl, ha => by
  intro q hq
  unfold rowE at hq
  rw [if_neg (show ¬ (built s a pre).e ≠ 0 from fun e => e he)] at hq
  have t0 := take_sign (L := L) (s := built s a pre) (u := fin) (by rw [tok_built he]; exact ha.nx) (by rcases hf with rfl | rfl <;> decide)
  rw [t0, if_pos (by first | trivial | rfl)] at hq
  obtain rfl := Option.some.inj hq
  rw [List.append_nil]
  rfl
 | k :: ks, m' + 1, s, a, pre, hk, he, hl, ha => by
  intro q hq
  have hs : kwB fin = false ∧ [gRp, gRb, gRc, gColon, gComma].any (fun v => decide (v = fin)) = true ∧ noT hExpr (signT fin) = true ∧ isT (signT fin) gComma = false := by rcases hf with rfl | rfl <;> decide
  obtain ⟨hx, hb⟩ := hk k (.head _)
  have ha0 : AtL L a (Tr.toks k ++ (((if all || !(Tr.tokss ks).isEmpty then [signT gComma] else []) ++ rowsT all (Tr.tokss ks)) ++ [signT fin])) := by
   have := ha
   simp only [Tr.tokss, rowsT, List.append_assoc] at this ⊢
   exact this
  have h2 := at_begin hb ha0
  unfold rowE at hq
  rw [if_neg (show ¬ (built s a pre).e ≠ 0 from fun e => e he)] at hq
  have t0 : takeP L fin (built s a pre) = (built s a pre, false) := take_none (by rw [isP_eq, tok_built he]; exact start_no h2 hs.2.1)
  rw [t0, if_neg (by first | decide | simp)] at hq
  have h3 := ha0.right
  split at hq
  ·cases hq
  ·rename_i s1 x hx1
   by_cases hc : (all || !(Tr.tokss ks).isEmpty) = true
   ·rw [if_pos hc] at h3
    have h4 := h3.nx
    obtain ⟨rfl, rfl⟩ := Prod.mk.inj (hx m (built s a pre) he (built_ok hl) ha0.left (by show noT hExpr (nx L (a + _)) = true; rw [h4]; decide) _ hx1)
    rw [built_app] at hq
    have t1 := take_sign (L := L) (s := built s (a + (Tr.toks k).length) (pre ++ [k])) (u := gComma) (by rw [tok_built he]; exact h4) (by decide)
    rw [show (built s a pre).at_ = a from rfl, t1, if_pos (by first | trivial | rfl), ← top_built, built_step] at hq
    have h5 := row_back hf all ks m' s (a + (Tr.toks k).length + 1) (pre ++ [k]) (fun k hk' => hk k (.tail _ hk')) he hl h3.tail q hq
    rw [h5, List.append_assoc]
    simp only [Tr.tokss, rowsT, if_pos hc, LL, List.cons_append, List.nil_append]
    congr 2
    omega
   ·rw [if_neg hc] at h3
    have hall : all = false := by
     cases all with
     | false => rfl
     | true => exact absurd rfl hc
    have hks : ks = [] := by
     cases ks with
     | nil => rfl
     | cons y ys => exact absurd (by simp [Tr.tokss]) hc
    subst hks
    have h4 : nx L (a + (Tr.toks k).length) = signT fin := h3.nx
    obtain ⟨rfl, rfl⟩ := Prod.mk.inj (hx m (built s a pre) he (built_ok hl) ha0.left (by show noT hExpr (nx L (a + _)) = true; rw [h4]; exact hs.2.2.1) _ hx1)
    rw [built_app] at hq
    have t1 : takeP L gComma (built s (a + (Tr.toks k).length) (pre ++ [k])) = (_, false) := take_none (by rw [isP_eq, tok_built he, h4]; exact hs.2.2.2)
    have t2 := need_sign (L := L) (s := built s (a + (Tr.toks k).length) (pre ++ [k])) (u := fin) (by rw [tok_built he]; exact h4) hs.1
    rw [show (built s a pre).at_ = a from rfl, t1, if_neg (by first | decide | simp), t2, ← top_built, built_step] at hq
    obtain rfl := Option.some.inj hq
    have hz : (rowsT all (Tr.tokss [k])).length = (Tr.toks k).length := by
     subst hall
     simp [Tr.tokss, rowsT]
    rw [hz]
theorem pairs_back : ∀ (ks : List Tr) (m' : Nat) (s : PS) (a : Nat) (pre : List Tr), (∀ k ∈ ks, RetX L k ∧ Begins k) → ks.length % 2 = 0 → s.e = 0 → s.dp.length = s.ns.length → AtL L a (pairsT (Tr.tokss ks) ++ [signT gRc]) →
  Rt (pairsE (exprE L m) L m' (built s a pre) (Tr.idxs s.ns.length pre)) (built s (a + (pairsT (Tr.tokss ks)).length + 1) (pre ++ ks), Tr.idxs s.ns.length (pre ++ ks))
 | ks, 0, s, a, pre, hk, hev, he, hl, ha => fun q hq => by cases hq
 | [], m' + 1, s, a, pre, hk, hev, he, hl, ha => by
  intro q hq
  unfold pairsE at hq
  rw [if_neg (show ¬ (built s a pre).e ≠ 0 from fun e => e he)] at hq
  have t0 := take_sign (L := L) (s := built s a pre) (u := gRc) (by rw [tok_built he]; exact ha.nx) (by decide)
  rw [t0, if_pos (by first | trivial | rfl)] at hq
  obtain rfl := Option.some.inj hq
  rw [List.append_nil]
  rfl
 | [k], m' + 1, s, a, pre, hk, hev, he, hl, ha => by simp at hev
 | k :: v :: ks, m' + 1, s, a, pre, hk, hev, he, hl, ha => by
  intro q hq
  obtain ⟨hx, hb⟩ := hk k (.head _)
  obtain ⟨hv, hbv⟩ := hk v (.tail _ (.head _))
  have ha0 : AtL L a (Tr.toks k ++ (signT gColon :: (Tr.toks v ++ (signT gComma :: (pairsT (Tr.tokss ks) ++ [signT gRc]))))) := by
   have := ha
   simp only [Tr.tokss, pairsT, List.append_assoc, List.cons_append] at this ⊢
   exact this
  have h2 := at_begin hb ha0
  unfold pairsE at hq
  rw [if_neg (show ¬ (built s a pre).e ≠ 0 from fun e => e he)] at hq
  have t0 : takeP L gRc (built s a pre) = (built s a pre, false) := take_none (by rw [isP_eq, tok_built he]; exact start_no h2 (by decide))
  rw [t0, if_neg (by first | decide | simp)] at hq
  have h3 := ha0.right
  have h4 := h3.nx
  split at hq
  ·cases hq
  ·rename_i s1 x hx1
   obtain ⟨rfl, rfl⟩ := Prod.mk.inj (hx m (built s a pre) he (built_ok hl) ha0.left (by show noT hExpr (nx L (a + _)) = true; rw [h4]; decide) _ hx1)
   rw [built_app] at hq
   have t1 := need_sign (L := L) (s := built s (a + (Tr.toks k).length) (pre ++ [k])) (u := gColon) (by rw [tok_built he]; exact h4) (by decide)
   rw [show (built s a pre).at_ = a from rfl, t1, built_step] at hq
   have h5 := h3.tail.right
   have h6 := h5.nx
   split at hq
   ·cases hq
   ·rename_i s2 y hy1
    obtain ⟨rfl, rfl⟩ := Prod.mk.inj (hv m (built s (a + (Tr.toks k).length + 1) (pre ++ [k])) he (built_ok hl) h3.tail.left (by show noT hExpr (nx L (a + _ + 1 + _)) = true; rw [h6]; decide) _ hy1)
    rw [built_app] at hq
    have t2 := take_sign (L := L) (s := built s (a + (Tr.toks k).length + 1 + (Tr.toks v).length) (pre ++ [k] ++ [v])) (u := gComma) (by rw [tok_built he]; exact h6) (by decide)
    rw [show (built s (a + (Tr.toks k).length + 1) (pre ++ [k])).at_ = a + (Tr.toks k).length + 1 from rfl, t2, if_pos (by first | trivial | rfl), built_step] at hq
    have e2 : Tr.idxs s.ns.length pre ++ [topOf (built s a pre) k, topOf (built s (a + (Tr.toks k).length + 1) (pre ++ [k])) v] = Tr.idxs s.ns.length (pre ++ [k] ++ [v]) := by
     rw [top_built s (a + (Tr.toks k).length + 1) (pre ++ [k]) v, top_built s a pre k, List.append_assoc]
     rfl
    rw [e2] at hq
    have h7 := pairs_back ks m' s _ (pre ++ [k] ++ [v]) (fun k hk' => hk k (.tail _ (.tail _ hk'))) (by simp only [List.length_cons] at hev; omega) he hl h5.tail q hq
    rw [h7, List.append_assoc, List.append_assoc]
    simp only [Tr.tokss, pairsT, List.length_append, List.length_cons, List.cons_append, List.nil_append]
    congr 2
    omega
end
end
section
set_option linter.unusedVariables false
set_option linter.unusedSimpArgs false
section
variable {L : List TokD} {s : PS} {m m' : Nat}
theorem built_at (s : PS) : built s (s.at_ + 1) [] = stepP s 1 := by simp [built, stepP, Tr.flats, Tr.depss]
theorem any_pick {t : TokD} (h : tokP L s 0 = t) {u : ByteArray} : ∀ {signs : List ByteArray}, signs.find? (fun u => isT t u) = some u → anyP L signs s = (stepP s 1, u, true)
 | [], hf => by cases hf
 | v :: signs, hf => by
  unfold anyP
  rw [isP_eq, h]
  rw [List.find?_cons] at hf
  split at hf
  ·rename_i hv
   obtain rfl := Option.some.inj hf
   rw [if_pos hv]
  ·rename_i hv
   rw [if_neg (by rw [hv]; decide)]
   exact any_pick h hf
theorem add_two (he : s.e = 0) (hl : s.dp.length = s.ns.length) {x y : Tr} (b c : Nat) (op : Int) (t : ByteArray) (hd : Tr.depm [x, y] < 40) :
  addP (built (built s b [x]) c [y]) op (placeOf (built (built s b [x]) c [y]) (topOf s x)) t 0 [topOf s x, topOf (built s b [x]) y] = (built s c [.mk op 0 t [x, y]], topOf s (.mk op 0 t [x, y])) := by
 rw [built_app, place_built _ _ _ _ (top_ge s x)]
 have := add_built he hl c op 0 t [x, y] hd
 rw [← this]
 congr 1
 exact (top_built s b [x] y).symm
theorem add_three (he : s.e = 0) (hl : s.dp.length = s.ns.length) {x y z : Tr} (b b2 c : Nat) (op : Int) (t : ByteArray) {a : Int} (ha : a = 0) (hd : Tr.depm [x, y, z] < 40) :
  addP (built s c [x, y, z]) op a t 0 [topOf s x, topOf (built s b [x]) y, topOf (built s b2 [x, y]) z] = (built s c [.mk op 0 t [x, y, z]], topOf s (.mk op 0 t [x, y, z])) := by
 subst ha
 have := add_built he hl c op 0 t [x, y, z] hd
 rw [← this]
 congr 1
 have h1 := top_built s b2 [x, y] z
 have h2 := top_built s b [x] y
 rw [show ([x, y, z] : List Tr) = [x, y] ++ [z] from rfl, h1, show ([x, y] : List Tr) = [x] ++ [y] from rfl, h2]
 rfl
theorem leaf_back {op n : Int} {t : ByteArray} {tk : TokD} (ht : Tr.toks (.mk op n t []) = [tk]) (h0 : noT [gMinus, kNot, kLambda] tk = true)
  (hat : ∀ (ex : Ex) (m : Nat) (s : PS), tokP L s 0 = tk → atomE ex L m s = some (addP (stepP s 1) op 0 t n [])) : RetX L (.mk op n t []) := by
 intro m s he hl ha hn
 rw [ht] at ha hn ⊢
 cases m with
 | zero => exact fun q hq => by cases hq
 | succ m =>
  have h1 : tokP L s 0 = tk := by rw [tok_here he]; exact ha.nx
  have hr : addP (stepP s 1) op 0 t n [] = (built s (s.at_ + 1) [.mk op n t []], topOf s (.mk op n t [])) := by
   have := add_built he hl (s.at_ + 1) op n t [] (by show (0 : Int) < 40; decide)
   rw [built_at] at this
   exact this
  refine expr_of_atom (r := (built s (s.at_ + 1) [.mk op n t []], topOf s (.mk op n t []))) ?_ (by rw [h1]; exact h0) (by rw [tok_built he]; exact hn)
  intro q hq
  rw [hat _ _ _ h1, hr] at hq
  exact (Option.some.inj hq).symm
theorem name_no {t : ByteArray} (h : nameB t = true) : kwB t = false := by
 unfold nameB at h
 split at h
 ·cases h
 ·simp only [Bool.and_eq_true, Bool.not_eq_true'] at h
  exact h.2
theorem name_off {t : ByteArray} (h : nameB t = true) {u : ByteArray} (hu : kwB u = true) : t ≠ u := by
 rintro rfl
 rw [name_no h] at hu
 cases hu
theorem word_no {t u : ByteArray} (h : nameB t = true) : isT (wordT t) u = false := by
 cases hi : isT (wordT t) u with
 | false => rfl
 | true =>
  exfalso
  unfold isT at hi
  rw [Bool.and_eq_true] at hi
  have h1 := of_decide_eq_true hi.1
  have h2 : t = u := of_decide_eq_true hi.2
  subst h2
  rw [name_no h] at h1
  exact absurd h1 (show ¬ ((1 : Int) = if false = true then 1 else 4) by decide)
theorem leaf_word {op : Int} {t : ByteArray} (hop : wordOp t = some op) (ht : Tr.toks (.mk op 0 ⟨#[]⟩ []) = [wordT t]) (h0 : noT [gMinus, kNot, kLambda] (wordT t) = true) : RetX L (.mk op 0 ⟨#[]⟩ []) :=
 leaf_back ht h0 fun ex m s h => by
  unfold atomE
  simp only [h]
  rw [if_neg (show ¬ (wordT t).k = 2 from (show ¬ (1 : Int) = 2 by decide)), if_neg (show ¬ (wordT t).k = 3 from (show ¬ (1 : Int) = 3 by decide)), if_pos (show (wordT t).k = 1 from rfl)]
  rw [show (wordT t).s = t from rfl, hop]
  rfl
theorem brackets_back {op : Int} {ks : List Tr} {l : List TokD} (hd : Tr.depm ks < 40) (ht : Tr.toks (.mk op 0 ⟨#[]⟩ ks) = l) {tk : TokD} {l1 : List TokD} (hl1 : l = tk :: l1) (h0 : noT [gMinus, kNot, kLambda] tk = true)
  (hat : ∀ (m m' : Nat) (s : PS), s.e = 0 → s.dp.length = s.ns.length → AtL L s.at_ l → Rt (atomE (exprE L m) L m' s) (addP (built s (s.at_ + l.length) ks) op 0 ⟨#[]⟩ 0 (Tr.idxs s.ns.length ks))) : RetX L (.mk op 0 ⟨#[]⟩ ks) := by
 intro m s he hl ha hn
 rw [ht] at ha hn ⊢
 cases m with
 | zero => exact fun q hq => by cases hq
 | succ m =>
  have h1 : tokP L s 0 = tk := by rw [tok_here he]; rw [hl1] at ha; exact ha.nx
  refine expr_of_atom ?_ (by rw [h1]; exact h0) (by rw [tok_built he]; exact hn)
  have := hat m m s he hl ha
  rw [add_built he hl (s.at_ + l.length) op 0 ⟨#[]⟩ ks hd] at this
  exact this
theorem list_back {ks : List Tr} (hk : ∀ k ∈ ks, RetX L k ∧ Begins k) (hd : Tr.depm ks < 40) : RetX L (.mk 7 0 ⟨#[]⟩ ks) := by
 refine brackets_back hd (l := signT gLb :: (rowsT false (Tr.tokss ks) ++ [signT gRb])) (by simp [Tr.toks, lay]) rfl (by decide) ?_
 intro m m' s he hl ha q hq
 unfold atomE at hq
 simp only [tok_here (L := L) he, ha.nx] at hq
 rw [if_neg (by decide), if_neg (by decide), if_neg (by decide), if_pos (by decide), if_neg (by decide), if_pos (by decide)] at hq
 split at hq
 ·cases hq
 ·rename_i s1 x hx
  rw [← built_at] at hx
  obtain ⟨rfl, rfl⟩ := Prod.mk.inj (row_back (m := m) (.inr rfl) false ks m' s (s.at_ + 1) [] hk he hl ha.tail _ hx)
  obtain rfl := Option.some.inj hq
  rw [List.nil_append]
  have e : s.at_ + 1 + (rowsT false (Tr.tokss ks)).length + 1 = s.at_ + (signT gLb :: (rowsT false (Tr.tokss ks) ++ [signT gRb])).length := by
   simp only [List.length_cons, List.length_append, List.length_nil]
   omega
  rw [e]
  rfl
theorem dict_back {ks : List Tr} (hk : ∀ k ∈ ks, RetX L k ∧ Begins k) (hev : ks.length % 2 = 0) (hd : Tr.depm ks < 40) : RetX L (.mk 9 0 ⟨#[]⟩ ks) := by
 refine brackets_back hd (l := signT gLc :: (pairsT (Tr.tokss ks) ++ [signT gRc])) (by simp [Tr.toks, lay]) rfl (by decide) ?_
 intro m m' s he hl ha q hq
 unfold atomE at hq
 simp only [tok_here (L := L) he, ha.nx] at hq
 rw [if_neg (by decide), if_neg (by decide), if_neg (by decide), if_pos (by decide), if_neg (by decide), if_neg (by decide), if_pos (by decide)] at hq
 split at hq
 ·cases hq
 ·rename_i s1 x hx
  rw [← built_at] at hx
  obtain ⟨rfl, rfl⟩ := Prod.mk.inj (pairs_back (m := m) ks m' s (s.at_ + 1) [] hk hev he hl ha.tail _ hx)
  obtain rfl := Option.some.inj hq
  rw [List.nil_append]
  have e : s.at_ + 1 + (pairsT (Tr.tokss ks)).length + 1 = s.at_ + (signT gLc :: (pairsT (Tr.tokss ks) ++ [signT gRc])).length := by
   simp only [List.length_cons, List.length_append, List.length_nil]
   omega
  rw [e]
  rfl
theorem tuple_back {ks : List Tr} (hk : ∀ k ∈ ks, RetX L k ∧ Begins k) (hd : Tr.depm ks < 40) : RetX L (.mk 8 0 ⟨#[]⟩ ks) := by
 refine brackets_back hd (l := signT gLp :: (rowsT true (Tr.tokss ks) ++ [signT gRp])) (by simp [Tr.toks, lay]) rfl (by decide) ?_
 intro m m' s he hl ha q hq
 unfold atomE at hq
 simp only [tok_here (L := L) he, ha.nx] at hq
 rw [if_neg (by decide), if_neg (by decide), if_neg (by decide), if_pos (by decide), if_pos (by first | trivial | rfl)] at hq
 unfold roundE at hq
 cases ks with
 | nil =>
  have h2 : nx L (s.at_ + 1) = signT gRp := ha.tail.nx
  rw [take_sign (L := L) (s := stepP s 1) (u := gRp) (by rw [tok_here (s := stepP s 1) he]; exact h2) (by decide), if_pos (by first | trivial | rfl)] at hq
  obtain rfl := Option.some.inj hq
  have e : built s (s.at_ + (signT gLp :: (rowsT true (Tr.tokss []) ++ [signT gRp])).length) [] = stepP (stepP s 1) 1 := by
   simp [built, stepP, Tr.flats, Tr.depss, Tr.tokss, rowsT]
  rw [e]
  rfl
 | cons k ks =>
  obtain ⟨hx, hb⟩ := hk k (.head _)
  have ha0 : AtL L (s.at_ + 1) (Tr.toks k ++ (signT gComma :: (rowsT true (Tr.tokss ks) ++ [signT gRp]))) := by
   have := ha.tail
   simp only [Tr.tokss, rowsT, Bool.true_or, if_true, List.append_assoc, List.cons_append, List.nil_append] at this ⊢
   exact this
  have h2 := at_begin hb ha0
  have t0 : takeP L gRp (stepP s 1) = (stepP s 1, false) := take_none (by rw [isP_eq, tok_here (s := stepP s 1) he]; exact start_no h2 (by decide))
  rw [t0, if_neg (by first | decide | simp)] at hq
  have h3 := ha0.right
  have h4 := h3.nx
  split at hq
  ·cases hq
  ·rename_i s1 x hx1
   obtain ⟨rfl, rfl⟩ := Prod.mk.inj (hx m (stepP s 1) he hl ha0.left (by show noT hExpr (nx L (s.at_ + 1 + _)) = true; rw [h4]; decide) _ hx1)
   have eb : built (stepP s 1) ((stepP s 1).at_ + (Tr.toks k).length) [k] = built s (s.at_ + 1 + (Tr.toks k).length) [k] := rfl
   rw [eb] at hq
   have t1 : takeP L gRp (built s (s.at_ + 1 + (Tr.toks k).length) [k]) = (_, false) := take_none (by rw [isP_eq, tok_built he, h4]; decide)
   have t2 := need_sign (L := L) (s := built s (s.at_ + 1 + (Tr.toks k).length) [k]) (u := gComma) (by rw [tok_built he]; exact h4) (by decide)
   rw [t1, if_neg (by first | decide | simp), t2, built_step] at hq
   split at hq
   ·cases hq
   ·rename_i s2 kids hr
    obtain ⟨rfl, rfl⟩ := Prod.mk.inj (row_back (m := m) (.inl rfl) true ks m' s _ [k] (fun k hk' => hk k (.tail _ hk')) he hl h3.tail _ hr)
    obtain rfl := Option.some.inj hq
    have e : s.at_ + 1 + (Tr.toks k).length + 1 + (rowsT true (Tr.tokss ks)).length + 1 = s.at_ + (signT gLp :: (rowsT true (Tr.tokss (k :: ks)) ++ [signT gRp])).length := by
     simp only [Tr.tokss, rowsT, Bool.true_or, if_true, List.length_cons, List.length_append, List.length_nil, List.cons_append, List.nil_append]
     omega
    rw [e]
    rfl
theorem inside_expr {e : Tr} (hx : RetX L e) (hb : Begins e) (he : s.e = 0) (hl : s.dp.length = s.ns.length) (ha : AtL L s.at_ (insideT (Tr.toks e))) (hn : noT hExpr (nx L (s.at_ + (insideT (Tr.toks e)).length)) = true) : Rt (exprE L m s) (built s (s.at_ + (insideT (Tr.toks e)).length) [e], topOf s e) := by
 cases m with
 | zero => exact fun q hq => by cases hq
 | succ m => exact expr_of_atom (inside_atom hx hb he hl ha) (by rw [tok_here he, ha.nx]; decide) (by rw [tok_built he]; exact hn)
theorem inside_fac {e : Tr} (hx : RetX L e) (hb : Begins e) (he : s.e = 0) (hl : s.dp.length = s.ns.length) (ha : AtL L s.at_ (insideT (Tr.toks e))) (hn : noT hFac (nx L (s.at_ + (insideT (Tr.toks e)).length)) = true) (k : Nat) : Rt (factorE (exprE L m) L m' k s) (built s (s.at_ + (insideT (Tr.toks e)).length) [e], topOf s e) :=
 fac_of_atom (inside_atom hx hb he hl ha) (by rw [tok_here he, ha.nx]; decide) (by rw [tok_built he]; exact hn) k
theorem inside_term {e : Tr} (hx : RetX L e) (hb : Begins e) (he : s.e = 0) (hl : s.dp.length = s.ns.length) (ha : AtL L s.at_ (insideT (Tr.toks e))) (hn : noT hTerm (nx L (s.at_ + (insideT (Tr.toks e)).length)) = true) : Rt (termE (exprE L m) L m' s) (built s (s.at_ + (insideT (Tr.toks e)).length) [e], topOf s e) :=
 term_of_fac (inside_fac hx hb he hl ha (h_fac hn) m') (by rw [tok_built he]; exact hn)
theorem inside_sum {e : Tr} (hx : RetX L e) (hb : Begins e) (he : s.e = 0) (hl : s.dp.length = s.ns.length) (ha : AtL L s.at_ (insideT (Tr.toks e))) (hn : noT hSum (nx L (s.at_ + (insideT (Tr.toks e)).length)) = true) : Rt (sumE (exprE L m) L m' s) (built s (s.at_ + (insideT (Tr.toks e)).length) [e], topOf s e) :=
 sum_of_term (inside_term hx hb he hl ha (h_term hn)) (by rw [tok_built he]; exact hn)
theorem inside_not {e : Tr} (hx : RetX L e) (hb : Begins e) (he : s.e = 0) (hl : s.dp.length = s.ns.length) (ha : AtL L s.at_ (insideT (Tr.toks e))) (hn : noT hNot (nx L (s.at_ + (insideT (Tr.toks e)).length)) = true) (k : Nat) : Rt (notE (exprE L m) L m' k s) (built s (s.at_ + (insideT (Tr.toks e)).length) [e], topOf s e) :=
 not_of_sum (inside_sum hx hb he hl ha (h_sum hn)) (by rw [tok_here he, ha.nx]; decide) (by rw [tok_built he]; exact hn) k
theorem inside_and {e : Tr} (hx : RetX L e) (hb : Begins e) (he : s.e = 0) (hl : s.dp.length = s.ns.length) (ha : AtL L s.at_ (insideT (Tr.toks e))) (hn : noT hAnd (nx L (s.at_ + (insideT (Tr.toks e)).length)) = true) : Rt (andE (exprE L m) L m' s) (built s (s.at_ + (insideT (Tr.toks e)).length) [e], topOf s e) :=
 and_of_not (inside_not hx hb he hl ha (h_not hn) m') (by rw [tok_built he]; exact hn)
theorem inside_or {e : Tr} (hx : RetX L e) (hb : Begins e) (he : s.e = 0) (hl : s.dp.length = s.ns.length) (ha : AtL L s.at_ (insideT (Tr.toks e))) (hn : noT hOr (nx L (s.at_ + (insideT (Tr.toks e)).length)) = true) : Rt (orE (exprE L m) L m' s) (built s (s.at_ + (insideT (Tr.toks e)).length) [e], topOf s e) :=
 or_of_and (inside_and hx hb he hl ha (h_and hn)) (by rw [tok_built he]; exact hn)
theorem hx_fac {t : TokD} (h : noT hExpr t = true) : noT hFac t = true := h_fac (h_term (h_sum (h_not (h_and (h_or h)))))
theorem hx_term {t : TokD} (h : noT hExpr t = true) : noT hTerm t = true := h_term (h_sum (h_not (h_and (h_or h))))
theorem hx_sum {t : TokD} (h : noT hExpr t = true) : noT hSum t = true := h_sum (h_not (h_and (h_or h)))
theorem hx_not {t : TokD} (h : noT hExpr t = true) : noT hNot t = true := h_not (h_and (h_or h))
theorem hx_and {t : TokD} (h : noT hExpr t = true) : noT hAnd t = true := h_and (h_or h)
theorem neg_back {x : Tr} (hx : RetX L x) (hb : Begins x) (hd : Tr.depm [x] < 40) : RetX L (.mk 10 0 ⟨#[]⟩ [x]) := by
 intro m s he hl ha hn
 have ht : Tr.toks (.mk 10 0 ⟨#[]⟩ [x]) = signT gMinus :: insideT (Tr.toks x) := by simp [Tr.toks, Tr.tokss, lay, nthT]
 rw [ht] at ha hn ⊢
 cases m with
 | zero => exact fun q hq => by cases hq
 | succ m =>
  have h0 := ha.nx
  have e : s.at_ + (signT gMinus :: insideT (Tr.toks x)).length = s.at_ + 1 + (insideT (Tr.toks x)).length := by simp only [List.length_cons]; omega
  rw [e] at hn ⊢
  have hf : ∀ k, Rt (factorE (exprE L m) L m k s) (built s (s.at_ + 1 + (insideT (Tr.toks x)).length) [.mk 10 0 ⟨#[]⟩ [x]], topOf s (.mk 10 0 ⟨#[]⟩ [x])) := by
   intro k q hq
   cases k with
   | zero => cases hq
   | succ k =>
    unfold factorE at hq
    simp only [tok_here (L := L) he, h0] at hq
    rw [take_sign (L := L) (by rw [tok_here he]; exact h0) (by decide), if_pos (by first | trivial | rfl)] at hq
    split at hq
    ·cases hq
    ·rename_i s1 y hy
     obtain ⟨rfl, rfl⟩ := Prod.mk.inj (inside_fac (s := stepP s 1) hx hb he hl ha.tail (hx_fac hn) k _ hy)
     obtain rfl := Option.some.inj hq
     exact add_built he hl _ 10 0 ⟨#[]⟩ [x] hd
  have hn' := hn
  refine expr_of_not (not_of_sum (sum_of_term (term_of_fac (hf m) ?_) ?_) ?_ ?_ m) ?_ ?_
  ·rw [tok_built he]; exact hx_term hn
  ·rw [tok_built he]; exact hx_sum hn
  ·rw [tok_here he, h0]; decide
  ·rw [tok_built he]; exact hx_not hn
  ·rw [tok_here he, h0]; decide
  ·rw [tok_built he]; exact hn
theorem nott_back {x : Tr} (hx : RetX L x) (hb : Begins x) (hd : Tr.depm [x] < 40) : RetX L (.mk 11 0 ⟨#[]⟩ [x]) := by
 intro m s he hl ha hn
 have ht : Tr.toks (.mk 11 0 ⟨#[]⟩ [x]) = wordT kNot :: insideT (Tr.toks x) := by simp [Tr.toks, Tr.tokss, lay, nthT]
 rw [ht] at ha hn ⊢
 cases m with
 | zero => exact fun q hq => by cases hq
 | succ m =>
  have h0 := ha.nx
  have e : s.at_ + (wordT kNot :: insideT (Tr.toks x)).length = s.at_ + 1 + (insideT (Tr.toks x)).length := by simp only [List.length_cons]; omega
  rw [e] at hn ⊢
  have hf : ∀ k, Rt (notE (exprE L m) L m k s) (built s (s.at_ + 1 + (insideT (Tr.toks x)).length) [.mk 11 0 ⟨#[]⟩ [x]], topOf s (.mk 11 0 ⟨#[]⟩ [x])) := by
   intro k q hq
   cases k with
   | zero => cases hq
   | succ k =>
    unfold notE at hq
    simp only [tok_here (L := L) he, h0] at hq
    rw [take_word (L := L) (by rw [tok_here he]; exact h0) (by decide), if_pos (by first | trivial | rfl)] at hq
    split at hq
    ·cases hq
    ·rename_i s1 y hy
     obtain ⟨rfl, rfl⟩ := Prod.mk.inj (inside_not (s := stepP s 1) hx hb he hl ha.tail (hx_not hn) k _ hy)
     obtain rfl := Option.some.inj hq
     exact add_built he hl _ 11 0 ⟨#[]⟩ [x] hd
  refine expr_of_not (hf m) ?_ ?_
  ·rw [tok_here he, h0]; decide
  ·rw [tok_built he]; exact hn
end
end
section
set_option linter.unusedVariables false
set_option linter.unusedSimpArgs false
section
variable {L : List TokD} {s : PS} {m m' : Nat}
theorem two_at {x y : Tr} {o : List TokD} {a : Nat} (ha : AtL L a (insideT (Tr.toks x) ++ (o ++ insideT (Tr.toks y)))) : AtL L a (insideT (Tr.toks x)) ∧ AtL L (a + (insideT (Tr.toks x)).length) (o ++ insideT (Tr.toks y)) ∧ AtL L (a + (insideT (Tr.toks x)).length + o.length) (insideT (Tr.toks y)) :=
 ⟨ha.left, ha.right, ha.right.right⟩
theorem two_len {x y : Tr} {o : List TokD} (a : Nat) : a + (insideT (Tr.toks x) ++ (o ++ insideT (Tr.toks y))).length = a + (insideT (Tr.toks x)).length + o.length + (insideT (Tr.toks y)).length := by
 simp only [List.length_append]
 omega
theorem parts_back {x y : Tr} {op : Int} {t : ByteArray} {tk : TokD} {u : ByteArray} {part : Ex} {signs : List ByteArray} (he : s.e = 0) (hl : s.dp.length = s.ns.length)
  (hd : Tr.depm [x, y] < 40) (ha : AtL L s.at_ (insideT (Tr.toks x) ++ ([tk] ++ insideT (Tr.toks y)))) (hu : signs.find? (fun u => isT tk u) = some u) (ht : (if op = 12 then u else ⟨#[]⟩) = t)
  (h1 : Rt (part s) (built s (s.at_ + (insideT (Tr.toks x)).length) [x], topOf s x))
  (h2 : Rt (part (built s (s.at_ + (insideT (Tr.toks x)).length + 1) [x])) (built (built s (s.at_ + (insideT (Tr.toks x)).length + 1) [x]) (s.at_ + (insideT (Tr.toks x)).length + 1 + (insideT (Tr.toks y)).length) [y], topOf (built s (s.at_ + (insideT (Tr.toks x)).length + 1) [x]) y))
  (hn : noT signs (nx L (s.at_ + (insideT (Tr.toks x) ++ ([tk] ++ insideT (Tr.toks y))).length)) = true) (k : Nat) :
  Rt (partsE L part op signs k s) (built s (s.at_ + (insideT (Tr.toks x) ++ ([tk] ++ insideT (Tr.toks y))).length) [.mk op 0 t [x, y]], topOf s (.mk op 0 t [x, y])) := by
 have h0 := (two_at ha).2.1.nx
 rw [two_len] at hn ⊢
 refine parts_two (u := u) h1 (any_pick (t := tk) (by rw [tok_built he]; exact h0) hu) (by rw [built_step]; exact h2) ?_ (by rw [tok_built he]; exact hn)
 rw [ht]
 exact add_two he hl _ _ op t hd
theorem bin_back {x y : Tr} {t : ByteArray} (ht : t ∈ binaries) (hx : RetX L x ∧ Begins x) (hy : RetX L y ∧ Begins y) (hd : Tr.depm [x, y] < 40) : RetX L (.mk 12 0 t [x, y]) := by
 intro m s he hl ha hn
 have hl0 : Tr.toks (.mk 12 0 t [x, y]) = insideT (Tr.toks x) ++ ([signT t] ++ insideT (Tr.toks y)) := by
  simp only [binaries, List.mem_cons, List.not_mem_nil, or_false] at ht
  rcases ht with rfl | rfl | rfl | rfl | rfl | rfl <;> simp [Tr.toks, Tr.tokss, lay, nthT, opWords]
 rw [hl0] at ha hn ⊢
 cases m with
 | zero => exact fun q hq => by cases hq
 | succ m =>
  obtain ⟨a1, a2, a3⟩ := two_at ha
  have h0 := a2.nx
  have hs0 : tokP L s 0 = signT gLp := by rw [tok_here he]; exact a1.nx
  have a3' : AtL L (s.at_ + (insideT (Tr.toks x)).length + 1) (insideT (Tr.toks y)) := a3
  have hn2 := hn
  rw [two_len] at hn2
  simp only [binaries, List.mem_cons, List.not_mem_nil, or_false] at ht
  have hl1 : (built s (s.at_ + (insideT (Tr.toks x)).length + 1) [x]).dp.length = (built s (s.at_ + (insideT (Tr.toks x)).length + 1) [x]).ns.length := built_ok hl
  have hsum : (t = gPlus ∨ t = gMinus) → Rt (exprE L (m + 1) s) (built s (s.at_ + (insideT (Tr.toks x) ++ ([signT t] ++ insideT (Tr.toks y))).length) [.mk 12 0 t [x, y]], topOf s (.mk 12 0 t [x, y])) := fun htt => by
   refine expr_of_sum ?_ (by rw [hs0]; decide) (by rw [tok_built he]; exact hn)
   refine parts_back (u := t) he hl hd ha (by rcases htt with rfl | rfl <;> rfl) (if_pos rfl) (inside_term hx.1 hx.2 he hl a1 (by rw [h0]; rcases htt with rfl | rfl <;> decide)) (inside_term (s := built s (s.at_ + (insideT (Tr.toks x)).length + 1) [x]) hy.1 hy.2 he hl1 a3' (hx_term hn2)) (noT_mono hn ?_) m
   intro u hu
   have := hu
   simp only [List.mem_cons, List.not_mem_nil, or_false] at this
   rcases this with rfl | rfl <;> simp
  have hterm : (t = gStar ∨ t = gDiv ∨ t = gMod) → Rt (exprE L (m + 1) s) (built s (s.at_ + (insideT (Tr.toks x) ++ ([signT t] ++ insideT (Tr.toks y))).length) [.mk 12 0 t [x, y]], topOf s (.mk 12 0 t [x, y])) := fun htt => by
   refine expr_of_term ?_ (by rw [hs0]; decide) (by rw [tok_built he]; exact hn)
   refine parts_back (u := t) he hl hd ha (by rcases htt with rfl | rfl | rfl <;> rfl) (if_pos rfl) (inside_fac hx.1 hx.2 he hl a1 (by rw [h0]; rcases htt with rfl | rfl | rfl <;> decide) m) (inside_fac (s := built s (s.at_ + (insideT (Tr.toks x)).length + 1) [x]) hy.1 hy.2 he hl1 a3' (hx_fac hn2) m) (noT_mono hn ?_) m
   intro u hu
   have := hu
   simp only [List.mem_cons, List.not_mem_nil, or_false] at this
   rcases this with rfl | rfl | rfl <;> simp
  rcases ht with h | h | h | h | h | rfl
  ·exact hsum (.inl h)
  ·exact hsum (.inr h)
  ·exact hterm (.inl h)
  ·exact hterm (.inr (.inl h))
  ·exact hterm (.inr (.inr h))
  ·rw [two_len] at hn ⊢
   have hf : ∀ k, Rt (factorE (exprE L m) L m k s) (built s (s.at_ + (insideT (Tr.toks x)).length + 1 + (insideT (Tr.toks y)).length) [.mk 12 0 gPow [x, y]], topOf s (.mk 12 0 gPow [x, y])) := by
    intro k q hq
    cases k with
    | zero => cases hq
    | succ k =>
     unfold factorE at hq
     have t0 : takeP L gMinus s = (s, false) := take_none (by rw [isP_eq, hs0]; decide)
     simp only [t0] at hq
     rw [if_neg (by first | decide | simp)] at hq
     split at hq
     ·cases hq
     ·rename_i s1 z hz
      obtain ⟨rfl, rfl⟩ := Prod.mk.inj (post_up (inside_atom hx.1 hx.2 he hl a1) (by rw [tok_built he, h0]; decide) _ hz)
      have t1 := take_sign (L := L) (s := built s (s.at_ + (insideT (Tr.toks x)).length) [x]) (u := gPow) (by rw [tok_built he]; exact h0) (by decide)
      rw [t1, if_pos (by first | trivial | rfl), built_step] at hq
      split at hq
      ·cases hq
      ·rename_i s2 v hv
       obtain ⟨rfl, rfl⟩ := Prod.mk.inj (inside_fac (s := built s (s.at_ + (insideT (Tr.toks x)).length + 1) [x]) hy.1 hy.2 he hl1 a3' (hx_fac hn2) k _ hv)
       obtain rfl := Option.some.inj hq
       exact add_two he hl _ _ 12 gPow hd
   refine expr_of_term (term_of_fac (hf m) ?_) (by rw [hs0]; decide) ?_
   ·rw [tok_built he]; exact hx_term hn
   ·rw [tok_built he]; exact hn
theorem and_back {x y : Tr} (hx : RetX L x ∧ Begins x) (hy : RetX L y ∧ Begins y) (hd : Tr.depm [x, y] < 40) : RetX L (.mk 14 0 ⟨#[]⟩ [x, y]) := by
 intro m s he hl ha hn
 have hl0 : Tr.toks (.mk 14 0 ⟨#[]⟩ [x, y]) = insideT (Tr.toks x) ++ ([wordT kAnd] ++ insideT (Tr.toks y)) := by simp [Tr.toks, Tr.tokss, lay, nthT]
 rw [hl0] at ha hn ⊢
 cases m with
 | zero => exact fun q hq => by cases hq
 | succ m =>
  obtain ⟨a1, a2, a3⟩ := two_at ha
  have h0 := a2.nx
  have hs0 : tokP L s 0 = signT gLp := by rw [tok_here he]; exact a1.nx
  have hn2 := hn
  rw [two_len] at hn2
  refine expr_of_and ?_ (by rw [hs0]; decide) (by rw [tok_built he]; exact hn)
  refine parts_back (u := kAnd) he hl hd ha rfl rfl (inside_not hx.1 hx.2 he hl a1 (by rw [h0]; decide) m) (inside_not (s := built s (s.at_ + (insideT (Tr.toks x)).length + 1) [x]) hy.1 hy.2 he (built_ok hl) a3 (hx_not hn2) m) (noT_mono hn ?_) m
  intro u hu
  rw [List.mem_singleton.1 hu]
  simp
theorem or_back {x y : Tr} (hx : RetX L x ∧ Begins x) (hy : RetX L y ∧ Begins y) (hd : Tr.depm [x, y] < 40) : RetX L (.mk 15 0 ⟨#[]⟩ [x, y]) := by
 intro m s he hl ha hn
 have hl0 : Tr.toks (.mk 15 0 ⟨#[]⟩ [x, y]) = insideT (Tr.toks x) ++ ([wordT kOr] ++ insideT (Tr.toks y)) := by simp [Tr.toks, Tr.tokss, lay, nthT]
 rw [hl0] at ha hn ⊢
 cases m with
 | zero => exact fun q hq => by cases hq
 | succ m =>
  obtain ⟨a1, a2, a3⟩ := two_at ha
  have h0 := a2.nx
  have hs0 : tokP L s 0 = signT gLp := by rw [tok_here he]; exact a1.nx
  have hn2 := hn
  rw [two_len] at hn2
  refine expr_of_or ?_ (by rw [hs0]; decide) (by rw [tok_built he]; exact hn)
  refine parts_back (u := kOr) he hl hd ha rfl rfl (inside_and hx.1 hx.2 he hl a1 (by rw [h0]; decide)) (inside_and (s := built s (s.at_ + (insideT (Tr.toks x)).length + 1) [x]) hy.1 hy.2 he (built_ok hl) a3 (hx_and hn2)) (noT_mono hn ?_) m
  intro u hu
  rw [List.mem_singleton.1 hu]
  simp
def cmpT (a b : TokD) : ByteArray × Nat :=
 if isT a gEqq then (gEqq, 1) else if isT a gNe then (gNe, 1) else if isT a gLt then (gLt, 1) else if isT a gLe then (gLe, 1)
 else if isT a gGt then (gGt, 1) else if isT a gGe then (gGe, 1) else if isT a kIn then (kIn, 1)
 else if isT a kNot && isT b kIn then (tNotIn, 2) else if isT a kIs && isT b kNot then (tIsNot, 2) else if isT a kIs then (kIs, 1) else (⟨#[]⟩, 0)
theorem cmp_at {a b : TokD} (ha : tokP L s 0 = a) (hb : tokP L s 1 = b) : compares L s = cmpT a b := by
 subst ha hb
 rfl
theorem tok_next (he : s.e = 0) {a : Nat} {ks : List Tr} : tokP L (built s a ks) 1 = nx L (a + 1) := by
 unfold tokP
 rw [if_neg (show ¬ (built s a ks).e ≠ 0 from fun e => e he)]
 rfl
theorem cmp_back {x y : Tr} {t : ByteArray} (ht : t ∈ comparers) (hx : RetX L x ∧ Begins x) (hy : RetX L y ∧ Begins y) (hd : Tr.depm [x, y] < 40) : RetX L (.mk 13 0 t [x, y]) := by
 intro m s he hl ha hn
 have hl0 : Tr.toks (.mk 13 0 t [x, y]) = insideT (Tr.toks x) ++ (opWords t ++ insideT (Tr.toks y)) := by simp [Tr.toks, Tr.tokss, lay, nthT]
 rw [hl0] at ha hn ⊢
 cases m with
 | zero => exact fun q hq => by cases hq
 | succ m =>
  obtain ⟨a1, a2, a3⟩ := two_at ha
  have hs0 : tokP L s 0 = signT gLp := by rw [tok_here he]; exact a1.nx
  rw [two_len] at hn ⊢
  have hop : ∃ u v, nx L (s.at_ + (insideT (Tr.toks x)).length) = u ∧ nx L (s.at_ + (insideT (Tr.toks x)).length + 1) = v ∧ noT hSum u = true ∧ cmpT u v = (t, (opWords t).length) ∧ (opWords t).length ≠ 0 := by
   simp only [comparers, List.mem_cons, List.not_mem_nil, or_false] at ht
   rcases ht with rfl | rfl | rfl | rfl | rfl | rfl | rfl | rfl | rfl | rfl <;> exact ⟨_, _, a2.nx, a2.tail.nx, by decide, by decide, by decide⟩
  obtain ⟨u, v, hu, hv, h5, h6, h7⟩ := hop
  have hf : ∀ k, Rt (notE (exprE L m) L m k s) (built s (s.at_ + (insideT (Tr.toks x)).length + (opWords t).length + (insideT (Tr.toks y)).length) [.mk 13 0 t [x, y]], topOf s (.mk 13 0 t [x, y])) := by
   intro k q hq
   cases k with
   | zero => cases hq
   | succ k =>
    unfold notE at hq
    have t0 : takeP L kNot s = (s, false) := take_none (by rw [isP_eq, hs0]; decide)
    simp only [t0] at hq
    rw [if_neg (by first | decide | simp)] at hq
    split at hq
    ·cases hq
    ·rename_i s1 z hz
     obtain ⟨rfl, rfl⟩ := Prod.mk.inj (inside_sum hx.1 hx.2 he hl a1 (by rw [hu]; exact h5) _ hz)
     have hc := cmp_at (L := L) (s := built s (s.at_ + (insideT (Tr.toks x)).length) [x]) (a := u) (b := v) (by rw [tok_built he]; exact hu) (by rw [tok_next he]; exact hv)
     rw [h6] at hc
     rw [hc, if_neg h7, built_step] at hq
     split at hq
     ·cases hq
     ·rename_i s2 w hw
      obtain ⟨rfl, rfl⟩ := Prod.mk.inj (inside_sum (s := built s (s.at_ + (insideT (Tr.toks x)).length + (opWords t).length) [x]) hy.1 hy.2 he (built_ok hl) a3 (hx_sum hn) _ hw)
      have h8 := add_two he hl (s.at_ + (insideT (Tr.toks x)).length + (opWords t).length) (s.at_ + (insideT (Tr.toks x)).length + (opWords t).length + (insideT (Tr.toks y)).length) 13 t hd
      have eb : (built s (s.at_ + (insideT (Tr.toks x)).length + (opWords t).length) [x]).at_ = s.at_ + (insideT (Tr.toks x)).length + (opWords t).length := rfl
      rw [eb] at hq
      simp only [h8] at hq
      have h9 := cmp_off (L := L) (s := built s (s.at_ + (insideT (Tr.toks x)).length + (opWords t).length + (insideT (Tr.toks y)).length) [.mk 13 0 t [x, y]]) (noT_mono (by rw [tok_built he]; exact hx_not hn) fun u hu => List.mem_append_right _ hu)
      rw [h9, if_neg (by first | decide | simp)] at hq
      exact (Option.some.inj hq).symm
  refine expr_of_not (hf m) ?_ ?_
  ·rw [hs0]; decide
  ·rw [tok_built he]; exact hn
theorem if_back {x y z : Tr} (hx : RetX L x ∧ Begins x) (hy : RetX L y ∧ Begins y) (hz : RetX L z ∧ Begins z) (hd : Tr.depm [x, y, z] < 40) : RetX L (.mk 16 0 ⟨#[]⟩ [x, y, z]) := by
 intro m s he hl ha hn
 have hl0 : Tr.toks (.mk 16 0 ⟨#[]⟩ [x, y, z]) = insideT (Tr.toks x) ++ (wordT kIf :: (insideT (Tr.toks y) ++ (wordT kElse :: insideT (Tr.toks z)))) := by simp [Tr.toks, Tr.tokss, lay, nthT]
 rw [hl0] at ha hn ⊢
 cases m with
 | zero => exact fun q hq => by cases hq
 | succ m =>
  have a1 := ha.left
  have h0 := ha.right.nx
  have a2 := ha.right.tail.left
  have h1 := ha.right.tail.right.nx
  have a3 := ha.right.tail.right.tail
  have hs0 : tokP L s 0 = signT gLp := by rw [tok_here he]; exact a1.nx
  have e : s.at_ + (insideT (Tr.toks x) ++ (wordT kIf :: (insideT (Tr.toks y) ++ (wordT kElse :: insideT (Tr.toks z))))).length = s.at_ + (insideT (Tr.toks x)).length + 1 + (insideT (Tr.toks y)).length + 1 + (insideT (Tr.toks z)).length := by
   simp only [List.length_append, List.length_cons]
   omega
  rw [e] at hn ⊢
  intro q hq
  change exprB (exprE L m) L m s = some q at hq
  unfold exprB at hq
  have t0 : takeP L kLambda s = (s, false) := take_none (by rw [isP_eq, hs0]; decide)
  simp only [t0] at hq
  rw [if_neg (by first | decide | simp)] at hq
  split at hq
  ·cases hq
  ·rename_i s1 v hv
   obtain ⟨rfl, rfl⟩ := Prod.mk.inj (inside_or hx.1 hx.2 he hl a1 (by rw [h0]; decide) _ hv)
   have t1 := take_word (L := L) (s := built s (s.at_ + (insideT (Tr.toks x)).length) [x]) (u := kIf) (by rw [tok_built he]; exact h0) (by decide)
   rw [t1, if_pos (by first | trivial | rfl), built_step] at hq
   split at hq
   ·cases hq
   ·rename_i s2 v2 hv2
    obtain ⟨rfl, rfl⟩ := Prod.mk.inj (inside_or (s := built s (s.at_ + (insideT (Tr.toks x)).length + 1) [x]) hy.1 hy.2 he (built_ok hl) a2 (by show noT hOr (nx L (s.at_ + (insideT (Tr.toks x)).length + 1 + _)) = true; rw [h1]; decide) _ hv2)
    rw [built_app] at hq
    have eb : (built s (s.at_ + (insideT (Tr.toks x)).length + 1) [x]).at_ = s.at_ + (insideT (Tr.toks x)).length + 1 := rfl
    rw [eb] at hq
    have t2 := need_word (L := L) (s := built s (s.at_ + (insideT (Tr.toks x)).length + 1 + (insideT (Tr.toks y)).length) ([x] ++ [y])) (u := kElse) (by rw [tok_built he]; exact h1) (by decide)
    rw [t2, built_step] at hq
    split at hq
    ·cases hq
    ·rename_i s3 v3 hv3
     obtain ⟨rfl, rfl⟩ := Prod.mk.inj (inside_expr (s := built s (s.at_ + (insideT (Tr.toks x)).length + 1 + (insideT (Tr.toks y)).length + 1) ([x] ++ [y])) hz.1 hz.2 he (built_ok hl) a3 hn _ hv3)
     rw [built_app] at hq
     obtain rfl := Option.some.inj hq
     exact add_three he hl _ _ _ 16 ⟨#[]⟩ (place_built _ _ _ _ (top_ge s x)) hd
end
end
section
set_option linter.unusedVariables false
set_option linter.unusedSimpArgs false
section
variable {L : List TokD} {s : PS} {m m' : Nat}
theorem post_back {ex : Ex} {s1 : PS} {x : Int} {r : PS × Int} (h : Rt (atomE ex L m s) (s1, x)) (h2 : ∀ m', Rt (postE ex L m (placeOf s1 x) m' s1 x) r) : Rt (postfixE ex L m s) r := by
 intro q hq
 unfold postfixE at hq
 split at hq
 ·cases hq
 ·rename_i s1' x' ha
  obtain ⟨rfl, rfl⟩ := Prod.mk.inj (h _ ha)
  exact h2 m q hq
theorem post_stop {ex : Ex} {a : Int} {x : Int} (hn : noT hPost (tokP L s 0) = true) (k : Nat) : Rt (postE ex L m a k s x) (s, x) := by
 intro q hq
 cases k with
 | zero => cases hq
 | succ k =>
  unfold postE at hq
  simp only [any_none (noT_is hn)] at hq
  rw [if_pos (by first | trivial | rfl)] at hq
  exact (Option.some.inj hq).symm
theorem hx_post {t : TokD} (h : noT hExpr t = true) : noT hPost t = true := h_post (hx_fac h)
theorem call_back {f : Tr} {ks : List Tr} (hf : RetX L f ∧ Begins f) (hk : ∀ k ∈ ks, RetX L k ∧ Begins k) (hd : Tr.depm (f :: ks) < 40) : RetX L (.mk 17 0 ⟨#[]⟩ (f :: ks)) := by
 intro m s he hl ha hn
 have hl0 : Tr.toks (.mk 17 0 ⟨#[]⟩ (f :: ks)) = insideT (Tr.toks f) ++ (signT gLp :: (rowsT false (Tr.tokss ks) ++ [signT gRp])) := by simp [Tr.toks, Tr.tokss, lay, nthT]
 rw [hl0] at ha hn ⊢
 cases m with
 | zero => exact fun q hq => by cases hq
 | succ m =>
  have a1 := ha.left
  have h0 := ha.right.nx
  have a2 := ha.right.tail
  have hs0 : tokP L s 0 = signT gLp := by rw [tok_here he]; exact a1.nx
  have e : s.at_ + (insideT (Tr.toks f) ++ (signT gLp :: (rowsT false (Tr.tokss ks) ++ [signT gRp]))).length = s.at_ + (insideT (Tr.toks f)).length + 1 + (rowsT false (Tr.tokss ks)).length + 1 := by
   simp only [LL]
   omega
  rw [e] at hn ⊢
  refine expr_of_post (post_back (inside_atom hf.1 hf.2 he hl a1) ?_) (by rw [hs0]; decide) (by rw [tok_built he]; exact hn)
  rw [place_built _ _ _ _ (top_ge s f)]
  intro k q hq
  cases k with
  | zero => cases hq
  | succ k =>
   unfold postE at hq
   rw [any_pick (t := signT gLp) (u := gLp) (by rw [tok_built he]; exact h0) rfl] at hq
   simp only at hq
   rw [if_neg (by decide), if_neg (by decide), if_pos (by first | trivial | rfl), built_step] at hq
   split at hq
   ·cases hq
   ·rename_i s2 kids hr
    obtain ⟨rfl, rfl⟩ := Prod.mk.inj (row_back (m := m) (.inl rfl) false ks m s _ [f] hk he hl a2 _ hr)
    have h8 := add_built he hl (s.at_ + (insideT (Tr.toks f)).length + 1 + (rowsT false (Tr.tokss ks)).length + 1) 17 0 ⟨#[]⟩ ([f] ++ ks) hd
    simp only [h8] at hq
    exact post_stop (by rw [tok_built he]; exact hx_post hn) k q hq
theorem attr_back {f : Tr} {t : ByteArray} (ht : nameB t = true) (hf : RetX L f ∧ Begins f) (hd : Tr.depm [f] < 40) : RetX L (.mk 18 0 t [f]) := by
 intro m s he hl ha hn
 have hl0 : Tr.toks (.mk 18 0 t [f]) = insideT (Tr.toks f) ++ [signT gDot, wordT t] := by simp [Tr.toks, Tr.tokss, lay, nthT]
 rw [hl0] at ha hn ⊢
 cases m with
 | zero => exact fun q hq => by cases hq
 | succ m =>
  have a1 := ha.left
  have h0 := ha.right.nx
  have h1 := ha.right.tail.nx
  have hs0 : tokP L s 0 = signT gLp := by rw [tok_here he]; exact a1.nx
  have e : s.at_ + (insideT (Tr.toks f) ++ [signT gDot, wordT t]).length = s.at_ + (insideT (Tr.toks f)).length + 1 + 1 := by
   simp only [LL]
   omega
  rw [e] at hn ⊢
  refine expr_of_post (post_back (inside_atom hf.1 hf.2 he hl a1) ?_) (by rw [hs0]; decide) (by rw [tok_built he]; exact hn)
  rw [place_built _ _ _ _ (top_ge s f)]
  intro k q hq
  cases k with
  | zero => cases hq
  | succ k =>
   unfold postE at hq
   rw [any_pick (t := signT gDot) (u := gDot) (by rw [tok_built he]; exact h0) rfl] at hq
   simp only at hq
   rw [if_neg (by decide), if_pos (by first | trivial | rfl), built_step] at hq
   have hnm : nameP L (built s (s.at_ + (insideT (Tr.toks f)).length + 1) [f]) = (built s (s.at_ + (insideT (Tr.toks f)).length + 1 + 1) [f], t) := by
    unfold nameP
    rw [tok_built he, h1, if_pos ⟨rfl, ht⟩, built_step]
    rfl
   rw [hnm] at hq
   have h8 := add_built he hl (s.at_ + (insideT (Tr.toks f)).length + 1 + 1) 18 0 t [f] hd
   rw [idxs_one] at h8
   simp only [h8] at hq
   exact post_stop (by rw [tok_built he]; exact hx_post hn) k q hq
theorem index_back {x y : Tr} (hx : RetX L x ∧ Begins x) (hy : RetX L y ∧ Begins y) (hd : Tr.depm [x, y] < 40) : RetX L (.mk 19 0 ⟨#[]⟩ [x, y]) := by
 intro m s he hl ha hn
 have hl0 : Tr.toks (.mk 19 0 ⟨#[]⟩ [x, y]) = insideT (Tr.toks x) ++ (signT gLb :: (Tr.toks y ++ [signT gRb])) := by simp [Tr.toks, Tr.tokss, lay, nthT]
 rw [hl0] at ha hn ⊢
 cases m with
 | zero => exact fun q hq => by cases hq
 | succ m =>
  have a1 := ha.left
  have h0 := ha.right.nx
  have a2 := ha.right.tail
  have h2 := at_begin hy.2 a2
  have h3 := a2.right.nx
  have hs0 : tokP L s 0 = signT gLp := by rw [tok_here he]; exact a1.nx
  have e : s.at_ + (insideT (Tr.toks x) ++ (signT gLb :: (Tr.toks y ++ [signT gRb]))).length = s.at_ + (insideT (Tr.toks x)).length + 1 + (Tr.toks y).length + 1 := by
   simp only [LL]
   omega
  rw [e] at hn ⊢
  refine expr_of_post (post_back (inside_atom hx.1 hx.2 he hl a1) ?_) (by rw [hs0]; decide) (by rw [tok_built he]; exact hn)
  rw [place_built _ _ _ _ (top_ge s x)]
  intro k q hq
  cases k with
  | zero => cases hq
  | succ k =>
   unfold postE at hq
   rw [any_pick (t := signT gLb) (u := gLb) (by rw [tok_built he]; exact h0) rfl] at hq
   simp only at hq
   rw [if_neg (by decide), if_neg (by decide), if_neg (by decide), built_step] at hq
   unfold indexE boundE at hq
   have i0 : isP L (built s (s.at_ + (insideT (Tr.toks x)).length + 1) [x]) gColon 0 = false := by rw [isP_eq, tok_built he]; exact start_no h2 (by decide)
   rw [i0, if_neg (by decide)] at hq
   split at hq
   ·cases hq
   ·rename_i s2 v hv
    split at hv
    ·cases hv
    ·rename_i s3 v3 hv3
     obtain ⟨rfl, rfl⟩ := Prod.mk.inj (hy.1 m (built s (s.at_ + (insideT (Tr.toks x)).length + 1) [x]) he (built_ok hl) a2.left (by show noT hExpr (nx L (s.at_ + (insideT (Tr.toks x)).length + 1 + _)) = true; rw [h3]; decide) _ hv3)
     rw [built_app] at hv
     have eb : (built s (s.at_ + (insideT (Tr.toks x)).length + 1) [x]).at_ = s.at_ + (insideT (Tr.toks x)).length + 1 := rfl
     rw [eb] at hv
     have t1 := take_sign (L := L) (s := built s (s.at_ + (insideT (Tr.toks x)).length + 1 + (Tr.toks y).length) ([x] ++ [y])) (u := gRb) (by rw [tok_built he]; exact h3) (by decide)
     rw [t1, if_pos ⟨rfl, rfl⟩, built_step] at hv
     have h8 := add_built he hl (s.at_ + (insideT (Tr.toks x)).length + 1 + (Tr.toks y).length + 1) 19 0 ⟨#[]⟩ ([x] ++ [y]) hd
     rw [top_built s (s.at_ + (insideT (Tr.toks x)).length + 1) [x] y] at h8
     rw [show (Tr.idxs s.ns.length [x] ++ [topOf (built s (s.at_ + (insideT (Tr.toks x)).length + 1) [x]) y]) = [topOf s x, topOf (built s (s.at_ + (insideT (Tr.toks x)).length + 1) [x]) y] from rfl] at h8
     rw [h8] at hv
     obtain ⟨rfl, rfl⟩ := Prod.mk.inj (Option.some.inj hv)
     exact post_stop (by rw [tok_built he]; exact hx_post hn) k q hq
theorem slice_back {x y z : Tr} (hx : RetX L x ∧ Begins x) (hy : RetX L y ∧ Begins y) (hz : RetX L z ∧ Begins z) (hd : Tr.depm [x, y, z] < 40) : RetX L (.mk 20 0 ⟨#[]⟩ [x, y, z]) := by
 intro m s he hl ha hn
 have hl0 : Tr.toks (.mk 20 0 ⟨#[]⟩ [x, y, z]) = insideT (Tr.toks x) ++ (signT gLb :: (Tr.toks y ++ (signT gColon :: (Tr.toks z ++ [signT gRb])))) := by simp [Tr.toks, Tr.tokss, lay, nthT]
 rw [hl0] at ha hn ⊢
 cases m with
 | zero => exact fun q hq => by cases hq
 | succ m =>
  have a1 := ha.left
  have h0 := ha.right.nx
  have a2 := ha.right.tail
  have h2 := at_begin hy.2 a2
  have h3 := a2.right.nx
  have a3 := a2.right.tail
  have h4 := at_begin hz.2 a3
  have h5 := a3.right.nx
  have hs0 : tokP L s 0 = signT gLp := by rw [tok_here he]; exact a1.nx
  have e : s.at_ + (insideT (Tr.toks x) ++ (signT gLb :: (Tr.toks y ++ (signT gColon :: (Tr.toks z ++ [signT gRb]))))).length = s.at_ + (insideT (Tr.toks x)).length + 1 + (Tr.toks y).length + 1 + (Tr.toks z).length + 1 := by
   simp only [LL]
   omega
  rw [e] at hn ⊢
  refine expr_of_post (post_back (inside_atom hx.1 hx.2 he hl a1) ?_) (by rw [hs0]; decide) (by rw [tok_built he]; exact hn)
  rw [place_built _ _ _ _ (top_ge s x)]
  intro k q hq
  cases k with
  | zero => cases hq
  | succ k =>
   unfold postE at hq
   rw [any_pick (t := signT gLb) (u := gLb) (by rw [tok_built he]; exact h0) rfl] at hq
   simp only at hq
   rw [if_neg (by decide), if_neg (by decide), if_neg (by decide), built_step] at hq
   unfold indexE boundE at hq
   have i0 : isP L (built s (s.at_ + (insideT (Tr.toks x)).length + 1) [x]) gColon 0 = false := by rw [isP_eq, tok_built he]; exact start_no h2 (by decide)
   rw [i0, if_neg (by decide)] at hq
   split at hq
   ·cases hq
   ·rename_i s2 v hv
    split at hv
    ·cases hv
    ·rename_i s3 v3 hv3
     obtain ⟨rfl, rfl⟩ := Prod.mk.inj (hy.1 m (built s (s.at_ + (insideT (Tr.toks x)).length + 1) [x]) he (built_ok hl) a2.left (by show noT hExpr (nx L (s.at_ + (insideT (Tr.toks x)).length + 1 + _)) = true; rw [h3]; decide) _ hv3)
     rw [built_app] at hv
     have eb : (built s (s.at_ + (insideT (Tr.toks x)).length + 1) [x]).at_ = s.at_ + (insideT (Tr.toks x)).length + 1 := rfl
     rw [eb] at hv
     have t1 : takeP L gRb (built s (s.at_ + (insideT (Tr.toks x)).length + 1 + (Tr.toks y).length) ([x] ++ [y])) = (_, false) := take_none (by rw [isP_eq, tok_built he, h3]; decide)
     have t2 := need_sign (L := L) (s := built s (s.at_ + (insideT (Tr.toks x)).length + 1 + (Tr.toks y).length) ([x] ++ [y])) (u := gColon) (by rw [tok_built he]; exact h3) (by decide)
     rw [t1, if_neg (by rintro ⟨_, h⟩; cases h)] at hv
     simp only [Bool.false_eq_true, if_false] at hv
     rw [t2, built_step] at hv
     have i1 : isP L (built s (s.at_ + (insideT (Tr.toks x)).length + 1 + (Tr.toks y).length + 1) ([x] ++ [y])) gRb 0 = false := by rw [isP_eq, tok_built he]; exact start_no h4 (by decide)
     rw [i1] at hv
     simp only [Bool.false_eq_true, if_false] at hv
     split at hv
     ·cases hv
     ·rename_i s4 v4 hv4
      obtain ⟨rfl, rfl⟩ := Prod.mk.inj (hz.1 m (built s (s.at_ + (insideT (Tr.toks x)).length + 1 + (Tr.toks y).length + 1) ([x] ++ [y])) he (built_ok hl) a3.left (by show noT hExpr (nx L (s.at_ + (insideT (Tr.toks x)).length + 1 + (Tr.toks y).length + 1 + _)) = true; rw [h5]; decide) _ hv4)
      rw [built_app] at hv
      have eb2 : (built s (s.at_ + (insideT (Tr.toks x)).length + 1 + (Tr.toks y).length + 1) ([x] ++ [y])).at_ = s.at_ + (insideT (Tr.toks x)).length + 1 + (Tr.toks y).length + 1 := rfl
      rw [eb2] at hv
      have t3 := need_sign (L := L) (s := built s (s.at_ + (insideT (Tr.toks x)).length + 1 + (Tr.toks y).length + 1 + (Tr.toks z).length) ([x] ++ [y] ++ [z])) (u := gRb) (by rw [tok_built he]; exact h5) (by decide)
      rw [t3, built_step] at hv
      have h8 := add_three (x := x) (y := y) (z := z) he hl (s.at_ + (insideT (Tr.toks x)).length + 1) (s.at_ + (insideT (Tr.toks x)).length + 1 + (Tr.toks y).length + 1) (s.at_ + (insideT (Tr.toks x)).length + 1 + (Tr.toks y).length + 1 + (Tr.toks z).length + 1) 20 ⟨#[]⟩ (a := 0) rfl hd
      have h9 := hv.symm.trans (congrArg some h8)
      obtain ⟨rfl, rfl⟩ := Prod.mk.inj (Option.some.inj h9)
      exact post_stop (by rw [tok_built he]; exact hx_post hn) k q hq
theorem lambda_back {x : Tr} {t : ByteArray} (ht : nameB t = true) (hx : RetX L x ∧ Begins x) (hd : Tr.depm [.mk 22 0 t [], x] < 40) : RetX L (.mk 21 0 ⟨#[]⟩ [.mk 22 0 t [], x]) := by
 intro m s he hl ha hn
 have hl0 : Tr.toks (.mk 21 0 ⟨#[]⟩ [.mk 22 0 t [], x]) = wordT kLambda :: wordT t :: signT gColon :: Tr.toks x := by simp [Tr.toks, Tr.tokss, lay, nthT, rowsT]
 rw [hl0] at ha hn ⊢
 cases m with
 | zero => exact fun q hq => by cases hq
 | succ m =>
  have h0 := ha.nx
  have h1 := ha.tail.nx
  have h2 := ha.tail.tail.nx
  have a3 := ha.tail.tail.tail
  have e : s.at_ + (wordT kLambda :: wordT t :: signT gColon :: Tr.toks x).length = s.at_ + 1 + 1 + 1 + (Tr.toks x).length := by
   simp only [List.length_cons]
   omega
  rw [e] at hn ⊢
  intro q hq
  change exprB (exprE L m) L m s = some q at hq
  unfold exprB at hq
  simp only [tok_here (L := L) he, h0] at hq
  rw [take_word (L := L) (by rw [tok_here he]; exact h0) (by decide), if_pos (by first | trivial | rfl)] at hq
  split at hq
  ·cases hq
  ·rename_i s1 kids hk
   cases m with
   | zero => cases hk
   | succ m =>
    have ts : tokP L (stepP s 1) 0 = wordT t := by rw [tok_here (s := stepP s 1) he]; exact h1
    rw [paramsE_eq (s := stepP s 1) m [] false he, if_neg (by rintro ⟨_, h⟩; rw [isP_eq, ts, word_no ht] at h; cases h)] at hk
    unfold parG at hk
    have hnm : nameP L (stepP s 1) = (stepP (stepP s 1) 1, t) := by
     unfold nameP
     rw [ts, if_pos ⟨rfl, ht⟩]
     rfl
    have ts2 : tokP L (stepP (stepP s 1) 1) 0 = signT gColon := by rw [tok_here (s := stepP (stepP s 1) 1) he]; exact h2
    rw [hnm] at hk
    simp only at hk
    rw [take_none (s := stepP (stepP s 1) 1) (t := gEq) (by rw [isP_eq, ts2]; decide), if_neg (by first | decide | simp), if_neg (by decide), ts] at hk
    have h8 := add_built he hl (s.at_ + 1 + 1) 22 0 t [] (by show (0 : Int) < 40; decide)
    rw [show built s (s.at_ + 1 + 1) [] = stepP (stepP s 1) 1 from by rw [← built_step s (s.at_ + 1) 1 [], built_at]] at h8
    have hk2 : parT (exprE L (m + 1)) L m [] false (built s (s.at_ + 1 + 1) [.mk 22 0 t []], topOf s (.mk 22 0 t [])) = some (s1, kids) := by
     rw [← h8]
     exact hk
    unfold parT at hk2
    have tsb : tokP L (built s (s.at_ + 1 + 1) [.mk 22 0 t []]) 0 = signT gColon := by rw [tok_built he]; exact h2
    rw [take_none (t := gComma) (by rw [isP_eq, tsb]; decide), if_neg (by first | decide | simp)] at hk2
    simp only at hk2
    rw [need_sign tsb (by decide), built_step] at hk2
    obtain ⟨rfl, rfl⟩ := Prod.mk.inj (Option.some.inj hk2)
    split at hq
    ·cases hq
    ·rename_i s2 v hv
     obtain ⟨rfl, rfl⟩ := Prod.mk.inj (hx.1 (m + 1) (built s (s.at_ + 1 + 1 + 1) [.mk 22 0 t []]) he (built_ok hl) a3 hn _ hv)
     rw [built_app] at hq
     have h9 := add_built he hl (s.at_ + 1 + 1 + 1 + (Tr.toks x).length) 21 0 ⟨#[]⟩ ([.mk 22 0 t []] ++ [x]) hd
     rw [top_built s (s.at_ + 1 + 1 + 1) [.mk 22 0 t []] x] at h9
     have h10 := (Option.some.inj hq).symm
     exact h10.trans h9
end
theorem begins_of {e : Tr} {t : TokD} {l : List TokD} (h : Tr.toks e = t :: l) (ht : startT t = true) : Begins e := ⟨t, l, h, ht⟩
theorem begin_inside {e : Tr} {x : Tr} {l : List TokD} (h : Tr.toks e = insideT (Tr.toks x) ++ l) : Begins e := ⟨signT gLp, _, h, by decide⟩
theorem str_no (t u : ByteArray) : isT (strT t) u = false := by
 unfold isT
 have : ¬ (strT t).k = if kwB u = true then 1 else 4 := by
  show ¬ (3 : Int) = _
  split <;> decide
 rw [decide_eq_false this, Bool.false_and]
theorem good_all (L : List TokD) {e : Tr} (h : Good e) : Tr.dep e ≤ 40 → RetX L e ∧ Begins e := by
 have kid : ∀ {ks : List Tr}, Tr.depm ks + 1 ≤ 40 → ∀ k ∈ ks, Tr.dep k ≤ 40 := fun h k hk => by have := depm_mem _ k hk; omega
 induction h with
 | none_ => exact fun _ => ⟨leaf_word (t := kNone) rfl (by simp [Tr.toks, lay]) (by decide), begins_of (t := wordT kNone) (l := []) (by simp [Tr.toks, lay]) (by decide)⟩
 | true_ => exact fun _ => ⟨leaf_word (t := kTrue) rfl (by simp [Tr.toks, lay]) (by decide), begins_of (t := wordT kTrue) (l := []) (by simp [Tr.toks, lay]) (by decide)⟩
 | false_ => exact fun _ => ⟨leaf_word (t := kFalse) rfl (by simp [Tr.toks, lay]) (by decide), begins_of (t := wordT kFalse) (l := []) (by simp [Tr.toks, lay]) (by decide)⟩
 | int_ n h1 h2 =>
  refine fun _ => ⟨leaf_back (tk := numT n) (by simp [Tr.toks, lay]) rfl fun ex m s h => ?_, begins_of (t := numT n) (l := []) (by simp [Tr.toks, lay]) rfl⟩
  unfold atomE
  simp only [h]
  rw [if_pos (show (numT n).k = 2 from rfl)]
  rfl
 | str_ t h1 =>
  refine fun _ => ⟨leaf_back (tk := strT t) (by simp [Tr.toks, lay]) ?_ fun ex m s h => ?_, begins_of (t := strT t) (l := []) (by simp [Tr.toks, lay]) rfl⟩
  ·unfold noT
   simp [str_no]
  ·unfold atomE
   simp only [h]
   rw [if_neg (show ¬ (strT t).k = 2 from (show ¬ (3 : Int) = 2 by decide)), if_pos (show (strT t).k = 3 from rfl)]
   rfl
 | name_ t h1 h2 =>
  refine fun _ => ⟨leaf_back (tk := wordT t) (by simp [Tr.toks, lay]) ?_ fun ex m s h => ?_, begins_of (t := wordT t) (l := []) (by simp [Tr.toks, lay]) rfl⟩
  ·unfold noT
   simp [word_no h2]
  ·unfold atomE
   simp only [h]
   rw [if_neg (show ¬ (wordT t).k = 2 from (show ¬ (1 : Int) = 2 by decide)), if_neg (show ¬ (wordT t).k = 3 from (show ¬ (1 : Int) = 3 by decide)), if_pos (show (wordT t).k = 1 from rfl)]
   have hw : wordOp (wordT t).s = none := by
    unfold wordOp
    rw [if_neg (show ¬ (wordT t).s = kNone from name_off h2 (by decide)), if_neg (show ¬ (wordT t).s = kTrue from name_off h2 (by decide)), if_neg (show ¬ (wordT t).s = kFalse from name_off h2 (by decide))]
   rw [hw]
   simp only
   rw [if_pos (show nameB (wordT t).s = true from h2)]
   rfl
 | list_ ks hk hl4 ih => exact fun hd => ⟨list_back (fun k h => ih k h (kid hd k h)) (by simp only [Tr.dep] at hd; omega), begins_of (t := signT gLb) (by simp [Tr.toks, lay]; rfl) (by decide)⟩
 | tuple_ ks hk hl4 ih => exact fun hd => ⟨tuple_back (fun k h => ih k h (kid hd k h)) (by simp only [Tr.dep] at hd; omega), begins_of (t := signT gLp) (by simp [Tr.toks, lay]; rfl) (by decide)⟩
 | dict_ ks hk hev hl4 ih => exact fun hd => ⟨dict_back (fun k h => ih k h (kid hd k h)) hev (by simp only [Tr.dep] at hd; omega), begins_of (t := signT gLc) (by simp [Tr.toks, lay]; rfl) (by decide)⟩
 | neg_ a ha ih =>
  intro hd
  obtain ⟨h1, h2⟩ := ih (kid hd a (by simp))
  exact ⟨neg_back h1 h2 (by simp only [Tr.dep] at hd; omega), begins_of (t := signT gMinus) (l := insideT (Tr.toks a)) (by simp [Tr.toks, Tr.tokss, lay, nthT]) (by decide)⟩
 | not_ a ha ih =>
  intro hd
  obtain ⟨h1, h2⟩ := ih (kid hd a (by simp))
  exact ⟨nott_back h1 h2 (by simp only [Tr.dep] at hd; omega), begins_of (t := wordT kNot) (l := insideT (Tr.toks a)) (by simp [Tr.toks, Tr.tokss, lay, nthT]) (by decide)⟩
 | bin_ t a b ht ha hb iha ihb => exact fun hd => ⟨bin_back ht (iha (kid hd a (by simp))) (ihb (kid hd b (by simp))) (by simp only [Tr.dep] at hd; omega), begin_inside (x := a) (l := opWords t ++ insideT (Tr.toks b)) (by simp [Tr.toks, Tr.tokss, lay, nthT])⟩
 | cmp_ t a b ht ha hb iha ihb => exact fun hd => ⟨cmp_back ht (iha (kid hd a (by simp))) (ihb (kid hd b (by simp))) (by simp only [Tr.dep] at hd; omega), begin_inside (x := a) (l := opWords t ++ insideT (Tr.toks b)) (by simp [Tr.toks, Tr.tokss, lay, nthT])⟩
 | and_ a b ha hb iha ihb => exact fun hd => ⟨and_back (iha (kid hd a (by simp))) (ihb (kid hd b (by simp))) (by simp only [Tr.dep] at hd; omega), begin_inside (x := a) (l := wordT kAnd :: insideT (Tr.toks b)) (by simp [Tr.toks, Tr.tokss, lay, nthT])⟩
 | or_ a b ha hb iha ihb => exact fun hd => ⟨or_back (iha (kid hd a (by simp))) (ihb (kid hd b (by simp))) (by simp only [Tr.dep] at hd; omega), begin_inside (x := a) (l := wordT kOr :: insideT (Tr.toks b)) (by simp [Tr.toks, Tr.tokss, lay, nthT])⟩
 | if_ a b c ha hb hc iha ihb ihc => exact fun hd => ⟨if_back (iha (kid hd a (by simp))) (ihb (kid hd b (by simp))) (ihc (kid hd c (by simp))) (by simp only [Tr.dep] at hd; omega), begin_inside (x := a) (l := wordT kIf :: (insideT (Tr.toks b) ++ (wordT kElse :: insideT (Tr.toks c)))) (by simp [Tr.toks, Tr.tokss, lay, nthT])⟩
 | call_ f ks hf hk hl4 ihf ihk => exact fun hd => ⟨call_back (ihf (kid hd f (by simp))) (fun k h => ihk k h (kid hd k (by simp [h]))) (by simp only [Tr.dep] at hd; omega), begin_inside (x := f) (l := signT gLp :: (rowsT false (Tr.tokss ks) ++ [signT gRp])) (by simp [Tr.toks, Tr.tokss, lay, nthT])⟩
 | attr_ t a h1 h2 ha ih => exact fun hd => ⟨attr_back h2 (ih (kid hd a (by simp))) (by simp only [Tr.dep] at hd; omega), begin_inside (x := a) (l := [signT gDot, wordT t]) (by simp [Tr.toks, Tr.tokss, lay, nthT])⟩
 | index_ a b ha hb iha ihb => exact fun hd => ⟨index_back (iha (kid hd a (by simp))) (ihb (kid hd b (by simp))) (by simp only [Tr.dep] at hd; omega), begin_inside (x := a) (l := signT gLb :: (Tr.toks b ++ [signT gRb])) (by simp [Tr.toks, Tr.tokss, lay, nthT])⟩
 | slice_ a b c ha hb hc iha ihb ihc => exact fun hd => ⟨slice_back (iha (kid hd a (by simp))) (ihb (kid hd b (by simp))) (ihc (kid hd c (by simp))) (by simp only [Tr.dep] at hd; omega), begin_inside (x := a) (l := signT gLb :: (Tr.toks b ++ (signT gColon :: (Tr.toks c ++ [signT gRb])))) (by simp [Tr.toks, Tr.tokss, lay, nthT])⟩
 | lambda_ t a h1 h2 ha ih => exact fun hd => ⟨lambda_back h2 (ih (kid hd a (by simp))) (by simp only [Tr.dep] at hd; omega), begins_of (t := wordT kLambda) (l := wordT t :: signT gColon :: Tr.toks a) (by simp [Tr.toks, Tr.tokss, lay, nthT, rowsT]) (by decide)⟩
theorem back_plain {e : Tr} (h : Good e) (hd : Tr.dep e ≤ 40) {rest : List TokD} (hr : noT hExpr ((rest[0]?).getD zeroT) = true) {m : Nat} {q : PS × Int} (hq : exprE (Tr.toks e ++ rest) m startS = some q) :
  q = (⟨(Tr.toks e).length, 0, 0, Tr.flat 0 e, Tr.deps e⟩, (Tr.size e : Int) - 1) := by
 have h1 := (good_all (Tr.toks e ++ rest) h hd).1 m startS rfl rfl ⟨rest, rfl⟩ (by
  show noT hExpr (nx (Tr.toks e ++ rest) (0 + (Tr.toks e).length)) = true
  unfold nx
  rw [Nat.zero_add, List.getElem?_append_right (Nat.le_refl _), Nat.sub_self]
  exact hr) q hq
 rw [h1]
 refine Prod.ext ?_ ?_
 ·simp [built, startS, Tr.flats, Tr.depss]
 ·simp [topOf, startS]
theorem inside_plain {e : Tr} (h : Good e) (hd : Tr.dep e ≤ 40) {m : Nat} {q : PS × Int} (hq : exprE (insideT (Tr.toks e)) m startS = some q) :
  q = (⟨(insideT (Tr.toks e)).length, 0, 0, Tr.flat 0 e, Tr.deps e⟩, (Tr.size e : Int) - 1) := by
 obtain ⟨hx, hb⟩ := good_all (insideT (Tr.toks e)) h hd
 have h1 := inside_expr (s := startS) (m := m) hx hb rfl rfl ⟨[], by simp [startS]⟩ (by
  unfold nx
  rw [List.getElem?_eq_none (by simp [startS])]
  rfl) q hq
 rw [h1]
 refine Prod.ext ?_ ?_
 ·simp [built, startS, Tr.flats, Tr.depss]
 ·simp [topOf, startS]
theorem cuts_plain {e : Tr} (h : Good e) (hd : Tr.dep e ≤ 40) {n m : Nat} (hn : n < (insideT (Tr.toks e)).length) (hm : (insideT (Tr.toks e)).length + 3 ≤ m) {q : PS × Int} (hq : exprE ((insideT (Tr.toks e)).take n) m startS = some q) : Fl ((insideT (Tr.toks e)).take n) n q.1 := by
 obtain ⟨hx, hb⟩ := good_all (insideT (Tr.toks e)) h hd
 obtain ⟨r, hr⟩ := exprE_tot (insideT (Tr.toks e)) m startS (Nat.zero_le _) (by unfold rem startS; simp only [ne_eq, not_true_eq_false, if_false]; omega)
 have h1 := inside_plain h hd hr
 refine cut_parse rfl hr (by rw [h1]) ?_ hn hq
 rintro p ex m' _ ⟨j, rfl⟩ hp _
 have := inside_atom (s := startS) hx hb rfl rfl ⟨[], by simp [startS]⟩ p hp
 rw [this]
 simp [built, startS]
end
section
set_option linter.unusedVariables false
set_option linter.unusedSimpArgs false
theorem dep_mem : ∀ {ks : List Tr} {d : Int}, Tr.depm ks ≤ d → ∀ k ∈ ks, Tr.dep k ≤ d
 | [], d, h, k, hk => by cases hk
 | x :: ks, d, h, k, hk => by
  simp only [Tr.depm] at h
  rcases List.mem_cons.1 hk with rfl | hk
  ·omega
  ·exact dep_mem (by omega) k hk
theorem dep_pos (e : Tr) : 1 ≤ Tr.dep e := by
 obtain ⟨op, n, s, ks⟩ := e
 have := depm_nn ks
 simp only [Tr.dep]
 omega
theorem sizes_pow {N : Nat} : ∀ {ks : List Tr}, (∀ k ∈ ks, Tr.size k ≤ N) → Tr.sizes ks ≤ ks.length * N
 | [], h => by simp [Tr.sizes]
 | x :: ks, h => by
  have h1 := h x (by simp)
  have h2 := sizes_pow (ks := ks) fun k hk => h k (by simp [hk])
  simp only [Tr.sizes, List.length_cons, Nat.succ_mul]
  omega
def SzOk (e : Tr) : Prop := ∀ d : Nat, Tr.dep e ≤ d → Tr.size e ≤ 6 ^ d
theorem sz_node {op n : Int} {s : ByteArray} {ks : List Tr} (hk : ∀ k ∈ ks, SzOk k) (h5 : ks.length ≤ 5) : SzOk (.mk op n s ks) := by
 intro d hd
 cases d with
 | zero => have := dep_pos (.mk op n s ks); omega
 | succ d =>
  have hd2 : Tr.depm ks ≤ d := by simp only [Tr.dep] at hd; omega
  have h1 := sizes_pow (N := 6 ^ d) fun k hk1 => hk k hk1 d (dep_mem hd2 k hk1)
  have h2 : ks.length * 6 ^ d ≤ 5 * 6 ^ d := Nat.mul_le_mul_right _ h5
  have h3 : 0 < 6 ^ d := Nat.pow_pos (by decide)
  simp only [Tr.size, Nat.pow_succ]
  omega
theorem good_size {e : Tr} (h : Good e) : SzOk e := by
 induction h with
 | none_ => exact sz_node (by simp) (by simp)
 | true_ => exact sz_node (by simp) (by simp)
 | false_ => exact sz_node (by simp) (by simp)
 | int_ => exact sz_node (by simp) (by simp)
 | str_ => exact sz_node (by simp) (by simp)
 | name_ => exact sz_node (by simp) (by simp)
 | list_ ks hk h4 ih => exact sz_node ih (by omega)
 | tuple_ ks hk h4 ih => exact sz_node ih (by omega)
 | dict_ ks hk he h4 ih => exact sz_node ih (by omega)
 | neg_ a ha ih => exact sz_node (by simpa using ih) (by simp)
 | not_ a ha ih => exact sz_node (by simpa using ih) (by simp)
 | bin_ s a b hs ha hb iha ihb => exact sz_node (by simpa using ⟨iha, ihb⟩) (by simp)
 | cmp_ s a b hs ha hb iha ihb => exact sz_node (by simpa using ⟨iha, ihb⟩) (by simp)
 | and_ a b ha hb iha ihb => exact sz_node (by simpa using ⟨iha, ihb⟩) (by simp)
 | or_ a b ha hb iha ihb => exact sz_node (by simpa using ⟨iha, ihb⟩) (by simp)
 | if_ a b c ha hb hc iha ihb ihc => exact sz_node (by simpa using ⟨iha, ihb, ihc⟩) (by simp)
 | call_ f ks hf hk h4 ihf ihk => exact sz_node (by simpa using ⟨ihf, ihk⟩) (by simp; omega)
 | attr_ s a h1 h2 ha ih => exact sz_node (by simpa using ih) (by simp)
 | index_ a b ha hb iha ihb => exact sz_node (by simpa using ⟨iha, ihb⟩) (by simp)
 | slice_ a b c ha hb hc iha ihb ihc => exact sz_node (by simpa using ⟨iha, ihb, ihc⟩) (by simp)
 | lambda_ s a h1 h2 ha ih => exact sz_node (by simpa using ⟨sz_node (by simp) (by simp), ih⟩) (by simp)
def TkLe (e : Tr) : Prop := (Tr.toks e).length + 4 ≤ 8 * Tr.size e
theorem rows_le (all : Bool) : ∀ {ks : List Tr}, (∀ k ∈ ks, TkLe k) → (rowsT all (Tr.tokss ks)).length ≤ 8 * Tr.sizes ks
 | [], h => by simp [Tr.tokss, rowsT, Tr.sizes]
 | x :: ks, h => by
  have h1 : (Tr.toks x).length + 4 ≤ 8 * Tr.size x := h x (by simp)
  have h2 := rows_le all (ks := ks) fun k hk => h k (by simp [hk])
  have h3 : (if (all || !(Tr.tokss ks).isEmpty) = true then [signT gComma] else []).length ≤ 1 := by split <;> simp
  simp only [Tr.tokss, rowsT, Tr.sizes, List.length_append]
  omega
theorem pairs_le : ∀ {ks : List Tr}, (∀ k ∈ ks, TkLe k) → (pairsT (Tr.tokss ks)).length ≤ 8 * Tr.sizes ks
 | [], h => by simp [Tr.tokss, pairsT, Tr.sizes]
 | [x], h => by simp [Tr.tokss, pairsT, Tr.sizes]
 | x :: y :: ks, h => by
  have h1 : (Tr.toks x).length + 4 ≤ 8 * Tr.size x := h x (by simp)
  have h2 : (Tr.toks y).length + 4 ≤ 8 * Tr.size y := h y (by simp)
  have h3 := pairs_le (ks := ks) fun k hk => h k (by simp [hk])
  simp only [Tr.tokss, pairsT, Tr.sizes, List.length_append, List.length_cons]
  omega
theorem opWords_le (s : ByteArray) : (opWords s).length ≤ 2 := by
 unfold opWords
 split
 ·simp
 ·split
  ·simp
  ·split <;> simp
theorem good_toks {e : Tr} (h : Good e) : TkLe e := by
 induction h with
 | none_ => simp [TkLe, Tr.toks, Tr.tokss, lay, Tr.size, Tr.sizes]
 | true_ => simp [TkLe, Tr.toks, Tr.tokss, lay, Tr.size, Tr.sizes]
 | false_ => simp [TkLe, Tr.toks, Tr.tokss, lay, Tr.size, Tr.sizes]
 | int_ => simp [TkLe, Tr.toks, Tr.tokss, lay, Tr.size, Tr.sizes]
 | str_ => simp [TkLe, Tr.toks, Tr.tokss, lay, Tr.size, Tr.sizes]
 | name_ => simp [TkLe, Tr.toks, Tr.tokss, lay, Tr.size, Tr.sizes]
 | list_ ks hk h4 ih => have := rows_le false ih; simp [TkLe, Tr.toks, lay, Tr.size]; omega
 | tuple_ ks hk h4 ih => have := rows_le true ih; simp [TkLe, Tr.toks, lay, Tr.size]; omega
 | dict_ ks hk he h4 ih => have := pairs_le ih; simp [TkLe, Tr.toks, lay, Tr.size]; omega
 | neg_ a ha ih => simp [TkLe, Tr.toks, Tr.tokss, lay, Tr.size, Tr.sizes, nthT, insideT] at ih ⊢; omega
 | not_ a ha ih => simp [TkLe, Tr.toks, Tr.tokss, lay, Tr.size, Tr.sizes, nthT, insideT] at ih ⊢; omega
 | bin_ s a b hs ha hb iha ihb => have := opWords_le s; simp [TkLe, Tr.toks, Tr.tokss, lay, Tr.size, Tr.sizes, nthT, insideT] at iha ihb ⊢; omega
 | cmp_ s a b hs ha hb iha ihb => have := opWords_le s; simp [TkLe, Tr.toks, Tr.tokss, lay, Tr.size, Tr.sizes, nthT, insideT] at iha ihb ⊢; omega
 | and_ a b ha hb iha ihb => simp [TkLe, Tr.toks, Tr.tokss, lay, Tr.size, Tr.sizes, nthT, insideT] at iha ihb ⊢; omega
 | or_ a b ha hb iha ihb => simp [TkLe, Tr.toks, Tr.tokss, lay, Tr.size, Tr.sizes, nthT, insideT] at iha ihb ⊢; omega
 | if_ a b c ha hb hc iha ihb ihc => simp [TkLe, Tr.toks, Tr.tokss, lay, Tr.size, Tr.sizes, nthT, insideT] at iha ihb ihc ⊢; omega
 | call_ f ks hf hk h4 ihf ihk => have := rows_le false ihk; simp [TkLe, Tr.toks, Tr.tokss, lay, Tr.size, Tr.sizes, nthT, insideT] at ihf ⊢; omega
 | attr_ s a h1 h2 ha ih => simp [TkLe, Tr.toks, Tr.tokss, lay, Tr.size, Tr.sizes, nthT, insideT] at ih ⊢; omega
 | index_ a b ha hb iha ihb => simp [TkLe, Tr.toks, Tr.tokss, lay, Tr.size, Tr.sizes, nthT, insideT] at iha ihb ⊢; omega
 | slice_ a b c ha hb hc iha ihb ihc => simp [TkLe, Tr.toks, Tr.tokss, lay, Tr.size, Tr.sizes, nthT, insideT] at iha ihb ihc ⊢; omega
 | lambda_ s a h1 h2 ha ih => simp [TkLe, Tr.toks, Tr.tokss, lay, Tr.size, Tr.sizes, nthT, insideT, rowsT] at ih ⊢; omega
theorem good_lim {e : Tr} (h : Good e) (hd : Tr.dep e ≤ 12) : Tr.size e ≤ 2176782336 ∧ (Tr.toks e).length + 4 ≤ 17414258688 := by
 have h1 := good_size h 12 hd
 have h2 : (Tr.toks e).length + 4 ≤ 8 * Tr.size e := good_toks h
 omega
theorem rows_all {P : TokD → Prop} (hc : P (signT gComma)) (all : Bool) : ∀ {l : List (List TokD)}, (∀ t ∈ l, ∀ x ∈ t, P x) → ∀ x ∈ rowsT all l, P x
 | [], h, x, hx => by cases hx
 | t :: l, h, x, hx => by
  simp only [rowsT, List.mem_append] at hx
  rcases hx with hx | hx | hx
  ·exact h t (by simp) x hx
  ·split at hx
   ·rw [List.mem_singleton.1 hx]; exact hc
   ·cases hx
  ·exact rows_all hc all (fun t ht => h t (by simp [ht])) x hx
theorem pairs_all {P : TokD → Prop} (hc : P (signT gComma)) (hd : P (signT gColon)) : ∀ {l : List (List TokD)}, (∀ t ∈ l, ∀ x ∈ t, P x) → ∀ x ∈ pairsT l, P x
 | [], h, x, hx => by simp [pairsT] at hx
 | [t], h, x, hx => by simp [pairsT] at hx
 | k :: v :: r, h, x, hx => by
  simp only [pairsT, List.mem_append, List.mem_cons] at hx
  rcases hx with hx | rfl | hx | rfl | hx
  ·exact h k (by simp) x hx
  ·exact hd
  ·exact h v (by simp) x hx
  ·exact hc
  ·exact pairs_all hc hd (fun t ht => h t (by simp [ht])) x hx
theorem tokss_all {P : TokD → Prop} : ∀ {ks : List Tr}, (∀ k ∈ ks, ∀ x ∈ Tr.toks k, P x) → ∀ t ∈ Tr.tokss ks, ∀ x ∈ t, P x
 | [], h, t, ht => by simp [Tr.tokss] at ht
 | k :: ks, h, t, ht => by
  simp only [Tr.tokss, List.mem_cons] at ht
  rcases ht with rfl | ht
  ·exact h k (by simp)
  ·exact tokss_all (fun k hk => h k (by simp [hk])) t ht
abbrev Short (t : TokD) : Prop := t.s.size ≤ 64
theorem inside_all {P : TokD → Prop} (h1 : P (signT gLp)) (h2 : P (signT gRp)) {l : List TokD} (h : ∀ x ∈ l, P x) : ∀ x ∈ insideT l, P x := by
 intro x hx
 simp only [insideT, List.mem_cons, List.mem_append, List.not_mem_nil, or_false] at hx
 rcases hx with rfl | hx | rfl
 ·exact h1
 ·exact h x hx
 ·exact h2
theorem opWords_short {s : ByteArray} (h : s.size ≤ 64) : ∀ x ∈ opWords s, Short x := by
 intro x hx
 unfold opWords at hx
 split at hx
 ·simp at hx; rcases hx with rfl | rfl <;> (show ByteArray.size _ ≤ 64; decide)
 ·split at hx
  ·simp at hx; rcases hx with rfl | rfl <;> (show ByteArray.size _ ≤ 64; decide)
  ·split at hx
   ·simp at hx; subst hx; exact h
   ·simp at hx; subst hx; exact h
theorem bin_short : ∀ s ∈ binaries, s.size ≤ 64 := by decide
theorem cmp_short : ∀ s ∈ comparers, s.size ≤ 64 := by decide
theorem good_short {e : Tr} (h : Good e) : ∀ x ∈ Tr.toks e, Short x := by
 have sg : ∀ {u : ByteArray}, u.size ≤ 64 → Short (signT u) := fun h => h
 have wd : ∀ {u : ByteArray}, u.size ≤ 64 → Short (wordT u) := fun h => h
 have ins : ∀ {l : List TokD}, (∀ x ∈ l, Short x) → ∀ x ∈ insideT l, Short x := fun h => inside_all (show ByteArray.size _ ≤ 64 by decide) (show ByteArray.size _ ≤ 64 by decide) h
 have app : ∀ {l l' : List TokD}, (∀ x ∈ l, Short x) → (∀ x ∈ l', Short x) → ∀ x ∈ l ++ l', Short x := fun h h' x hx => (List.mem_append.1 hx).elim (h x) (h' x)
 have con : ∀ {t : TokD} {l : List TokD}, Short t → (∀ x ∈ l, Short x) → ∀ x ∈ t :: l, Short x := fun h h' x hx => (List.mem_cons.1 hx).elim (fun e => by rw [e]; exact h) (h' x)
 have nil : ∀ x ∈ ([] : List TokD), Short x := fun x hx => by cases hx
 induction h with
 | none_ => exact con (wd (by decide)) nil
 | true_ => exact con (wd (by decide)) nil
 | false_ => exact con (wd (by decide)) nil
 | int_ n h1 h2 => exact con (show Short (numT n) from Nat.zero_le 64) nil
 | str_ s h => exact con h nil
 | name_ s h h2 => exact con h nil
 | list_ ks hk h4 ih => exact con (sg (by decide)) (app (rows_all (sg (by decide)) false (tokss_all ih)) (con (sg (by decide)) nil))
 | tuple_ ks hk h4 ih => exact con (sg (by decide)) (app (rows_all (sg (by decide)) true (tokss_all ih)) (con (sg (by decide)) nil))
 | dict_ ks hk he h4 ih => exact con (sg (by decide)) (app (pairs_all (sg (by decide)) (sg (by decide)) (tokss_all ih)) (con (sg (by decide)) nil))
 | neg_ a ha ih => exact con (sg (by decide)) (ins ih)
 | not_ a ha ih => exact con (wd (by decide)) (ins ih)
 | bin_ s a b hs ha hb iha ihb => exact app (ins iha) (app (opWords_short (bin_short s hs)) (ins ihb))
 | cmp_ s a b hs ha hb iha ihb => exact app (ins iha) (app (opWords_short (cmp_short s hs)) (ins ihb))
 | and_ a b ha hb iha ihb => exact app (ins iha) (con (wd (by decide)) (ins ihb))
 | or_ a b ha hb iha ihb => exact app (ins iha) (con (wd (by decide)) (ins ihb))
 | if_ a b c ha hb hc iha ihb ihc => exact app (ins iha) (con (wd (by decide)) (app (ins ihb) (con (wd (by decide)) (ins ihc))))
 | call_ f ks hf hk h4 ihf ihk => exact app (ins ihf) (con (sg (by decide)) (app (rows_all (sg (by decide)) false (tokss_all ihk)) (con (sg (by decide)) nil)))
 | attr_ s a h1 h2 ha ih => exact app (ins ih) (con (sg (by decide)) (con (wd h1) nil))
 | index_ a b ha hb iha ihb => exact app (ins iha) (con (sg (by decide)) (app ihb (con (sg (by decide)) nil)))
 | slice_ a b c ha hb hc iha ihb ihc => exact app (ins iha) (con (sg (by decide)) (app ihb (con (sg (by decide)) (app ihc (con (sg (by decide)) nil)))))
 | lambda_ s a h1 h2 ha ih => exact con (wd (by decide)) (app (con (wd h1) nil) (con (sg (by decide)) ih))
end
end Go.Proofs.YtjdcicopjipmnaaDoor
