/- Places: with other places of the tokens, the same parse with other places of the nodes. -/
import Derived.Test.YtjdcicopjipmnaaDoorTot
namespace Go.Proofs.YtjdcicopjipmnaaDoor
set_option linter.unusedVariables false
set_option linter.unusedSimpArgs false
def shT (f : Int → Int) (t : TokD) : TokD := { t with at_ := f t.at_ }
def shN (f : Int → Int) (x : NodeD) : NodeD := { x with at_ := f x.at_ }
def shS (f : Int → Int) (s : PS) : PS := { s with ns := s.ns.map (shN f) }
/-- one of the nodes that there are -/
def Val (s : PS) (x : Int) : Prop := ∃ k : Nat, x = k ∧ k < s.ns.length
section
variable {f : Int → Int} {L : List TokD} {s : PS}
theorem Val.mono {n : Nat} {d : Int} {s2 : PS} {x : Int} (h : Val s x) (g : Gr n d s s2) : Val s2 x := by
  obtain ⟨k, e, h⟩ := h
  obtain ⟨t, ht⟩ := g.pre
  exact ⟨k, e, by rw [ht, List.length_append]; omega⟩
theorem tok_sh (b : Nat) (h : (tokP L s b).k ≠ 0) : tokP (L.map (shT f)) (shS f s) b = shT f (tokP L s b) := by
  obtain ⟨h1, h2⟩ := tokP_in h
  unfold tokP
  rw [if_neg (show ¬ s.e ≠ 0 from fun e => e h1), if_neg (show ¬ (shS f s).e ≠ 0 from fun e => e h1), List.getElem?_map]
  show ((L[s.at_ + b]?).map (shT f)).getD zeroT = _
  rw [List.getElem?_eq_getElem h2]
  rfl
theorem tok_shs (b : Nat) : (tokP (L.map (shT f)) (shS f s) b).k = (tokP L s b).k ∧ (tokP (L.map (shT f)) (shS f s) b).s = (tokP L s b).s ∧ (tokP (L.map (shT f)) (shS f s) b).n = (tokP L s b).n := by
  unfold tokP
  by_cases h1 : s.e ≠ 0
  · rw [if_pos h1, if_pos (show (shS f s).e ≠ 0 from h1)]
    exact ⟨rfl, rfl, rfl⟩
  · rw [if_neg h1, if_neg (show ¬ (shS f s).e ≠ 0 from h1), List.getElem?_map]
    rw [show (shS f s).at_ = s.at_ from rfl]
    cases h : L[s.at_ + b]? with
    | none => exact ⟨rfl, rfl, rfl⟩
    | some t => exact ⟨rfl, rfl, rfl⟩
theorem is_sh (t : ByteArray) (b : Nat) : isP (L.map (shT f)) (shS f s) t b = isP L s t b := by
  unfold isP
  rw [(tok_shs b).1, (tok_shs b).2.1]
theorem step_sh (n : Nat) : stepP (shS f s) n = shS f (stepP s n) := rfl
theorem fail_sh (e a : Int) : failP (shS f s) e a = shS f (failP s e a) := by
  unfold failP
  show (if s.e = 0 then _ else _) = _
  split <;> rfl
theorem any_sh : ∀ l : List ByteArray, anyP (L.map (shT f)) l (shS f s) = (shS f (anyP L l s).1, (anyP L l s).2)
  | [] => rfl
  | t :: l => by
    unfold anyP
    rw [is_sh]
    split
    · rfl
    · exact any_sh l
theorem take_sh (t : ByteArray) : takeP (L.map (shT f)) t (shS f s) = (shS f (takeP L t s).1, (takeP L t s).2) := by
  unfold takeP
  rw [any_sh]
theorem need_sh (t : ByteArray) : needP (L.map (shT f)) t (shS f s) = shS f (needP L t s) := by
  unfold needP
  rw [take_sh]
  simp only
  split
  · rfl
  · exact fail_sh _ _
theorem name_sh : nameP (L.map (shT f)) (shS f s) = (shS f (nameP L s).1, (nameP L s).2) := by
  unfold nameP
  rw [(tok_shs 0).1, (tok_shs 0).2.1]
  split
  · rfl
  · show (failP (shS f s) 30 s.at_, _) = _
    rw [fail_sh]
theorem cmp_sh : compares (L.map (shT f)) (shS f s) = compares L s := by
  unfold compares
  simp only [is_sh]
theorem add_sh {a a' : Int} (h : s.e = 0 → a' = f a) (op : Int) (t : ByteArray) (n : Int) (kids : List Int) : addP (shS f s) op a' t n kids = (shS f (addP s op a t n kids).1, (addP s op a t n kids).2) := by
  unfold addP
  show (if s.e ≠ 0 then _ else if 40 ≤ deepest s kids then (failP (shS f s) 32 s.at_, (-1 : Int)) else _) = _
  split
  · rfl
  · rename_i h0
    rw [h (Decidable.byContradiction h0)]
    split
    · rw [fail_sh]
    · simp [shS, shN]
      rfl
theorem place_sh {x : Int} (h : Val s x) : placeOf (shS f s) x = f (placeOf s x) := by
  obtain ⟨k, rfl, hk⟩ := h
  unfold placeOf
  rw [if_neg (by omega), if_neg (by omega)]
  show ((((s.ns.map (shN f))[(k : Int).toNat]?).map (·.at_)).getD 0) = _
  rw [List.getElem?_map, Int.toNat_natCast, List.getElem?_eq_getElem hk]
  rfl
theorem add_val {op a : Int} {t : ByteArray} {n : Int} {kids : List Int} : (addP s op a t n kids).1.e = 0 → Val (addP s op a t n kids).1 (addP s op a t n kids).2 := by
  intro h
  unfold addP at h ⊢
  split at h
  · rename_i h0; exact absurd h h0
  · rename_i h0
    rw [if_neg h0]
    split at h
    · unfold failP at h
      rw [if_pos (Decidable.byContradiction h0)] at h
      simp at h
    · rename_i h1
      rw [if_neg h1]
      exact ⟨s.ns.length, rfl, by simp⟩
theorem fail_bad (e a : Int) (he : e ≠ 0) : (failP s e a).e ≠ 0 := by
  unfold failP
  split
  · exact he
  · assumption
end
/-- the same with other places; and a node that is there -/
def SimE (f : Int → Int) (F F' : Ex) : Prop := ∀ s r, F s = some r → F' (shS f s) = some (shS f r.1, r.2) ∧ (r.1.e = 0 → Val r.1 r.2)
section
variable {f : Int → Int} {L : List TokD} {ex ex' : Ex} {s : PS}
theorem rowE_sh (hex : SimE f ex ex') (fin : ByteArray) : ∀ (m : Nat) (s : PS) (kids : List Int) (r : PS × List Int), rowE ex L fin m s kids = some r → rowE ex' (L.map (shT f)) fin m (shS f s) kids = some (shS f r.1, r.2)
  | 0, s, kids, r, h => by cases h
  | m + 1, s, kids, r, h => by
    unfold rowE at h ⊢
    rw [show (shS f s).e = s.e from rfl]
    simp only [take_sh]
    split at h
    · rename_i hc
      obtain rfl := Option.some.inj h
      rw [if_pos hc]
    · rename_i hc
      rw [if_neg hc]
      split at h
      · rename_i ht
        obtain rfl := Option.some.inj h
        rw [if_pos ht]
      · rename_i ht
        rw [if_neg ht]
        split at h
        · cases h
        · rename_i s1 x he
          rw [(hex _ _ he).1]
          simp only [take_sh]
          split at h
          · rename_i hy
            rw [if_pos hy]
            exact rowE_sh hex fin m _ _ _ h
          · rename_i hy
            obtain rfl := Option.some.inj h
            rw [if_neg hy, need_sh]
theorem pairsE_sh (hex : SimE f ex ex') : ∀ (m : Nat) (s : PS) (kids : List Int) (r : PS × List Int), pairsE ex L m s kids = some r → pairsE ex' (L.map (shT f)) m (shS f s) kids = some (shS f r.1, r.2)
  | 0, s, kids, r, h => by cases h
  | m + 1, s, kids, r, h => by
    unfold pairsE at h ⊢
    rw [show (shS f s).e = s.e from rfl]
    simp only [take_sh]
    split at h
    · rename_i hc
      obtain rfl := Option.some.inj h
      rw [if_pos hc]
    · rename_i hc
      rw [if_neg hc]
      split at h
      · rename_i ht
        obtain rfl := Option.some.inj h
        rw [if_pos ht]
      · rename_i ht
        rw [if_neg ht]
        split at h
        · cases h
        · rename_i s1 x he
          rw [(hex _ _ he).1]
          simp only [need_sh]
          split at h
          · cases h
          · rename_i s2 v hv
            rw [(hex _ _ hv).1]
            simp only [take_sh]
            split at h
            · rename_i hy
              rw [if_pos hy]
              exact pairsE_sh hex m _ _ _ h
            · rename_i hy
              obtain rfl := Option.some.inj h
              rw [if_neg hy, need_sh]
theorem roundE_sh (hex : SimE f ex ex') {m : Nat} {a a' : Int} {r : PS × Int} (ha : s.e = 0 → a' = f a) (hg : GdE L.length ex) (h : roundE ex L m a s = some r) : roundE ex' (L.map (shT f)) m a' (shS f s) = some (shS f r.1, r.2) ∧ (r.1.e = 0 → Val r.1 r.2) := by
  unfold roundE at h ⊢
  simp only [take_sh]
  have g0 := take_gr (L := L) (s := s) gRp
  split at h
  · rename_i ht
    obtain rfl := Option.some.inj h
    rw [if_pos ht, add_sh (fun e => ha (g0.pos e))]
    exact ⟨rfl, add_val⟩
  · rename_i ht
    rw [if_neg ht]
    split at h
    · cases h
    · rename_i s1 x he
      have hx := hex _ _ he
      have g1 := (hg _ _ he).1
      rw [hx.1]
      simp only [take_sh]
      split at h
      · rename_i hy
        obtain rfl := Option.some.inj h
        rw [if_pos hy]
        exact ⟨rfl, fun e => (hx.2 ((take_gr (L := L) (s := s1) gRp).pos e)).mono (take_gr (L := L) gRp)⟩
      · rename_i hy
        rw [if_neg hy]
        split at h
        · cases h
        · rename_i s2 kids hr
          obtain rfl := Option.some.inj h
          rw [need_sh, rowE_sh hex _ _ _ _ _ hr]
          simp only
          have g2 := need_gr (L := L) (s := (takeP L gRp s1).1) gComma
          have g3 := (rowE_gl hg _ _ _ _ _ (in_snoc (l := []) (fun k hk => by cases hk) (((hg _ _ he).2.mono (take_gr (L := L) gRp)).mono g2)) hr).1
          have gg := (((g0.trans g1).trans (take_gr (L := L) gRp)).trans g2).trans g3
          rw [add_sh (fun e => ha (gg.pos e))]
          exact ⟨rfl, add_val⟩
theorem atomE_sh (hex : SimE f ex ex') (hg : GdE L.length ex) {m : Nat} {r : PS × Int} (h : atomE ex L m s = some r) : atomE ex' (L.map (shT f)) m (shS f s) = some (shS f r.1, r.2) ∧ (r.1.e = 0 → Val r.1 r.2) := by
  unfold atomE at h ⊢
  simp only [step_sh, (tok_shs 0).1, (tok_shs 0).2.1, (tok_shs 0).2.2] at h ⊢
  have hat : (tokP L s 0).k ≠ 0 → (tokP (L.map (shT f)) (shS f s) 0).at_ = f (tokP L s 0).at_ := fun hk => by rw [tok_sh 0 hk]; rfl
  have hno : noAtom (shS f s) = some (shS f (failP s 30 s.at_), -1) := by
    unfold noAtom
    rw [fail_sh]
    rfl
  have hbad : (failP s 30 s.at_).e = 0 → Val (failP s 30 s.at_) (-1) := fun e => absurd e (fail_bad _ _ (by decide))
  split at h
  · rename_i hk
    obtain rfl := Option.some.inj h
    rw [if_pos hk, add_sh (fun _ => hat (by rw [hk]; decide))]
    exact ⟨rfl, add_val⟩
  rename_i hk2
  rw [if_neg hk2]
  split at h
  · rename_i hk
    obtain rfl := Option.some.inj h
    rw [if_pos hk, add_sh (fun _ => hat (by rw [hk]; decide))]
    exact ⟨rfl, add_val⟩
  rename_i hk3
  rw [if_neg hk3]
  split at h
  · rename_i hk
    rw [if_pos hk]
    split at h
    · rename_i op hop
      obtain rfl := Option.some.inj h
      rw [add_sh (fun _ => hat (by rw [hk]; decide))]
      exact ⟨rfl, add_val⟩
    · rename_i hop
      split at h
      · rename_i hn
        obtain rfl := Option.some.inj h
        rw [if_pos hn, add_sh (fun _ => hat (by rw [hk]; decide))]
        exact ⟨rfl, add_val⟩
      · rename_i hn
        obtain rfl := Option.some.inj h
        rw [if_neg hn]
        exact ⟨hno, hbad⟩
  rename_i hk1
  rw [if_neg hk1]
  split at h
  · rename_i hk
    have hne : (tokP L s 0).k ≠ 0 := by rw [hk]; decide
    have g0 := tok_kind (L := L) hk (by decide)
    rw [if_pos hk]
    split at h
    · rename_i hp
      rw [if_pos hp]
      exact roundE_sh hex (fun _ => hat hne) hg h
    · rename_i hp
      rw [if_neg hp]
      split at h
      · rename_i hb
        rw [if_pos hb]
        split at h
        · cases h
        · rename_i s2 kids hr
          obtain rfl := Option.some.inj h
          rw [rowE_sh hex _ _ _ _ _ hr]
          simp only
          rw [add_sh (fun _ => hat hne)]
          exact ⟨rfl, add_val⟩
      · rename_i hb
        rw [if_neg hb]
        split at h
        · rename_i hc
          rw [if_pos hc]
          split at h
          · cases h
          · rename_i s2 kids hr
            obtain rfl := Option.some.inj h
            rw [pairsE_sh hex _ _ _ _ hr]
            simp only
            rw [add_sh (fun _ => hat hne)]
            exact ⟨rfl, add_val⟩
        · rename_i hc
          obtain rfl := Option.some.inj h
          rw [if_neg hc]
          exact ⟨hno, hbad⟩
  · rename_i hk
    obtain rfl := Option.some.inj h
    rw [if_neg hk]
    exact ⟨hno, hbad⟩
theorem boundE_sh (hex : SimE f ex ex') {fin : ByteArray} {r : PS × Int} (h : boundE ex L fin s = some r) : boundE ex' (L.map (shT f)) fin (shS f s) = some (shS f r.1, r.2) ∧ (r.1.e = 0 → Val r.1 r.2) := by
  unfold boundE at h ⊢
  rw [is_sh]
  split at h
  · rename_i hc
    obtain rfl := Option.some.inj h
    have hk : (tokP L s 0).k ≠ 0 := by
      unfold isP at hc
      rw [Bool.and_eq_true] at hc
      have := of_decide_eq_true hc.1
      rw [this]
      split <;> decide
    rw [if_pos hc, add_sh (fun _ => by rw [tok_sh 0 hk]; rfl)]
    exact ⟨rfl, add_val⟩
  · rename_i hc
    rw [if_neg hc]
    exact hex _ _ h
theorem indexE_sh (hex : SimE f ex ex') (hg : GdE L.length ex) {x a a' : Int} {r : PS × Int} (ha : s.e = 0 → a' = f a) (h : indexE ex L x a s = some r) : indexE ex' (L.map (shT f)) x a' (shS f s) = some (shS f r.1, r.2) ∧ (r.1.e = 0 → Val r.1 r.2) := by
  unfold indexE at h ⊢
  simp only at h ⊢
  split at h
  · cases h
  · rename_i s1 y he
    have hb := boundE_sh hex he
    have g1 := (boundE_gd hg he).1
    rw [hb.1]
    simp only [take_sh, is_sh]
    split at h
    · rename_i hc
      obtain rfl := Option.some.inj h
      rw [if_pos hc, add_sh (fun e => ha ((g1.trans (take_gr (L := L) gRb)).pos e))]
      exact ⟨rfl, add_val⟩
    · rename_i hc
      rw [if_neg hc]
      have hsel : (if isP L s gColon 0 = true then shS f s1 else shS f (takeP L gRb s1).1) = shS f (if isP L s gColon 0 = true then s1 else (takeP L gRb s1).1) := by split <;> rfl
      have g2 : Gr L.length 0 s1 (if isP L s gColon 0 = true then s1 else (takeP L gRb s1).1) := by
        split
        · exact Gr.refl _ _
        · exact take_gr _
      rw [hsel, need_sh]
      split at h
      · cases h
      · rename_i s3 z hz
        obtain rfl := Option.some.inj h
        have hb2 := boundE_sh hex hz
        have g3 := (boundE_gd hg hz).1
        rw [hb2.1]
        simp only
        have gg := (((g1.trans g2).trans (need_gr (L := L) gColon)).trans g3).trans (need_gr (L := L) gRb)
        rw [need_sh, add_sh (fun e => ha (gg.pos e))]
        exact ⟨rfl, add_val⟩
theorem postE_sh (hex : SimE f ex ex') (hg : GdE L.length ex) (m0 : Nat) {a a' : Int} : ∀ (m : Nat) (s : PS) (x : Int) (r : PS × Int), In s x → (s.e = 0 → a' = f a) → (s.e = 0 → Val s x) → postE ex L m0 a m s x = some r → postE ex' (L.map (shT f)) m0 a' m (shS f s) x = some (shS f r.1, r.2) ∧ (r.1.e = 0 → Val r.1 r.2)
  | 0, s, x, r, hi, ha, hx, h => by cases h
  | m + 1, s, x, r, hi, ha, hx, h => by
    unfold postE at h ⊢
    simp only [any_sh] at h ⊢
    split at h
    · rename_i hc
      obtain rfl := Option.some.inj h
      rw [if_pos hc]
      exact ⟨rfl, hx⟩
    · rename_i hc
      rw [if_neg hc]
      have g0 := any_yes (L := L) (s := s) (l := [gDot, gLp, gLb]) (by simpa using hc)
      split at h
      · rename_i hd
        rw [if_pos hd]
        simp only [name_sh]
        have g1 := g0.trans (name_gr (L := L))
        rw [add_sh (fun e => ha (g1.pos e))]
        have g2 := g1.trans (add_gr (L := L) (s := (nameP L (anyP L [gDot, gLp, gLb] s).1).1) 18 a (nameP L (anyP L [gDot, gLp, gLb] s).1).2 0 [x])
        exact postE_sh hex hg m0 m _ _ _ (add_in ..) (fun e => ha (g2.pos e)) (add_val) h
      · rename_i hd
        rw [if_neg hd]
        split at h
        · rename_i hp
          rw [if_pos hp]
          split at h
          · cases h
          · rename_i s2 kids hr
            rw [rowE_sh hex _ _ _ _ _ hr]
            simp only
            have g1 := g0.trans (rowE_gl hg _ _ _ _ _ (in_snoc (l := []) (fun k hk => by cases hk) (hi.mono g0)) hr).1
            rw [add_sh (fun e => ha (g1.pos e))]
            have g2 := g1.trans (add_gr (L := L) (s := s2) 17 a ⟨#[]⟩ 0 kids)
            exact postE_sh hex hg m0 m _ _ _ (add_in ..) (fun e => ha (g2.pos e)) (add_val) h
        · rename_i hp
          rw [if_neg hp]
          split at h
          · cases h
          · rename_i s2 y hr
            have hb := indexE_sh hex hg (fun e => ha (g0.pos e)) hr
            have g1 := g0.trans (indexE_gd hg hr).1
            rw [hb.1]
            simp only
            exact postE_sh hex hg m0 m _ _ _ (indexE_gd hg hr).2 (fun e => ha (g1.pos e)) hb.2 h
theorem postfixE_sh (hex : SimE f ex ex') (hg : GdE L.length ex) {m : Nat} {r : PS × Int} (h : postfixE ex L m s = some r) : postfixE ex' (L.map (shT f)) m (shS f s) = some (shS f r.1, r.2) ∧ (r.1.e = 0 → Val r.1 r.2) := by
  unfold postfixE at h ⊢
  split at h
  · cases h
  · rename_i s1 x he
    have hb := atomE_sh hex hg he
    rw [hb.1]
    simp only
    exact postE_sh hex hg m m _ _ _ (atomE_gd hg he).2 (fun e => place_sh (hb.2 e)) hb.2 h
theorem is_tok {t : ByteArray} {b : Nat} (h : isP L s t b = true) : (tokP L s b).k ≠ 0 := by
  unfold isP at h
  rw [Bool.and_eq_true] at h
  have := of_decide_eq_true h.1
  rw [this]
  split <;> decide
theorem factorE_sh (hex : SimE f ex ex') (hg : GdE L.length ex) (m0 : Nat) : ∀ (m : Nat) (s : PS) (r : PS × Int), factorE ex L m0 m s = some r → factorE ex' (L.map (shT f)) m0 m (shS f s) = some (shS f r.1, r.2) ∧ (r.1.e = 0 → Val r.1 r.2)
  | 0, s, r, h => by cases h
  | m + 1, s, r, h => by
    unfold factorE at h ⊢
    simp only [take_sh] at h ⊢
    split at h
    · rename_i hc
      rw [if_pos hc]
      rw [take_is] at hc
      split at h
      · cases h
      · rename_i s1 x he
        obtain rfl := Option.some.inj h
        have hb := factorE_sh hex hg m0 m _ _ he
        rw [hb.1]
        simp only
        rw [add_sh (fun _ => by rw [tok_sh 0 (is_tok hc)]; rfl)]
        exact ⟨rfl, add_val⟩
    · rename_i hc
      rw [if_neg hc]
      split at h
      · cases h
      · rename_i s1 x he
        have hb := postfixE_sh hex hg he
        rw [hb.1]
        simp only [take_sh]
        split at h
        · rename_i hy
          rw [if_pos hy]
          split at h
          · cases h
          · rename_i s2 y hf
            obtain rfl := Option.some.inj h
            have hb2 := factorE_sh hex hg m0 m _ _ hf
            rw [hb2.1]
            simp only
            have g2 := (take_gr (L := L) (s := s1) gPow).trans (factorE_gd hg m0 m _ _ hf).1
            rw [add_sh (fun e => place_sh ((hb.2 (g2.pos e)).mono g2))]
            exact ⟨rfl, add_val⟩
        · rename_i hy
          obtain rfl := Option.some.inj h
          rw [if_neg hy]
          exact ⟨rfl, fun e => (hb.2 ((take_gr (L := L) (s := s1) gPow).pos e)).mono (take_gr (L := L) gPow)⟩
theorem leftE_sh {part part' : Ex} (hp : SimE f part part') (hg : GdE L.length part) (op : Int) (signs : List ByteArray) : ∀ (m : Nat) (s : PS) (x : Int) (r : PS × Int), (s.e = 0 → Val s x) → leftE L part op signs m s x = some r → leftE (L.map (shT f)) part' op signs m (shS f s) x = some (shS f r.1, r.2) ∧ (r.1.e = 0 → Val r.1 r.2)
  | 0, s, x, r, hx, h => by cases h
  | m + 1, s, x, r, hx, h => by
    unfold leftE at h ⊢
    simp only [any_sh] at h ⊢
    split at h
    · rename_i hc
      obtain rfl := Option.some.inj h
      rw [if_pos hc]
      exact ⟨rfl, hx⟩
    · rename_i hc
      rw [if_neg hc]
      have g0 := any_yes (L := L) (s := s) (l := signs) (by simpa using hc)
      split at h
      · cases h
      · rename_i s1 y he
        have hb := hp _ _ he
        have g1 := g0.trans (hg _ _ he).1
        rw [hb.1]
        simp only
        rw [add_sh (fun e => place_sh ((hx (g1.pos e)).mono g1))]
        exact leftE_sh hp hg op signs m _ _ _ (add_val) h
theorem partsE_sh {part part' : Ex} (hp : SimE f part part') (hg : GdE L.length part) {op : Int} {signs : List ByteArray} {m : Nat} : SimE f (partsE L part op signs m) (partsE (L.map (shT f)) part' op signs m) := by
  intro s r h
  unfold partsE at h ⊢
  split at h
  · cases h
  · rename_i s1 x he
    have hb := hp _ _ he
    rw [hb.1]
    simp only
    exact leftE_sh hp hg _ _ _ _ _ _ hb.2 h
theorem termE_sh (hex : SimE f ex ex') (hg : GdE L.length ex) (m : Nat) : SimE f (termE ex L m) (termE ex' (L.map (shT f)) m) := partsE_sh (fun s r h => factorE_sh hex hg m m s r h) fun s r h => factorE_gd hg m m s r h
theorem sumE_sh (hex : SimE f ex ex') (hg : GdE L.length ex) (m : Nat) : SimE f (sumE ex L m) (sumE ex' (L.map (shT f)) m) := partsE_sh (termE_sh hex hg m) (termE_gd hg m)
theorem notE_sh (hex : SimE f ex ex') (hg : GdE L.length ex) (m0 : Nat) : ∀ (m : Nat) (s : PS) (r : PS × Int), notE ex L m0 m s = some r → notE ex' (L.map (shT f)) m0 m (shS f s) = some (shS f r.1, r.2) ∧ (r.1.e = 0 → Val r.1 r.2)
  | 0, s, r, h => by cases h
  | m + 1, s, r, h => by
    unfold notE at h ⊢
    simp only [take_sh] at h ⊢
    split at h
    · rename_i hc
      rw [if_pos hc]
      rw [take_is] at hc
      split at h
      · cases h
      · rename_i s1 x he
        obtain rfl := Option.some.inj h
        have hb := notE_sh hex hg m0 m _ _ he
        rw [hb.1]
        simp only
        rw [add_sh (fun _ => by rw [tok_sh 0 (is_tok hc)]; rfl)]
        exact ⟨rfl, add_val⟩
    · rename_i hc
      rw [if_neg hc]
      split at h
      · cases h
      · rename_i s1 x he
        have hb := sumE_sh hex hg m0 _ _ he
        rw [hb.1]
        simp only [cmp_sh, step_sh]
        split at h
        · rename_i hn
          obtain rfl := Option.some.inj h
          rw [if_pos hn]
          exact ⟨rfl, hb.2⟩
        · rename_i hn
          rw [if_neg hn]
          have hcm := compares_in hn
          split at h
          · cases h
          · rename_i s2 y hf
            have hb2 := sumE_sh hex hg m0 _ _ hf
            rw [hb2.1]
            simp only
            have g2 := (step_gr hcm.1 hcm.2).trans (sumE_gd hg m0 _ _ hf).1
            rw [add_sh (fun e => place_sh ((hb.2 (g2.pos e)).mono g2))]
            simp only [cmp_sh]
            split at h
            · rename_i hq
              obtain rfl := Option.some.inj h
              rw [if_pos hq]
              refine ⟨?_, fun e => absurd e (fail_bad _ _ (by decide))⟩
              simp only [fail_sh]
              rfl
            · rename_i hq
              obtain rfl := Option.some.inj h
              rw [if_neg hq]
              exact ⟨rfl, add_val⟩
theorem andE_sh (hex : SimE f ex ex') (hg : GdE L.length ex) (m : Nat) : SimE f (andE ex L m) (andE ex' (L.map (shT f)) m) := partsE_sh (fun s r h => notE_sh hex hg m m s r h) fun s r h => notE_gd hg m m s r h
theorem orE_sh (hex : SimE f ex ex') (hg : GdE L.length ex) (m : Nat) : SimE f (orE ex L m) (orE ex' (L.map (shT f)) m) := partsE_sh (andE_sh hex hg m) (andE_gd hg m)
theorem paramsE_sh (hex : SimE f ex ex') (hg : GdE L.length ex) : ∀ (m : Nat) (s : PS) (out : List Int) (late : Bool) (r : PS × List Int), paramsE ex L m s out late = some r → paramsE ex' (L.map (shT f)) m (shS f s) out late = some (shS f r.1, r.2)
  | 0, s, out, late, r, h => by cases h
  | m + 1, s, out, late, r, h => by
    unfold paramsE at h ⊢
    rw [show (shS f s).e = s.e from rfl]
    simp only [take_sh] at h ⊢
    split at h
    · rename_i hc
      obtain rfl := Option.some.inj h
      rw [if_pos hc]
    · rename_i hc
      rw [if_neg hc]
      have hC' : (if out = [] then (shS f (takeP L gColon s).1, (takeP L gColon s).2) else (shS f s, false)) = (shS f (if out = [] then takeP L gColon s else (s, false)).1, (if out = [] then takeP L gColon s else (s, false)).2) := by split <;> rfl
      rw [hC']
      generalize hC : (if out = [] then takeP L gColon s else (s, false)) = C at h
      simp only [name_sh, take_sh]
      split at h
      · rename_i ht
        obtain rfl := Option.some.inj h
        rw [if_pos ht]
      · rename_i ht
        rw [if_neg ht]
        have hat : (nameP L C.1).1.e = 0 → (tokP (L.map (shT f)) (shS f C.1) 0).at_ = f (tokP L C.1 0).at_ := fun e => by
          rw [tok_sh 0]
          · rfl
          · intro hz
            unfold nameP at e
            rw [if_neg (fun hh => by rw [hz] at hh; exact absurd hh.1 (by decide))] at e
            exact fail_bad _ _ (by decide) e
        have gq := take_gr (L := L) (s := (nameP L C.1).1) gEq
        split at h
        · rename_i hy
          rw [if_pos hy]
          split at h
          · cases h
          · rename_i s1 x he
            rw [(hex _ _ he).1]
            have g1 := gq.trans (hg _ _ he).1
            simp only
            rw [add_sh (fun e => hat (g1.pos e))]
            simp only [take_sh]
            split at h
            · rename_i hz
              rw [if_pos hz]
              exact paramsE_sh hex hg m _ _ _ _ h
            · rename_i hz
              obtain rfl := Option.some.inj h
              rw [if_neg hz, need_sh]
        · rename_i hy
          rw [if_neg hy]
          have hsel : (if late = true then failP (shS f (takeP L gEq (nameP L C.1).1).1) 30 (shS f C.1).at_ else shS f (takeP L gEq (nameP L C.1).1).1) = shS f (if late = true then failP (takeP L gEq (nameP L C.1).1).1 30 C.1.at_ else (takeP L gEq (nameP L C.1).1).1) := by
            split
            · exact fail_sh _ _
            · rfl
          rw [hsel]
          have gf : (if late = true then failP (takeP L gEq (nameP L C.1).1).1 30 C.1.at_ else (takeP L gEq (nameP L C.1).1).1).e = 0 → (nameP L C.1).1.e = 0 := by
            split
            · exact fun e => absurd e (fail_bad _ _ (by decide))
            · exact gq.pos
          generalize (if late = true then failP (takeP L gEq (nameP L C.1).1).1 30 C.1.at_ else (takeP L gEq (nameP L C.1).1).1) = s1 at h gf
          rw [add_sh (fun e => hat (gf e))]
          simp only [take_sh]
          split at h
          · rename_i hz
            rw [if_pos hz]
            exact paramsE_sh hex hg m _ _ _ _ h
          · rename_i hz
            obtain rfl := Option.some.inj h
            rw [if_neg hz, need_sh]
theorem exprB_sh (hex : SimE f ex ex') (hg : GdE L.length ex) (m : Nat) : SimE f (exprB ex L m) (exprB ex' (L.map (shT f)) m) := by
  intro s r h
  unfold exprB at h ⊢
  simp only [take_sh] at h ⊢
  split at h
  · rename_i hc
    rw [if_pos hc]
    rw [take_is] at hc
    split at h
    · cases h
    · rename_i s1 kids he
      rw [paramsE_sh hex hg _ _ _ _ _ he]
      simp only
      split at h
      · cases h
      · rename_i s2 x hx
        obtain rfl := Option.some.inj h
        rw [(hex _ _ hx).1]
        simp only
        rw [add_sh (fun _ => by rw [tok_sh 0 (is_tok hc)]; rfl)]
        exact ⟨rfl, add_val⟩
  · rename_i hc
    rw [if_neg hc]
    split at h
    · cases h
    · rename_i s1 x he
      have hb := orE_sh hex hg m _ _ he
      rw [hb.1]
      simp only [take_sh]
      split at h
      · rename_i hy
        rw [if_pos hy]
        split at h
        · cases h
        · rename_i s2 y hy2
          rw [(orE_sh hex hg m _ _ hy2).1]
          simp only [need_sh]
          split at h
          · cases h
          · rename_i s3 z hz
            obtain rfl := Option.some.inj h
            rw [(hex _ _ hz).1]
            simp only
            have gg := (((take_gr (L := L) (s := s1) kIf).trans (orE_gd hg m _ _ hy2).1).trans (need_gr (L := L) kElse)).trans (hg _ _ hz).1
            rw [add_sh (fun e => place_sh ((hb.2 (gg.pos e)).mono gg))]
            exact ⟨rfl, add_val⟩
      · rename_i hy
        obtain rfl := Option.some.inj h
        rw [if_neg hy]
        exact ⟨rfl, fun e => (hb.2 ((take_gr (L := L) (s := s1) kIf).pos e)).mono (take_gr (L := L) kIf)⟩
end
theorem exprE_sh (f : Int → Int) (L : List TokD) : ∀ m, SimE f (exprE L m) (exprE (L.map (shT f)) m)
  | 0 => fun s r h => by cases h
  | m + 1 => exprB_sh (exprE_sh f L m) (exprE_gd L m) m
/-- the whole parse, with other places -/
theorem parsed_sh (f : Int → Int) {L : List TokD} {r : PS × Int} (h : exprE L (L.length + 3) startS = some r) : exprE (L.map (shT f)) ((L.map (shT f)).length + 3) startS = some (shS f r.1, r.2) := by
  have := (exprE_sh f L (L.length + 3) startS r h).1
  rw [List.length_map]
  exact this
end Go.Proofs.YtjdcicopjipmnaaDoor
