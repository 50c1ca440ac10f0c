/- How the plain parser goes on (2): each part. -/
import Derived.Test.YtjdcicopjipmnaaDoorGrw
namespace Go.Proofs.YtjdcicopjipmnaaDoor
set_option linter.unusedVariables false
set_option linter.unusedSimpArgs false
/-- what a part of the parser does to the state, and its node -/
def Gd (n : Nat) (d : Int) (s : PS) (r : PS × Int) : Prop := Gr n d s r.1 ∧ In r.1 r.2
def Gl (n : Nat) (d : Int) (s : PS) (r : PS × List Int) : Prop := Gr n d s r.1 ∧ ∀ k ∈ r.2, In r.1 k
abbrev GdE (n : Nat) (ex : Ex) : Prop := ∀ s r, ex s = some r → Gd n 0 s r
section
variable {L : List TokD} {ex : Ex} {s : PS}
theorem Gd.pre {d d' : Int} {s0 s1 : PS} {r : PS × Int} (h : Gd L.length d s1 r) (g : Gr L.length d' s0 s1) {d2 : Int} (hd : d' + d ≤ d2) : Gd L.length d2 s0 r := ⟨(g.trans h.1).weak hd, h.2⟩
theorem Gl.pre {d d' : Int} {s0 s1 : PS} {r : PS × List Int} (h : Gl L.length d s1 r) (g : Gr L.length d' s0 s1) {d2 : Int} (hd : d' + d ≤ d2) : Gl L.length d2 s0 r := ⟨(g.trans h.1).weak hd, h.2⟩
theorem add_gd (op at_ : Int) (t : ByteArray) (m : Int) (kids : List Int) : Gd L.length 1 s (addP s op at_ t m kids) := ⟨add_gr .., add_in ..⟩
theorem in_all {s1 s2 : PS} {l : List Int} {d : Int} (h : ∀ k ∈ l, In s1 k) (g : Gr L.length d s1 s2) : ∀ k ∈ l, In s2 k := fun k hk => (h k hk).mono g
theorem in_snoc {s1 : PS} {l : List Int} {x : Int} (h : ∀ k ∈ l, In s1 k) (hx : In s1 x) : ∀ k ∈ l ++ [x], In s1 k := fun k hk => by
  rcases List.mem_append.1 hk with h1 | h1
  · exact h k h1
  · rw [List.mem_singleton.1 h1]; exact hx
theorem noAtom_gd (s : PS) : Gd L.length 0 s (failP s 30 s.at_, -1) := ⟨fail_gr (.inl rfl) rfl id, .inl rfl⟩
theorem rowE_gl (hex : GdE L.length ex) (fin : ByteArray) : ∀ (m : Nat) (s : PS) (kids : List Int) (r : PS × List Int), (∀ k ∈ kids, In s k) → rowE ex L fin m s kids = some r → Gl L.length 0 s r
  | 0, s, kids, r, hk, h => by cases h
  | m + 1, s, kids, r, hk, h => by
    unfold rowE at h
    split at h
    · obtain rfl := Option.some.inj h
      exact ⟨Gr.refl _ _, hk⟩
    · split at h
      · obtain rfl := Option.some.inj h
        exact ⟨take_gr _, in_all hk (take_gr (L := L) _)⟩
      · split at h
        · cases h
        · rename_i s1 x he
          obtain ⟨g1, i1⟩ := hex _ _ he
          have g0 := (take_gr (L := L) (s := s) fin).trans g1
          have g2 := g0.trans (take_gr (L := L) gComma)
          split at h
          · exact (rowE_gl hex fin m _ _ _ (in_snoc (in_all hk g2) (i1.mono (take_gr (L := L) gComma))) h).pre g2 (by omega)
          · obtain rfl := Option.some.inj h
            have g3 := g2.trans (need_gr (L := L) fin)
            exact ⟨g3.weak (by omega), in_snoc (in_all hk g3) ((i1.mono (take_gr (L := L) gComma)).mono (need_gr (L := L) fin))⟩
theorem pairsE_gl (hex : GdE L.length ex) : ∀ (m : Nat) (s : PS) (kids : List Int) (r : PS × List Int), (∀ k ∈ kids, In s k) → pairsE ex L m s kids = some r → Gl L.length 0 s r
  | 0, s, kids, r, hk, h => by cases h
  | m + 1, s, kids, r, hk, h => by
    unfold pairsE at h
    split at h
    · obtain rfl := Option.some.inj h
      exact ⟨Gr.refl _ _, hk⟩
    · split at h
      · obtain rfl := Option.some.inj h
        exact ⟨take_gr _, in_all hk (take_gr (L := L) _)⟩
      · split at h
        · cases h
        · rename_i s1 x he
          obtain ⟨g1, i1⟩ := hex _ _ he
          have g0 := ((take_gr (L := L) (s := s) gRc).trans g1).trans (need_gr (L := L) gColon)
          split at h
          · cases h
          · rename_i s2 v hv
            obtain ⟨g2, i2⟩ := hex _ _ hv
            have gx := ((need_gr (L := L) (s := s1) gColon).trans g2).trans (take_gr (L := L) gComma)
            have g3 := (g0.trans g2).trans (take_gr (L := L) gComma)
            have hl : ∀ k ∈ kids ++ [x, v], In (takeP L gComma s2).1 k := by
              have := in_snoc (in_snoc (in_all hk g3) (i1.mono gx)) (i2.mono (take_gr (L := L) gComma))
              rwa [List.append_assoc] at this
            split at h
            · exact (pairsE_gl hex m _ _ _ hl h).pre g3 (by omega)
            · obtain rfl := Option.some.inj h
              have g4 := g3.trans (need_gr (L := L) gRc)
              exact ⟨g4.weak (by omega), in_all hl (need_gr (L := L) gRc)⟩
theorem roundE_gd (hex : GdE L.length ex) {m : Nat} {at_ : Int} {r : PS × Int} (h : roundE ex L m at_ s = some r) : Gd L.length 1 s r := by
  unfold roundE at h
  split at h
  · obtain rfl := Option.some.inj h
    exact (add_gd ..).pre (take_gr (L := L) gRp) (by omega)
  · split at h
    · cases h
    · rename_i s1 x he
      obtain ⟨g1, i1⟩ := hex _ _ he
      have g2 := ((take_gr (L := L) (s := s) gRp).trans g1).trans (take_gr (L := L) gRp)
      split at h
      · obtain rfl := Option.some.inj h
        exact ⟨g2.weak (by omega), i1.mono (take_gr (L := L) gRp)⟩
      · split at h
        · cases h
        · rename_i s2 kids hr
          obtain rfl := Option.some.inj h
          have g3 := (take_gr (L := L) (s := s1) gRp).trans (need_gr (L := L) gComma)
          have h4 := rowE_gl hex _ _ _ _ _ (in_snoc (l := []) (fun k hk => by cases hk) (i1.mono g3)) hr
          exact (add_gd ..).pre ((g2.trans (need_gr (L := L) gComma)).trans h4.1) (by omega)
theorem tok_kind {k : Int} (h : (tokP L s 0).k = k) (hk : k ≠ 0) : Gr L.length (-3) s (stepP s 1) := by
  have h1 := tokP_in (L := L) (s := s) (b := 0) (by rw [h]; exact hk)
  exact step_gr (k := 1) h1.1 h1.2
theorem atomE_gd (hex : GdE L.length ex) {m : Nat} {r : PS × Int} (h : atomE ex L m s = some r) : Gd L.length 0 s r := by
  unfold atomE at h
  simp only at h
  split at h
  · rename_i hk
    obtain rfl := Option.some.inj h
    exact (add_gd ..).pre (tok_kind (L := L) hk (by decide)) (by omega)
  split at h
  · rename_i _ hk
    obtain rfl := Option.some.inj h
    exact (add_gd ..).pre (tok_kind (L := L) hk (by decide)) (by omega)
  split at h
  · rename_i _ _ hk
    split at h
    · obtain rfl := Option.some.inj h
      exact (add_gd ..).pre (tok_kind (L := L) hk (by decide)) (by omega)
    · split at h
      · obtain rfl := Option.some.inj h
        exact (add_gd ..).pre (tok_kind (L := L) hk (by decide)) (by omega)
      · obtain rfl := Option.some.inj h
        exact noAtom_gd s
  split at h
  · rename_i _ _ _ hk
    have g0 := tok_kind (L := L) hk (by decide)
    split at h
    · exact (roundE_gd hex h).pre g0 (by omega)
    · split at h
      · split at h
        · cases h
        · rename_i s2 kids hr
          obtain rfl := Option.some.inj h
          exact (add_gd ..).pre (g0.trans (rowE_gl hex _ _ _ _ _ (fun k hk => by cases hk) hr).1) (by omega)
      · split at h
        · split at h
          · cases h
          · rename_i s2 kids hr
            obtain rfl := Option.some.inj h
            exact (add_gd ..).pre (g0.trans (pairsE_gl hex _ _ _ _ (fun k hk => by cases hk) hr).1) (by omega)
        · obtain rfl := Option.some.inj h
          exact noAtom_gd s
  · obtain rfl := Option.some.inj h
    exact noAtom_gd s
theorem boundE_gd (hex : GdE L.length ex) {fin : ByteArray} {r : PS × Int} (h : boundE ex L fin s = some r) : Gd L.length 1 s r := by
  unfold boundE at h
  split at h
  · obtain rfl := Option.some.inj h
    exact add_gd ..
  · exact (hex _ _ h).pre (Gr.refl _ _) (by omega)
theorem indexE_gd (hex : GdE L.length ex) {x at_ : Int} {r : PS × Int} (h : indexE ex L x at_ s = some r) : Gd L.length 3 s r := by
  unfold indexE at h
  simp only at h
  split at h
  · cases h
  · rename_i s1 y he
    obtain ⟨g1, i1⟩ := boundE_gd hex he
    split at h
    · obtain rfl := Option.some.inj h
      exact (add_gd ..).pre (g1.trans (take_gr (L := L) gRb)) (by omega)
    · split at h
      · cases h
      · rename_i s3 z hz
        obtain rfl := Option.some.inj h
        have g2 : Gr L.length 0 s1 (if isP L s gColon 0 = true then s1 else (takeP L gRb s1).1) := by
          split
          · exact Gr.refl _ _
          · exact take_gr _
        obtain ⟨g3, i3⟩ := boundE_gd hex hz
        exact (add_gd ..).pre ((((g1.trans g2).trans (need_gr (L := L) gColon)).trans g3).trans (need_gr (L := L) gRb)) (by omega)
theorem postE_gd (hex : GdE L.length ex) (m0 : Nat) (at_ : Int) : ∀ (m : Nat) (s : PS) (x : Int) (r : PS × Int), In s x → postE ex L m0 at_ m s x = some r → Gd L.length 0 s r
  | 0, s, x, r, hx, h => by cases h
  | m + 1, s, x, r, hx, h => by
    unfold postE at h
    simp only at h
    split at h
    · obtain rfl := Option.some.inj h
      exact ⟨Gr.refl _ _, hx⟩
    · rename_i hy
      have g0 := any_yes (L := L) (s := s) (l := [gDot, gLp, gLb]) (by simpa using hy)
      split at h
      · have g1 := name_then (L := L) (add_gr (s := (nameP L (anyP L [gDot, gLp, gLb] s).1).1) 18 at_ (nameP L (anyP L [gDot, gLp, gLb] s).1).2 0 [x]) (by omega)
        exact (postE_gd hex m0 at_ m _ _ _ (add_in ..) h).pre (g0.trans g1) (by omega)
      · split at h
        · split at h
          · cases h
          · rename_i s2 kids hr
            have h4 := rowE_gl hex _ _ _ _ _ (in_snoc (l := []) (fun k hk => by cases hk) (hx.mono g0)) hr
            exact (postE_gd hex m0 at_ m _ _ _ (add_in ..) h).pre ((g0.trans h4.1).trans (add_gr ..)) (by omega)
        · split at h
          · cases h
          · rename_i s2 y hr
            obtain ⟨g1, i1⟩ := indexE_gd hex hr
            exact (postE_gd hex m0 at_ m _ _ _ i1 h).pre (g0.trans g1) (by omega)
theorem postfixE_gd (hex : GdE L.length ex) {m : Nat} {r : PS × Int} (h : postfixE ex L m s = some r) : Gd L.length 0 s r := by
  unfold postfixE at h
  split at h
  · cases h
  · rename_i s1 x he
    obtain ⟨g1, i1⟩ := atomE_gd hex he
    exact (postE_gd hex m _ _ _ _ _ i1 h).pre g1 (by omega)
theorem factorE_gd (hex : GdE L.length ex) (m0 : Nat) : ∀ (m : Nat) (s : PS) (r : PS × Int), factorE ex L m0 m s = some r → Gd L.length 0 s r
  | 0, s, r, h => by cases h
  | m + 1, s, r, h => by
    unfold factorE at h
    simp only at h
    split at h
    · rename_i hy
      split at h
      · cases h
      · rename_i s1 x he
        obtain rfl := Option.some.inj h
        obtain ⟨g1, i1⟩ := factorE_gd hex m0 m _ _ he
        exact (add_gd ..).pre ((take_yes hy).trans g1) (by omega)
    · split at h
      · cases h
      · rename_i s1 x he
        obtain ⟨g1, i1⟩ := postfixE_gd hex he
        have g0 := (take_gr (L := L) (s := s) gMinus).trans g1
        split at h
        · rename_i hy
          split at h
          · cases h
          · rename_i s2 y hf
            obtain rfl := Option.some.inj h
            obtain ⟨g2, i2⟩ := factorE_gd hex m0 m _ _ hf
            exact (add_gd ..).pre ((g0.trans (take_yes hy)).trans g2) (by omega)
        · obtain rfl := Option.some.inj h
          exact ⟨(g0.trans (take_gr _)).weak (by omega), i1.mono (take_gr (L := L) gPow)⟩
theorem leftE_gd {part : Ex} (hp : GdE L.length part) (op : Int) (signs : List ByteArray) : ∀ (m : Nat) (s : PS) (x : Int) (r : PS × Int), In s x → leftE L part op signs m s x = some r → Gd L.length 0 s r
  | 0, s, x, r, hx, h => by cases h
  | m + 1, s, x, r, hx, h => by
    unfold leftE at h
    simp only at h
    split at h
    · obtain rfl := Option.some.inj h
      exact ⟨Gr.refl _ _, hx⟩
    · rename_i hy
      have g0 := any_yes (L := L) (s := s) (l := signs) (by simpa using hy)
      split at h
      · cases h
      · rename_i s1 y he
        obtain ⟨g1, i1⟩ := hp _ _ he
        exact (leftE_gd hp op signs m _ _ _ (add_in ..) h).pre ((g0.trans g1).trans (add_gr ..)) (by omega)
theorem partsE_gd {part : Ex} (hp : GdE L.length part) {op : Int} {signs : List ByteArray} {m : Nat} : GdE L.length (partsE L part op signs m) := by
  intro s r h
  unfold partsE at h
  split at h
  · cases h
  · rename_i s1 x he
    obtain ⟨g1, i1⟩ := hp _ _ he
    exact (leftE_gd hp _ _ _ _ _ _ i1 h).pre g1 (by omega)
theorem termE_gd (hex : GdE L.length ex) (m : Nat) : GdE L.length (termE ex L m) := partsE_gd fun s r h => factorE_gd hex m m s r h
theorem sumE_gd (hex : GdE L.length ex) (m : Nat) : GdE L.length (sumE ex L m) := partsE_gd (termE_gd hex m)
theorem compares_in (h : (compares L s).2 ≠ 0) : s.e = 0 ∧ s.at_ + (compares L s).2 ≤ L.length := by
  have key : ∀ t b, isP L s t b = true → s.e = 0 ∧ s.at_ + b + 1 ≤ L.length := fun t b h => isP_in h
  unfold compares at h ⊢
  repeat' split
  all_goals (first | (rename_i hh; rw [Bool.and_eq_true] at hh; exact key _ _ hh.2) | (rename_i hh; exact key _ 0 hh) | (simp_all))
theorem notE_gd (hex : GdE L.length ex) (m0 : Nat) : ∀ (m : Nat) (s : PS) (r : PS × Int), notE ex L m0 m s = some r → Gd L.length 0 s r
  | 0, s, r, h => by cases h
  | m + 1, s, r, h => by
    unfold notE at h
    simp only at h
    split at h
    · rename_i hy
      split at h
      · cases h
      · rename_i s1 x he
        obtain rfl := Option.some.inj h
        obtain ⟨g1, i1⟩ := notE_gd hex m0 m _ _ he
        exact (add_gd ..).pre ((take_yes hy).trans g1) (by omega)
    · split at h
      · cases h
      · rename_i s1 x he
        obtain ⟨g1, i1⟩ := sumE_gd hex m0 _ _ he
        have g0 := (take_gr (L := L) (s := s) kNot).trans g1
        split at h
        · obtain rfl := Option.some.inj h
          exact ⟨g0.weak (by omega), i1⟩
        · rename_i hn
          have hc := compares_in hn
          split at h
          · cases h
          · rename_i s2 y hf
            obtain ⟨g2, i2⟩ := sumE_gd hex m0 _ _ hf
            have g3 := (g0.trans (step_gr hc.1 hc.2)).trans g2
            have ga := add_gd (L := L) (s := s2) 13 (placeOf s2 x) (compares L s1).1 0 [x, y]
            split at h
            · obtain rfl := Option.some.inj h
              exact ⟨((g3.trans ga.1).trans (fail_gr (.inl rfl) rfl id)).weak (by omega), .inl rfl⟩
            · obtain rfl := Option.some.inj h
              exact ga.pre g3 (by omega)
theorem andE_gd (hex : GdE L.length ex) (m : Nat) : GdE L.length (andE ex L m) := partsE_gd fun s r h => notE_gd hex m m s r h
theorem orE_gd (hex : GdE L.length ex) (m : Nat) : GdE L.length (orE ex L m) := partsE_gd (andE_gd hex m)
theorem paramsE_gl (hex : GdE L.length ex) : ∀ (m : Nat) (s : PS) (out : List Int) (late : Bool) (r : PS × List Int), (∀ k ∈ out, In s k) → paramsE ex L m s out late = some r → Gl L.length 0 s r
  | 0, s, out, late, r, hk, h => by cases h
  | m + 1, s, out, late, r, hk, h => by
    unfold paramsE at h
    simp only at h
    split at h
    · obtain rfl := Option.some.inj h
      exact ⟨Gr.refl _ _, hk⟩
    · generalize hC : (if out = [] then takeP L gColon s else (s, false)) = C at h
      have gc : Gr L.length 0 s C.1 := by
        rw [← hC]
        split
        · exact take_gr _
        · exact Gr.refl _ _
      split at h
      · obtain rfl := Option.some.inj h
        exact ⟨gc, in_all hk gc⟩
      · have gq := (take_gr (L := L) (s := (nameP L C.1).1) gEq)
        split at h
        · split at h
          · cases h
          · rename_i s1 x he
            obtain ⟨g1, i1⟩ := hex _ _ he
            have ga := add_gd (L := L) (s := s1) 22 (tokP L C.1 0).at_ (nameP L C.1).2 0 [x]
            have g2 := gc.trans (name_then (((gq.trans g1).trans ga.1).trans (take_gr (L := L) gComma)) (by omega))
            have hl := in_snoc (in_all hk g2) (ga.2.mono (take_gr (L := L) gComma))
            split at h
            · exact (paramsE_gl hex m _ _ _ _ hl h).pre g2 (by omega)
            · obtain rfl := Option.some.inj h
              exact ⟨(g2.trans (need_gr (L := L) gColon)).weak (by omega), in_all hl (need_gr (L := L) gColon)⟩
        · have gf : Gr L.length 0 (takeP L gEq (nameP L C.1).1).1 (if late = true then failP (takeP L gEq (nameP L C.1).1).1 30 C.1.at_ else (takeP L gEq (nameP L C.1).1).1) := by
            split
            · refine fail_gr (.inl rfl) rfl fun hh => ?_
              have := name_gr (L := L) (s := C.1)
              have h1 := this.up
              have h2 := gq.up
              omega
            · exact Gr.refl _ _
          generalize (if late = true then failP (takeP L gEq (nameP L C.1).1).1 30 C.1.at_ else (takeP L gEq (nameP L C.1).1).1) = s1 at h gf
          have ga := add_gd (L := L) (s := s1) 22 (tokP L C.1 0).at_ (nameP L C.1).2 0 []
          have g2 := gc.trans (name_then (((gq.trans gf).trans ga.1).trans (take_gr (L := L) gComma)) (by omega))
          have hl := in_snoc (in_all hk g2) (ga.2.mono (take_gr (L := L) gComma))
          split at h
          · exact (paramsE_gl hex m _ _ _ _ hl h).pre g2 (by omega)
          · obtain rfl := Option.some.inj h
            exact ⟨(g2.trans (need_gr (L := L) gColon)).weak (by omega), in_all hl (need_gr (L := L) gColon)⟩
theorem exprB_gd (hex : GdE L.length ex) (m : Nat) : GdE L.length (exprB ex L m) := by
  intro s r h
  unfold exprB at h
  simp only at h
  split at h
  · rename_i hy
    split at h
    · cases h
    · rename_i s1 kids he
      split at h
      · cases h
      · rename_i s2 x hx
        obtain rfl := Option.some.inj h
        exact (add_gd ..).pre (((take_yes hy).trans (paramsE_gl hex _ _ _ _ _ (fun k hk => by cases hk) he).1).trans (hex _ _ hx).1) (by omega)
  · split at h
    · cases h
    · rename_i s1 x he
      obtain ⟨g1, i1⟩ := orE_gd hex m _ _ he
      have g0 := (take_gr (L := L) (s := s) kLambda).trans g1
      split at h
      · rename_i hy
        split at h
        · cases h
        · rename_i s2 y hy2
          split at h
          · cases h
          · rename_i s3 z hz
            obtain rfl := Option.some.inj h
            exact (add_gd ..).pre ((((g0.trans (take_yes hy)).trans (orE_gd hex m _ _ hy2).1).trans (need_gr (L := L) kElse)).trans (hex _ _ hz).1) (by omega)
      · obtain rfl := Option.some.inj h
        exact ⟨(g0.trans (take_gr _)).weak (by omega), i1.mono (take_gr (L := L) kIf)⟩
end
theorem exprE_gd (L : List TokD) : ∀ m, GdE L.length (exprE L m)
  | 0 => fun s r h => by cases h
  | m + 1 => exprB_gd (exprE_gd L m) m
end Go.Proofs.YtjdcicopjipmnaaDoor
