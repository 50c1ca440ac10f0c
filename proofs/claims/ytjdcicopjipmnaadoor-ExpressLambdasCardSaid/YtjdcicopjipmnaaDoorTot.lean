/- The plain parser always ends. -/
import Derived.Test.YtjdcicopjipmnaaDoorGrx
namespace Go.Proofs.YtjdcicopjipmnaaDoor
set_option linter.unusedVariables false
set_option linter.unusedSimpArgs false
/-- how much is left to be read -/
def rem (n : Nat) (s : PS) : Nat := if s.e ≠ 0 then 0 else n - s.at_ + 1
theorem rem_gr {n : Nat} {d : Int} {s s' : PS} (g : Gr n d s s') : rem n s' ≤ rem n s := by
  unfold rem
  by_cases h : s.e = 0
  · rw [if_neg (show ¬ s.e ≠ 0 from fun h1 => h1 h)]
    have := g.up
    split <;> omega
  · rw [g.bad h]
    exact Nat.le_refl _
section
variable {L : List TokD} {ex : Ex} {k : Nat}
theorem rem_step {s : PS} {j : Nat} (h : s.e = 0) (hj : 1 ≤ j) (hn : s.at_ + j ≤ L.length) : rem L.length (stepP s j) < rem L.length s := by
  unfold rem stepP
  simp only [h, ne_eq, not_true_eq_false, if_false]
  omega
theorem rem_yes {s : PS} {l : List ByteArray} (h : (anyP L l s).2.2 = true) : rem L.length (anyP L l s).1 < rem L.length s := by
  rcases any_cases (L := L) (s := s) l with ⟨h1, _⟩ | ⟨t, _, h1, h2⟩
  · rw [h1] at h; cases h
  · rw [h2]; exact rem_step (isP_in h1).1 (Nat.le_refl _) (isP_in h1).2
theorem rem_take {s : PS} {t : ByteArray} (h : (takeP L t s).2 = true) : rem L.length (takeP L t s).1 < rem L.length s := rem_yes (l := [t]) h
structure HT (L : List TokD) (ex : Ex) (k : Nat) : Prop where
  g : GdE L.length ex
  t : ∀ s, s.at_ ≤ L.length → rem L.length s < k → ∃ r, ex s = some r
theorem HT.at_ (H : HT L ex k) {s : PS} (h : s.at_ ≤ L.length) (hr : rem L.length s < k) : ∃ s1 x, ex s = some (s1, x) ∧ Gr L.length 0 s s1 := by
  obtain ⟨⟨s1, x⟩, hr⟩ := H.t s h hr
  exact ⟨s1, x, hr, (H.g _ _ hr).1⟩
theorem rowE_tot (H : HT L ex k) (fin : ByteArray) : ∀ (m : Nat) (s : PS) (kids : List Int), s.at_ ≤ L.length → rem L.length s < k → rem L.length s + 1 ≤ m → ∃ r, rowE ex L fin m s kids = some r
  | 0, s, kids, h, hk, hm => by omega
  | m + 1, s, kids, h, hk, hm => by
    unfold rowE
    split
    · exact ⟨_, rfl⟩
    · split
      · exact ⟨_, rfl⟩
      · have g0 := take_gr (L := L) (s := s) fin
        have r0 := rem_gr g0
        try simp only at r0
        obtain ⟨s1, x, he, g1⟩ := H.at_ (g0.le h) (by omega)
        rw [he]
        simp only
        have r1 := rem_gr g1
        try simp only at r1
        split
        · rename_i hy
          have := rem_take hy
          exact rowE_tot H fin m (takeP L gComma s1).1 _ ((take_gr (L := L) _).le (g1.le (g0.le h))) (by omega) (by omega)
        · exact ⟨_, rfl⟩
theorem pairsE_tot (H : HT L ex k) : ∀ (m : Nat) (s : PS) (kids : List Int), s.at_ ≤ L.length → rem L.length s < k → rem L.length s + 1 ≤ m → ∃ r, pairsE ex L m s kids = some r
  | 0, s, kids, h, hk, hm => by omega
  | m + 1, s, kids, h, hk, hm => by
    unfold pairsE
    split
    · exact ⟨_, rfl⟩
    · split
      · exact ⟨_, rfl⟩
      · have g0 := take_gr (L := L) (s := s) gRc
        have r0 := rem_gr g0
        try simp only at r0
        obtain ⟨s1, x, he, g1⟩ := H.at_ (g0.le h) (by omega)
        rw [he]
        simp only
        have r1 := rem_gr g1
        try simp only at r1
        have g2 := need_gr (L := L) (s := s1) gColon
        have r2 := rem_gr g2
        try simp only at r2
        obtain ⟨s2, v, hv, g3⟩ := H.at_ (g2.le (g1.le (g0.le h))) (by omega)
        rw [hv]
        simp only
        have r3 := rem_gr g3
        try simp only at r3
        split
        · rename_i hy
          have := rem_take hy
          exact pairsE_tot H m (takeP L gComma s2).1 _ ((take_gr (L := L) _).le (g3.le (g2.le (g1.le (g0.le h))))) (by omega) (by omega)
        · exact ⟨_, rfl⟩
theorem roundE_tot (H : HT L ex k) {m : Nat} {at_ : Int} {s : PS} (h : s.at_ ≤ L.length) (hk : rem L.length s < k) (hm : rem L.length s + 1 ≤ m) : ∃ r, roundE ex L m at_ s = some r := by
  unfold roundE
  split
  · exact ⟨_, rfl⟩
  · have g0 := take_gr (L := L) (s := s) gRp
    have r0 := rem_gr g0
    try simp only at r0
    obtain ⟨s1, x, he, g1⟩ := H.at_ (g0.le h) (by omega)
    rw [he]
    simp only
    have r1 := rem_gr g1
    try simp only at r1
    split
    · exact ⟨_, rfl⟩
    · have g2 := (take_gr (L := L) (s := s1) gRp).trans (need_gr (L := L) gComma)
      have r2 := rem_gr g2
      try simp only at r2
      obtain ⟨⟨s2, kids⟩, hr⟩ := rowE_tot H gRp m _ [x] (g2.le (g1.le (g0.le h))) (by omega) (by omega)
      rw [hr]
      exact ⟨_, rfl⟩
theorem atomE_tot (H : HT L ex k) {m : Nat} {s : PS} (h : s.at_ ≤ L.length) (hk : rem L.length s ≤ k) (hm : rem L.length s + 1 ≤ m) : ∃ r, atomE ex L m s = some r := by
  unfold atomE
  simp only
  split
  · exact ⟨_, rfl⟩
  split
  · exact ⟨_, rfl⟩
  split
  · split
    · exact ⟨_, rfl⟩
    · split
      · exact ⟨_, rfl⟩
      · exact ⟨_, rfl⟩
  split
  · rename_i _ _ _ hk4
    have h1 := tokP_in (L := L) (s := s) (b := 0) (by rw [hk4]; decide)
    have r0 := rem_step (L := L) (j := 1) h1.1 (Nat.le_refl _) h1.2
    have hl : (stepP s 1).at_ ≤ L.length := h1.2
    split
    · exact roundE_tot H hl (by omega) (by omega)
    · split
      · obtain ⟨⟨s2, kids⟩, hr⟩ := rowE_tot H gRb m _ [] hl (by omega) (by omega)
        rw [hr]
        exact ⟨_, rfl⟩
      · split
        · obtain ⟨⟨s2, kids⟩, hr⟩ := pairsE_tot H m _ [] hl (by omega) (by omega)
          rw [hr]
          exact ⟨_, rfl⟩
        · exact ⟨_, rfl⟩
  · exact ⟨_, rfl⟩
theorem boundE_tot (H : HT L ex k) {fin : ByteArray} {s : PS} (h : s.at_ ≤ L.length) (hk : rem L.length s < k) : ∃ r, boundE ex L fin s = some r := by
  unfold boundE
  split
  · exact ⟨_, rfl⟩
  · exact H.t s h hk
theorem indexE_tot (H : HT L ex k) {x at_ : Int} {s : PS} (h : s.at_ ≤ L.length) (hk : rem L.length s < k) : ∃ r, indexE ex L x at_ s = some r := by
  unfold indexE
  simp only
  obtain ⟨⟨s1, y⟩, he⟩ := boundE_tot H (fin := gColon) h hk
  rw [he]
  simp only
  obtain ⟨g1, _⟩ := boundE_gd H.g he
  split
  · exact ⟨_, rfl⟩
  · have g2 : Gr L.length 0 s1 (if isP L s gColon 0 = true then s1 else (takeP L gRb s1).1) := by
      split
      · exact Gr.refl _ _
      · exact take_gr _
    have g3 := (g1.trans g2).trans (need_gr (L := L) gColon)
    have r3 := rem_gr g3
    try simp only at r3
    obtain ⟨⟨s3, z⟩, hz⟩ := boundE_tot H (fin := gRb) (g3.le h) (by omega)
    rw [hz]
    exact ⟨_, rfl⟩
theorem postE_tot (H : HT L ex k) {m0 : Nat} (h0 : k + 1 ≤ m0) (at_ : Int) : ∀ (m : Nat) (s : PS) (x : Int), In s x → s.at_ ≤ L.length → rem L.length s ≤ k → rem L.length s + 1 ≤ m → ∃ r, postE ex L m0 at_ m s x = some r
  | 0, s, x, hx, h, hk, hm => by omega
  | m + 1, s, x, hx, h, hk, hm => by
    unfold postE
    simp only
    split
    · exact ⟨_, rfl⟩
    · rename_i hy
      have hy : (anyP L [gDot, gLp, gLb] s).2.2 = true := by simpa using hy
      have g0 := any_yes hy
      have r0 := rem_yes hy
      split
      · have g1 := name_gr (L := L) (s := (anyP L [gDot, gLp, gLb] s).1)
        have g2 := g1.trans (add_gr 18 at_ (nameP L (anyP L [gDot, gLp, gLb] s).1).2 0 [x])
        have r2 := rem_gr g2
        try simp only at r2
        exact postE_tot H h0 at_ m _ _ (add_in ..) (g2.le (g0.le h)) (by omega) (by omega)
      · split
        · obtain ⟨⟨s2, kids⟩, hr⟩ := rowE_tot H gRp m0 _ [x] (g0.le h) (by omega) (by omega)
          rw [hr]
          simp only
          have g1 := (rowE_gl H.g _ _ _ _ _ (in_snoc (l := []) (fun k hk => by cases hk) (hx.mono g0)) hr).1.trans (add_gr (L := L) 17 at_ ⟨#[]⟩ 0 kids)
          have r1 := rem_gr g1
          try simp only at r1
          exact postE_tot H h0 at_ m _ _ (add_in ..) (g1.le (g0.le h)) (by omega) (by omega)
        · obtain ⟨⟨s2, y⟩, hr⟩ := indexE_tot H (x := x) (at_ := at_) (g0.le h) (by omega)
          rw [hr]
          simp only
          obtain ⟨g1, i1⟩ := indexE_gd H.g hr
          have r1 := rem_gr g1
          try simp only at r1
          exact postE_tot H h0 at_ m _ _ i1 (g1.le (g0.le h)) (by omega) (by omega)
theorem postfixE_tot (H : HT L ex k) {m : Nat} {s : PS} (h : s.at_ ≤ L.length) (hk : rem L.length s ≤ k) (hm : k + 1 ≤ m) : ∃ r, postfixE ex L m s = some r := by
  unfold postfixE
  obtain ⟨⟨s1, x⟩, he⟩ := atomE_tot H (m := m) h hk (by omega)
  rw [he]
  simp only
  obtain ⟨g1, i1⟩ := atomE_gd H.g he
  have r1 := rem_gr g1
  try simp only at r1
  exact postE_tot H hm _ _ _ _ i1 (g1.le h) (by omega) (by omega)
theorem factorE_tot (H : HT L ex k) {m0 : Nat} (h0 : k + 1 ≤ m0) : ∀ (m : Nat) (s : PS), s.at_ ≤ L.length → rem L.length s ≤ k → rem L.length s + 1 ≤ m → ∃ r, factorE ex L m0 m s = some r
  | 0, s, h, hk, hm => by omega
  | m + 1, s, h, hk, hm => by
    unfold factorE
    simp only
    split
    · rename_i hy
      have r0 := rem_take hy
      obtain ⟨⟨s1, x⟩, he⟩ := factorE_tot H h0 m (takeP L gMinus s).1 ((take_gr (L := L) _).le h) (by omega) (by omega)
      rw [he]
      exact ⟨_, rfl⟩
    · have g0 := take_gr (L := L) (s := s) gMinus
      have r0 := rem_gr g0
      try simp only at r0
      obtain ⟨⟨s1, x⟩, he⟩ := postfixE_tot H (m := m0) (g0.le h) (by omega) h0
      rw [he]
      simp only
      obtain ⟨g1, i1⟩ := postfixE_gd H.g he
      have r1 := rem_gr g1
      try simp only at r1
      split
      · rename_i hy
        have r2 := rem_take hy
        obtain ⟨⟨s2, y⟩, hf⟩ := factorE_tot H h0 m (takeP L gPow s1).1 ((take_gr (L := L) _).le (g1.le (g0.le h))) (by omega) (by omega)
        rw [hf]
        exact ⟨_, rfl⟩
      · exact ⟨_, rfl⟩
/-- a part that is total from states with so much left -/
structure PT (L : List TokD) (part : Ex) (k : Nat) : Prop where
  g : GdE L.length part
  t : ∀ s, s.at_ ≤ L.length → rem L.length s ≤ k → ∃ r, part s = some r
theorem leftE_tot {part : Ex} (H : PT L part k) (op : Int) (signs : List ByteArray) : ∀ (m : Nat) (s : PS) (x : Int), In s x → s.at_ ≤ L.length → rem L.length s ≤ k → rem L.length s + 1 ≤ m → ∃ r, leftE L part op signs m s x = some r
  | 0, s, x, hx, h, hk, hm => by omega
  | m + 1, s, x, hx, h, hk, hm => by
    unfold leftE
    simp only
    split
    · exact ⟨_, rfl⟩
    · rename_i hy
      have hy : (anyP L signs s).2.2 = true := by simpa using hy
      have g0 := any_yes hy
      have r0 := rem_yes hy
      obtain ⟨⟨s1, y⟩, he⟩ := H.t _ (g0.le h) (by omega)
      rw [he]
      simp only
      obtain ⟨g1, i1⟩ := H.g _ _ he
      have g2 := g1.trans (add_gr (L := L) op (placeOf s1 x) (if op = 12 then (anyP L signs s).2.1 else ⟨#[]⟩) 0 [x, y])
      have r2 := rem_gr g2
      try simp only at r2
      exact leftE_tot H op signs m _ _ (add_in ..) (g2.le (g0.le h)) (by omega) (by omega)
theorem partsE_tot {part : Ex} (H : PT L part k) {op : Int} {signs : List ByteArray} {m : Nat} (hm : k + 1 ≤ m) : PT L (partsE L part op signs m) k := by
  refine ⟨partsE_gd H.g, fun s h hk => ?_⟩
  unfold partsE
  obtain ⟨⟨s1, x⟩, he⟩ := H.t s h hk
  rw [he]
  simp only
  obtain ⟨g1, i1⟩ := H.g _ _ he
  have r1 := rem_gr g1
  try simp only at r1
  exact leftE_tot H op signs m _ _ i1 (g1.le h) (by omega) (by omega)
theorem sumE_tot (H : HT L ex k) {m : Nat} (hm : k + 1 ≤ m) : PT L (sumE ex L m) k :=
  partsE_tot (partsE_tot (part := factorE ex L m m) ⟨fun s r h => factorE_gd H.g m m s r h, fun s h hk => factorE_tot H hm m s h hk (by omega)⟩ hm) hm
theorem notE_tot (H : HT L ex k) {m0 : Nat} (h0 : k + 1 ≤ m0) : ∀ (m : Nat) (s : PS), s.at_ ≤ L.length → rem L.length s ≤ k → rem L.length s + 1 ≤ m → ∃ r, notE ex L m0 m s = some r
  | 0, s, h, hk, hm => by omega
  | m + 1, s, h, hk, hm => by
    unfold notE
    simp only
    split
    · rename_i hy
      have r0 := rem_take hy
      obtain ⟨⟨s1, x⟩, he⟩ := notE_tot H h0 m (takeP L kNot s).1 ((take_gr (L := L) _).le h) (by omega) (by omega)
      rw [he]
      exact ⟨_, rfl⟩
    · have g0 := take_gr (L := L) (s := s) kNot
      have r0 := rem_gr g0
      try simp only at r0
      obtain ⟨⟨s1, x⟩, he⟩ := (sumE_tot H h0).t _ (g0.le h) (by omega)
      rw [he]
      simp only
      obtain ⟨g1, i1⟩ := sumE_gd H.g m0 _ _ he
      have r1 := rem_gr g1
      try simp only at r1
      split
      · exact ⟨_, rfl⟩
      · rename_i hn
        have hc := compares_in hn
        have g2 := step_gr hc.1 hc.2
        have r2 := rem_gr g2
        try simp only at r2
        obtain ⟨⟨s2, y⟩, hf⟩ := (sumE_tot H h0).t _ (g2.le (g1.le (g0.le h))) (by omega)
        rw [hf]
        simp only
        split
        · exact ⟨_, rfl⟩
        · exact ⟨_, rfl⟩
theorem orE_tot (H : HT L ex k) {m : Nat} (hm : k + 1 ≤ m) : PT L (orE ex L m) k :=
  partsE_tot (partsE_tot (part := notE ex L m m) ⟨fun s r h => notE_gd H.g m m s r h, fun s h hk => notE_tot H hm m s h hk (by omega)⟩ hm) hm
theorem paramsE_tot (H : HT L ex k) : ∀ (m : Nat) (s : PS) (out : List Int) (late : Bool), (∀ k ∈ out, In s k) → s.at_ ≤ L.length → rem L.length s < k → rem L.length s + 1 ≤ m → ∃ r, paramsE ex L m s out late = some r
  | 0, s, out, late, ho, h, hk, hm => by omega
  | m + 1, s, out, late, ho, h, hk, hm => by
    unfold paramsE
    simp only
    split
    · exact ⟨_, rfl⟩
    · generalize hC : (if out = [] then takeP L gColon s else (s, false)) = C
      have gc : Gr L.length 0 s C.1 := by
        rw [← hC]
        split
        · exact take_gr _
        · exact Gr.refl _ _
      split
      · exact ⟨_, rfl⟩
      · have gq := (take_gr (L := L) (s := (nameP L C.1).1) gEq)
        have g0 := (gc.trans (name_gr (L := L))).trans gq
        have r0 := rem_gr g0
        try simp only at r0
        split
        · obtain ⟨s1, x, he, g1⟩ := H.at_ (g0.le h) (by omega)
          rw [he]
          simp only
          have ga := add_gd (L := L) (s := s1) 22 (tokP L C.1 0).at_ (nameP L C.1).2 0 [x]
          have g2 := g1.trans ga.1
          have r2 := rem_gr g2
          try simp only at r2
          have i1 := (H.g _ _ he).2
          split
          · rename_i hy
            have r3 := rem_take hy
            have g3 := (g0.trans g2).trans (take_gr (L := L) gComma)
            exact paramsE_tot H m _ _ _ (in_snoc (in_all ho g3) (ga.2.mono (take_gr (L := L) gComma))) (g3.le h) (by omega) (by omega)
          · exact ⟨_, rfl⟩
        · have gf : Gr L.length 0 (takeP L gEq (nameP L C.1).1).1 (if late = true then failP (takeP L gEq (nameP L C.1).1).1 30 C.1.at_ else (takeP L gEq (nameP L C.1).1).1) := by
            split
            · refine fail_gr (.inl rfl) rfl fun hh => ?_
              have := name_gr (L := L) (s := C.1)
              have h1 := this.up
              have h2 := gq.up
              omega
            · exact Gr.refl _ _
          generalize (if late = true then failP (takeP L gEq (nameP L C.1).1).1 30 C.1.at_ else (takeP L gEq (nameP L C.1).1).1) = s1 at gf ⊢
          have ga := add_gd (L := L) (s := s1) 22 (tokP L C.1 0).at_ (nameP L C.1).2 0 []
          have g2 := gf.trans ga.1
          have r2 := rem_gr g2
          try simp only at r2
          split
          · rename_i hy
            have r3 := rem_take hy
            have g3 := (g0.trans g2).trans (take_gr (L := L) gComma)
            exact paramsE_tot H m _ _ _ (in_snoc (in_all ho g3) (ga.2.mono (take_gr (L := L) gComma))) (g3.le h) (by omega) (by omega)
          · exact ⟨_, rfl⟩
theorem exprB_tot (H : HT L ex k) {m : Nat} (hm : k + 1 ≤ m) {s : PS} (h : s.at_ ≤ L.length) (hk : rem L.length s ≤ k) : ∃ r, exprB ex L m s = some r := by
  unfold exprB
  simp only
  split
  · rename_i hy
    have r0 := rem_take hy
    have g0 := take_gr (L := L) (s := s) kLambda
    obtain ⟨⟨s1, kids⟩, he⟩ := paramsE_tot H m (takeP L kLambda s).1 [] false (fun k hk => by cases hk) (g0.le h) (by omega) (by omega)
    rw [he]
    simp only
    have g1 := (paramsE_gl H.g _ _ _ _ _ (fun k hk => by cases hk) he).1
    have r1 := rem_gr g1
    try simp only at r1
    obtain ⟨s2, x, hx, g2⟩ := H.at_ (s := s1) (g1.le (g0.le h)) (by omega)
    rw [hx]
    exact ⟨_, rfl⟩
  · have g0 := take_gr (L := L) (s := s) kLambda
    have r0 := rem_gr g0
    try simp only at r0
    obtain ⟨⟨s1, x⟩, he⟩ := (orE_tot H hm).t _ (g0.le h) (by omega)
    rw [he]
    simp only
    have g1 := (orE_gd H.g m _ _ he).1
    have r1 := rem_gr g1
    try simp only at r1
    split
    · rename_i hy
      have r2 := rem_take hy
      have g2 := take_gr (L := L) (s := s1) kIf
      obtain ⟨⟨s2, y⟩, hy2⟩ := (orE_tot H hm).t _ (g2.le (g1.le (g0.le h))) (by omega)
      rw [hy2]
      simp only
      have g3 := (orE_gd H.g m _ _ hy2).1.trans (need_gr (L := L) kElse)
      have r3 := rem_gr g3
      try simp only at r3
      obtain ⟨s3, z, hz, g4⟩ := H.at_ (s := needP L kElse s2) (g3.le (g2.le (g1.le (g0.le h)))) (by omega)
      rw [hz]
      exact ⟨_, rfl⟩
    · exact ⟨_, rfl⟩
end
theorem exprE_tot (L : List TokD) : ∀ (m : Nat) (s : PS), s.at_ ≤ L.length → rem L.length s + 2 ≤ m → ∃ r, exprE L m s = some r
  | 0, s, h, hm => by omega
  | m + 1, s, h, hm => exprB_tot (k := rem L.length s) ⟨exprE_gd L m, fun s1 h1 hr => exprE_tot L m s1 h1 (by omega)⟩ (by omega) h (Nat.le_refl _)
/-- it always ends -/
theorem exprE_start (L : List TokD) : ∃ r, exprE L (L.length + 3) startS = some r := exprE_tot L _ _ (Nat.zero_le _) (by unfold rem startS; simp)
end Go.Proofs.YtjdcicopjipmnaaDoor
