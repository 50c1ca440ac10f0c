/- CodeJoins: the walk. -/
import Derived.Test.YtcfelfhjhkenaaaDoorLCu
namespace Go.Proofs.YtcfelfhjhkenaaaDoor
open Go.RowKit
set_option linter.unusedVariables false
set_option linter.unusedSimpArgs false
attribute [local go_sem] Oper.semAt_some

theorem seqE_app {α : Type} {f : α → Res} : ∀ {l r : List α} {a b : List UInt8}, seqE f l = .ok a → seqE f r = .ok b → seqE f (l ++ r) = .ok (a ++ b)
  | [], r, a, b, h, g => by cases h; simpa using g
  | x :: l, r, a, b, h, g => by
    rw [seqE_cons] at h
    obtain ⟨a1, a2, h1, h2, rfl⟩ := andE_ok.1 h
    rw [List.cons_append, seqE_cons, List.append_assoc]
    exact andE_ok.2 ⟨a1, a2 ++ b, h1, seqE_app h2 g, rfl⟩
theorem countE_small {n : Nat} (h : n ≤ 100) : countE (n : Int) 1000 = .ok [UInt8.ofNat n] := by
  unfold countE numE
  rw [if_pos (by omega), if_pos (by omega), Int.toNat_natCast, numB_lo (by omega)]
theorem encE_small {p : List CodeD} {a : List UInt8} (h : encE p = .ok a) (hp : p.length ≤ 100) : ∃ x, seqE codeE p = .ok x ∧ a = headB ++ ([UInt8.ofNat p.length] ++ x) := by
  obtain ⟨a1, a2, h1, h2, rfl⟩ := andE_ok.1 h
  cases h1
  obtain ⟨a3, a4, h3, h4, rfl⟩ := andE_ok.1 h2
  rw [countE_small hp] at h3
  cases h3
  exact ⟨a4, h4, rfl⟩
theorem encE_join {p q : List CodeD} {x y : List UInt8} (hx : seqE codeE p = .ok x) (hy : seqE codeE q = .ok y) (h : (p ++ q).length ≤ 100) : encE (p ++ q) = .ok (headB ++ ([UInt8.ofNat (p ++ q).length] ++ (x ++ y))) :=
  andE_ok.2 ⟨_, _, rfl, andE_ok.2 ⟨_, _, countE_small h, seqE_app hx hy, rfl⟩, rfl⟩
def ProgC (w : World) (p : List CodeD) (css : List (List Value)) : Prop :=
  css.length = p.length ∧ (∀ cs ∈ css, cs.length = 11) ∧ ∀ (i : Nat) (x : CodeD) (cs : List Value), p[i]? = some x → css[i]? = some cs → CodeAt w x cs
theorem ProgC.new {w w' : World} {p : List CodeD} {css : List (List Value)} (h : ProgC w p css) (hb : Below w.heap.size w w') : ProgC w' p css :=
  ⟨h.1, h.2.1, fun i x cs hx hc => (h.2.2 i x cs hx hc).new hb⟩
theorem ProgC.app {w : World} {p q : List CodeD} {css dss : List (List Value)} (h : ProgC w p css) (g : ProgC w q dss) : ProgC w (p ++ q) (css ++ dss) := by
  refine ⟨by rw [List.length_append, List.length_append, h.1, g.1], fun cs hc => (List.mem_append.1 hc).elim (h.2.1 cs) (g.2.1 cs), fun i x cs hx hc => ?_⟩
  by_cases hi : i < p.length
  · rw [List.getElem?_append_left hi] at hx
    rw [List.getElem?_append_left (by rw [h.1]; exact hi)] at hc
    exact h.2.2 i x cs hx hc
  · rw [List.getElem?_append_right (by omega)] at hx
    rw [List.getElem?_append_right (by rw [h.1]; omega), h.1] at hc
    exact g.2.2 _ x cs hx hc
theorem ProgAt.css {w : World} {A : Option Addr} {n c : Nat} {p : List CodeD} (h : ProgAt w A n c p) : p.length = n ∧ ∃ css, ProgC w p css ∧ Rd w A n c 11 (css.flatMap id) := by
  obtain ⟨h1, css, h2, h3, h4, h5⟩ := h
  exact ⟨h1, css, ⟨by omega, h3, h4⟩, h5⟩
theorem ProgC.prog {w : World} {p : List CodeD} {css : List (List Value)} (h : ProgC w p css) {A : Option Addr} {c : Nat} (hr : Rd w A p.length c 11 (css.flatMap id)) : ProgAt w A p.length c p :=
  ⟨rfl, css, h.1, h.2.1, h.2.2, hr⟩
theorem at_oneCell {w : World} {c : CodeD} {cs : List Value} (h : CodeAt w c cs) : ∀ u ∈ cs, u.oneCell' = true := by
  obtain ⟨A1, n1, c1, A2, n2, c2, A3, n3, c3, A4, n4, c4, A5, n5, c5, A6, n6, c6, rfl, -⟩ := h.parts
  simp [Value.oneCell']
theorem ProgC.oneCell {w : World} {p : List CodeD} {css : List (List Value)} (h : ProgC w p css) : ∀ u ∈ css.flatMap id, u.oneCell' = true := by
  intro u hu
  obtain ⟨cs, hc, hu⟩ := List.mem_flatMap.1 hu
  obtain ⟨i, hi, rfl⟩ := List.getElem_of_mem hc
  exact at_oneCell (h.2.2 i _ _ (List.getElem?_eq_getElem (by have := h.1; omega)) (List.getElem?_eq_getElem hi)) u hu
/-- Encode's letters, as the tests ask them -/
theorem EncR.cases {p : List CodeD} {s : ByteArray} {x : Int} (h : EncR p s x) : (x = 0 ∧ 7 ≤ s.size ∧ s.size ≤ 1900000000011 ∧ ∃ a, encE p = .ok a ∧ s = bstr a) ∨ (x ≠ 0 ∧ s.size < 7) := by
  rcases h with ⟨a, h1, h2, h3⟩ | ⟨y, h1, h2, h3, h4⟩
  · have := encE_len h1
    rw [h2, bstr_size]
    exact .inl ⟨h3, this.1, this.2, a, h1, rfl⟩
  · rw [h2]
    exact .inr ⟨by omega, by decide⟩

set_option maxRecDepth 100000 in
set_option maxHeartbeats 8000000 in
theorem joins_any {w : World} (ht : Tabs w) {A B : Option Addr} {n c m d : Nat} {p q : List CodeD} (hp : ProgAt w A n c p) (hq : ProgAt w B m d q) :
    Calls Tryd.prog 4 #[.slice A n c, .slice B m d] w (True_ w) := by
  have HT := Lib.hid ht
  have HP := Lib.hid hp
  have HQ := Lib.hid hq
  clear ht hp hq
  go_enter Tryd.func4, Tryd.ntmps4
  go_wp2_with fail
  refine (encode_in w HP.out).mono ?_
  rintro e w1 ⟨⟨s, x, rfl, hr1⟩, hb1⟩
  have R1 := Lib.hid hr1.cases
  have B1 := Lib.hid hb1
  clear hr1 hb1
  go_wp2_with fail
  refine (encode_in w1 (HQ.out.new B1.out)).mono ?_
  rintro e w2 ⟨⟨t, y, rfl, hr2⟩, hb2⟩
  have R2 := Lib.hid hr2.cases
  have B2 := Lib.hid (B1.out.trans (hb2.mono B1.out.size))
  clear hr2 hb2 B1
  rcases R1.out with hx | hx
  · rcases R2.out with hy | hy
    · clear R1 R2
      obtain ⟨rfl, hs7, hsu, HEs⟩ := hx
      have HEs := Lib.hid HEs
      have hs1 : decide (s.size < 7) = false := decide_eq_false (by omega)
      have hs2 : decide ((s.size : Int) < 7) = false := decide_eq_false (by omega)
      have hs3 : decide (7 ≤ s.size) = true := decide_eq_true (by omega)
      have hs4 : decide ((7 : Int) ≤ (s.size : Int)) = true := decide_eq_true (by omega)
      obtain ⟨rfl, ht7, htu, HEt⟩ := hy
      have HEt := Lib.hid HEt
      have ht1 : decide (t.size < 7) = false := decide_eq_false (by omega)
      have ht2 : decide ((t.size : Int) < 7) = false := decide_eq_false (by omega)
      have ht3 : decide (7 ≤ t.size) = true := decide_eq_true (by omega)
      have ht4 : decide ((7 : Int) ≤ (t.size : Int)) = true := decide_eq_true (by omega)
      rcases Classical.em (bigP p) with bp | bp
      · go_wp2_with fail
        refine (big_yes (HP.out.new B2.out) bp).mono ?_
        rintro e w3 ⟨rfl, hb3⟩
        have B3 := Lib.hid (B2.out.trans (hb3.mono B2.out.size))
        clear hb3 bp
        go_wp2_with fail
        refine (laid_any w3 (HT.out.below B3.out)).mono ?_
        rintro e w9 ⟨rfl, hb9⟩
        have B9 := Lib.hid (B3.out.trans (hb9.mono B3.out.size))
        clear hb9
        go_wp2_with fail
        go_ret
        exact ⟨rfl, B9.out⟩
      go_wp2_with fail
      refine (big_no (HP.out.new B2.out) bp).mono ?_
      rintro e w3 ⟨rfl, hb3⟩
      have B3 := Lib.hid (B2.out.trans (hb3.mono B2.out.size))
      have hn : n ≤ 1100 := by
        have h1 := HP.out.1
        have h2 : ¬ 1100 < p.length := fun h => bp (.inl h)
        omega
      clear hb3 bp
      rcases Classical.em (bigP q) with bq | bq
      · go_wp2_with fail
        refine (big_yes (HQ.out.new B3.out) bq).mono ?_
        rintro e w4 ⟨rfl, hb4⟩
        have B4 := Lib.hid (B3.out.trans (hb4.mono B3.out.size))
        clear hb4 bq
        go_wp2_with fail
        refine (laid_any w4 (HT.out.below B4.out)).mono ?_
        rintro e w9 ⟨rfl, hb9⟩
        have B9 := Lib.hid (B4.out.trans (hb9.mono B4.out.size))
        clear hb9
        go_wp2_with fail
        go_ret
        exact ⟨rfl, B9.out⟩
      go_wp2_with fail
      refine (big_no (HQ.out.new B3.out) bq).mono ?_
      rintro e w4 ⟨rfl, hb4⟩
      have B4 := Lib.hid (B3.out.trans (hb4.mono B3.out.size))
      have hm : m ≤ 1100 := by
        have h1 := HQ.out.1
        have h2 : ¬ 1100 < q.length := fun h => bq (.inl h)
        omega
      clear hb4 bq
      by_cases hk : 100 < n + m
      · have hk1 : decide (100 < n + m) = true := decide_eq_true hk
        have hk2 : decide ((100 : Int) < (n : Int) + (m : Int)) = true := decide_eq_true (by omega)
        go_wp2_with fail
        refine (laid_any w4 (HT.out.below B4.out)).mono ?_
        rintro e w9 ⟨rfl, hb9⟩
        have B9 := Lib.hid (B4.out.trans (hb9.mono B4.out.size))
        clear hb9
        go_wp2_with fail
        go_ret
        exact ⟨rfl, B9.out⟩
      have hk1 : decide (100 < n + m) = false := decide_eq_false hk
      have hk2 : decide ((100 : Int) < (n : Int) + (m : Int)) = false := decide_eq_false (by omega)
      have hk3 : decide (100 < n) = false := decide_eq_false (by omega)
      have hk4 : decide ((100 : Int) < (n : Int)) = false := decide_eq_false (by omega)
      have hk5 : decide (100 < m) = false := decide_eq_false (by omega)
      have hk6 : decide ((100 : Int) < (m : Int)) = false := decide_eq_false (by omega)
      obtain ⟨hpn, css, hc1, hr1⟩ := HP.out.css
      obtain ⟨hqm, dss, hc2, hr2⟩ := HQ.out.css
      subst hpn
      subst hqm
      obtain ⟨bs, eb1, eb2⟩ := HEs.out
      obtain ⟨bt, et1, et2⟩ := HEt.out
      obtain ⟨xs, sx, rfl⟩ := encE_small eb1 (by omega)
      obtain ⟨ys, sy, rfl⟩ := encE_small et1 (by omega)
      obtain ⟨u, hu⟩ : ∃ u, u = bstr (headB ++ ([UInt8.ofNat (p ++ q).length] ++ (xs ++ ys))) := ⟨_, rfl⟩
      have KE : Hid (∀ w A n c, ProgAt w A n c (p ++ q) → Calls Tryd.prog 11 #[.slice A n c] w fun e w' => e = .returned (.tuple #[.string u, .int .i64 0]) ∧ Below w.heap.size w w') := Lib.hid fun w A n c h => (encode_any w h).mono fun e w' ⟨h1, h2⟩ => ⟨by
        rw [h2, encE_join sx sy (by rw [List.length_append]; omega), hu], h1⟩
      have HU := Lib.hid hu
      have HS := Lib.hid eb2
      have HTT := Lib.hid et2
      have b4 := B4.out
      have hsz4 := b4.size
      obtain ⟨i0, hi, hz0, hz1, hz2⟩ := info_parts info_C
      have bE : Below w.heap.size w (w4.alloc (.cells #[] 49)) := b4.alloc (by omega) _
      have HB5 := Lib.hid bE
      have HC1 := Lib.hid hc1
      have HC2 := Lib.hid hc2
      have HR1 := Lib.hid hr1
      have HR2 := Lib.hid hr2
      have HI := Lib.hid (And.intro hi (And.intro hz0 (And.intro hz1 hz2)))
      clear hi hz0 hz1 hz2 hc1 hc2 hr1 hr2 bE b4 hu eb1 eb2 et1 et2 sx sy HEs HEt
      go_wp2_with (at_builtin; first
        | (refine wpList_append_Own _ rfl (.tmp 84) (.tmp 85) 23 rfl 49 i0 _ 11 192 Tryd.underlying23 HI.out.1 HI.out.2.1 HI.out.2.2.1 HI.out.2.2.2 rfl (.slice (some ⟨w4.heap.size, 0, none⟩) 0 0) 0 [] rfl (Own.made w4 #[] 0 (by omega) rfl) A p.length c (css.flatMap id) rfl (HR1.out.new HB5.out) HC1.out.oneCell (by omega) (by omega) ?_; intro v6 w6 ho6 hg6 hv6; rw [Nat.zero_add, List.nil_append] at ho6; obtain ⟨A6, c6, rfl, -, -⟩ := ho6.rd; have b6 : Below w.heap.size w w6 := HB5.out.grown hg6 (by have := HB5.out.size; omega) (fun k hk => by cases hk; omega); have b6b : ∀ k, (Value.slice A6 p.length c6).ownBlock = some k → w.heap.size ≤ k := (fun k hk => by rcases hv6 with h | h <;> rw [h] at hk <;> cases hk <;> simp <;> omega); have HO6 := Lib.hid ho6; have HB6 := Lib.hid b6; have HV6 := Lib.hid b6b; clear ho6 hg6 b6 hv6 b6b)
        | (refine wpList_append_Own _ rfl (.tmp 87) (.tmp 88) 23 rfl 49 i0 _ 11 192 Tryd.underlying23 HI.out.1 HI.out.2.1 HI.out.2.2.1 HI.out.2.2.2 rfl (.slice A6 p.length c6) p.length (css.flatMap id) rfl HO6.out B q.length d (dss.flatMap id) rfl (HR2.out.new HB6.out) HC2.out.oneCell (by omega) (by omega) ?_; intro v7 w7 ho7 hg7 hv7; obtain ⟨A7, c7, rfl, r7, -⟩ := ho7.rd; have b7 : Below w.heap.size w w7 := HB6.out.grown hg7 HB6.out.size HV6.out; have p7 : ProgAt w7 A7 (p ++ q).length c7 (p ++ q) := ProgC.prog ((HC1.out.app HC2.out).new b7) (by rw [List.length_append, List.flatMap_append]; exact r7); rw [List.length_append] at p7; have HO7 := Lib.hid p7; have HB7 := Lib.hid b7; clear ho7 hg7 b7 hv7 p7 r7))
      refine (KE.out _ _ _ _ HO7.out).mono ?_
      rintro e w8 ⟨rfl, hb8⟩
      have B8 := Lib.hid (HB7.out.trans (hb8.mono HB7.out.size))
      clear hb8
      have KL : Hid (∀ w', Below w8.heap.size w8 w' → Calls Tryd.prog 13 #[] w' fun e w'' => e = .returned (.bool true) ∧ Below w'.heap.size w' w'') := Lib.hid fun w' hw => laid_any w' (HT.out.below (B8.out.trans (hw.mono B8.out.size)))
      have HD : Hid (Below w8.heap.size w8 w8.drew) := Lib.hid (by repeat (first | exact Below.refl _ _ | assumption | refine Below.setCell ?_ (by first | (simp; done) | (simp; omega) | omega) _ | refine below_drewN ?_ _ | refine Below.drew ?_ | refine Below.alloc ?_ (by first | (simp; done) | (simp; omega) | omega) _))
      have hz8 := B8.out.size
      have k1 : decide (6 ≤ s.size) = true := decide_eq_true (by omega)
      have k2 : decide (7 ≤ t.size) = true := decide_eq_true (by omega)
      go_wp2_with fail
      refine wp_region_any (by kernel_rfl) ?_
      (try (change wpAny _ _ _ _ _ _ _ (World.drew _)))
      refine wpAny_ready (rs := [0]) (by kernel_rfl) (by simp) ?_
      refine AllReady.cons rfl (fun K hK => ?_) AllReady.nil
      go_simp
      (with_reducible refine (KL.out _ HD.out).mono ?_)
      rintro e w9 ⟨rfl, hb9⟩
      have B9 := Lib.hid (B8.out.trans ((HD.out.trans hb9).mono hz8))
      clear hb9
      go_simp
      refine hK _ _ ?_
      clear hK K
      have k3 : (6 : Int) ≤ (s.size : Int) := by omega
      have k4 : (7 : Int) ≤ (s.size : Int) := by omega
      have k5 : (7 : Int) ≤ (t.size : Int) := by omega
      obtain ⟨y, hy⟩ : ∃ y : UInt8, y = UInt8.ofNat (p.length + q.length) := ⟨_, rfl⟩
      have hyw : IntKind.u8.wrap ((p.length : Int) + (q.length : Int)) = (y.toNat : Int) := by
        have e1 : IntKind.u8.wrap ((p.length : Int) + (q.length : Int)) = ((p.length : Int) + (q.length : Int)) % 256 := by simp [IntKind.wrap, IntKind.bits, IntKind.signed]
        have e2 : y.toNat = (p.length + q.length) % 256 := by rw [hy]; simp
        rw [e1, e2]
        omega
      have HY := Lib.hid hy
      clear hy
      obtain ⟨Y, hY⟩ : ∃ Y, Y = bstr [y] := ⟨_, rfl⟩
      have hYs : Y.size = 1 := by rw [hY, bstr_size]; rfl
      have kc : (convert 30 9 (.slice (some ⟨w9.heap.size, 0, none⟩) 1 1)).run Tryd.prog (w9.alloc (.cells #[.int .u8 (IntKind.u8.wrap ((p.length : Int) + (q.length : Int)))] 5)) = .ok (.string Y) (w9.alloc (.cells #[.int .u8 (IntKind.u8.wrap ((p.length : Int) + (q.length : Int)))] 5)) := by
        rw [hyw, hY]
        obtain ⟨A', c', e, r, -⟩ := (Own.made (t := 5) (sz := 1) w9 #[.int .u8 y.toNat] 1 (by omega) rfl).rd
        cases e
        exact conv_rd (bs := [y]) r (by simp)
      have HYY := Lib.hid hY
      clear hY hyw
      refine wpAny_take (i := 1) (v := ?_) rfl (by kernel_rfl) (by kernel_rfl) (by kernel_rfl) (fun _ _ _ h => h) (Or.inl ⟨by rfl, ?_⟩) ?_
      rotate_left
      · (intro w; go_simp)
        try (with_reducible rfl)
      try go_simp
      refine wpAny_take (i := 2) (v := ?_) rfl (by kernel_rfl) (by kernel_rfl) (by kernel_rfl) (fun _ _ _ h => h) (Or.inl ⟨by rfl, ?_⟩) ?_
      rotate_left
      · (intro w; go_simp)
        try (with_reducible rfl)
      try go_simp
      refine wpAny_take (i := 3) (v := ?_) rfl (by kernel_rfl) (by kernel_rfl) (by kernel_rfl) (fun _ _ _ h => h) (Or.inl ⟨by rfl, ?_⟩) ?_
      rotate_left
      · (intro w; go_simp)
        try (with_reducible rfl)
      try go_simp
      refine wpAny_take (i := 4) (v := ?_) rfl (by kernel_rfl) (by kernel_rfl) (by kernel_rfl) (fun _ _ _ h => h) (Or.inl ⟨by rfl, ?_⟩) ?_
      rotate_left
      · (intro w; go_simp)
        try (with_reducible rfl)
      try go_simp
      refine wpAny_take (i := 5) (v := ?_) rfl (by kernel_rfl) (by kernel_rfl) (by kernel_rfl) (fun _ _ _ h => h) (Or.inl ⟨by rfl, ?_⟩) ?_
      rotate_left
      · (intro w; go_simp)
        try (with_reducible rfl)
      try go_simp
      refine wpAny_take (i := 6) (v := ?_) rfl (by kernel_rfl) (by kernel_rfl) (by kernel_rfl) (fun _ _ _ h => h) (Or.inl ⟨by rfl, ?_⟩) ?_
      rotate_left
      · (intro w; go_simp)
        try (with_reducible rfl)
      try go_simp
      refine wpAny_take (i := 7) (v := ?_) rfl (by kernel_rfl) (by kernel_rfl) (by kernel_rfl) (fun _ _ _ h => h) (Or.inl ⟨by rfl, ?_⟩) ?_
      rotate_left
      · (intro w; go_simp)
        try (with_reducible rfl)
      try go_simp
      refine wpAny_take (i := 8) (v := ?_) rfl (by kernel_rfl) (by kernel_rfl) (by kernel_rfl) (fun _ _ _ h => h) (Or.inl ⟨by rfl, ?_⟩) ?_
      rotate_left
      · (intro w; go_simp)
        try (with_reducible rfl)
      try go_simp
      obtain ⟨E1, hE1⟩ : ∃ z, z = s.extract 0 6 := ⟨_, rfl⟩
      have zE1 : E1.size = 6 := by rw [hE1, ByteArray.size_extract]; omega
      rw [← hE1]
      have HE1 := Lib.hid hE1
      clear hE1
      refine wpAny_take (i := 9) (v := ?_) rfl (by kernel_rfl) (by kernel_rfl) (by kernel_rfl) (fun _ _ _ h => h) (Or.inl ⟨by rfl, ?_⟩) ?_
      rotate_left
      · (intro w; go_simp)
        try (with_reducible rfl)
      try go_simp
      refine wpAny_take (i := 10) (v := ?_) rfl (by kernel_rfl) (by kernel_rfl) (by kernel_rfl) (fun _ _ _ h => h) (Or.inl ⟨by rfl, ?_⟩) ?_
      rotate_left
      · (intro w; go_simp)
        try (with_reducible rfl)
      try go_simp
      refine wpAny_take (i := 11) (v := ?_) rfl (by kernel_rfl) (by kernel_rfl) (by kernel_rfl) (fun _ _ _ h => h) (Or.inl ⟨by rfl, ?_⟩) ?_
      rotate_left
      · (intro w; go_simp)
        try (with_reducible rfl)
      try go_simp
      refine wpAny_take (i := 15) (v := ?_) rfl (by kernel_rfl) (by kernel_rfl) (by kernel_rfl) (fun _ _ _ h => h) (Or.inl ⟨by rfl, ?_⟩) ?_
      rotate_left
      · (intro w; go_simp)
        try (with_reducible rfl)
      try go_simp
      refine wpAny_take (i := 16) (v := ?_) rfl (by kernel_rfl) (by kernel_rfl) (by kernel_rfl) (fun _ _ _ h => h) (Or.inl ⟨by rfl, ?_⟩) ?_
      rotate_left
      · (intro w; go_simp)
        try (with_reducible rfl)
      try go_simp
      obtain ⟨E2, hE2⟩ : ∃ z, z = s.extract 7 s.size := ⟨_, rfl⟩
      have zE2 : E2.size = s.size - 7 := by rw [hE2, ByteArray.size_extract]; omega
      rw [← hE2]
      have HE2 := Lib.hid hE2
      clear hE2
      refine wpAny_take (i := 18) (v := ?_) rfl (by kernel_rfl) (by kernel_rfl) (by kernel_rfl) (fun _ _ _ h => h) (Or.inl ⟨by rfl, ?_⟩) ?_
      rotate_left
      · (intro w; go_simp)
        try (with_reducible rfl)
      try go_simp
      refine wpAny_take (i := 19) (v := ?_) rfl (by kernel_rfl) (by kernel_rfl) (by kernel_rfl) (fun _ _ _ h => h) (Or.inl ⟨by rfl, ?_⟩) ?_
      rotate_left
      · (intro w; go_simp)
        try (with_reducible rfl)
      try go_simp
      obtain ⟨E3, hE3⟩ : ∃ z, z = t.extract 7 t.size := ⟨_, rfl⟩
      have zE3 : E3.size = t.size - 7 := by rw [hE3, ByteArray.size_extract]; omega
      rw [← hE3]
      have HE3 := Lib.hid hE3
      clear hE3
      have q1 : ¬ 9223372036854775807 < E1.size + Y.size := by omega
      have q2 : ¬ 9223372036854775807 < E1.size + Y.size + E2.size := by omega
      have q3 : ¬ 9223372036854775807 < E1.size + Y.size + E2.size + E3.size := by omega
      clear zE1 zE2 zE3 hYs
      refine wpAny_ready (rs := [12]) (by kernel_rfl) (by simp) ?_
      refine AllReady.cons rfl (fun K hK => ?_) AllReady.nil
      go_simp
      refine hK _ _ ?_
      clear hK K
      refine wpAny_ready (rs := [13]) (by kernel_rfl) (by simp) ?_
      refine AllReady.cons rfl (fun K hK => ?_) AllReady.nil
      go_simp
      refine hK _ _ ?_
      clear hK K
      refine wpAny_take (i := 14) (v := ?_) rfl (by kernel_rfl) (by kernel_rfl) (by kernel_rfl) (fun _ _ _ h => h) (Or.inl ⟨by rfl, ?_⟩) ?_
      rotate_left
      · (intro w; go_simp)
        try (with_reducible rfl)
      try go_simp
      refine wpAny_take (i := 17) (v := ?_) rfl (by kernel_rfl) (by kernel_rfl) (by kernel_rfl) (fun _ _ _ h => h) (Or.inl ⟨by rfl, ?_⟩) ?_
      rotate_left
      · (intro w; go_simp)
        try (with_reducible rfl)
      try go_simp
      refine wpAny_take (i := 20) (v := ?_) rfl (by kernel_rfl) (by kernel_rfl) (by kernel_rfl) (fun _ _ _ h => h) (Or.inl ⟨by rfl, ?_⟩) ?_
      rotate_left
      · (intro w; go_simp)
        try (with_reducible rfl)
      try go_simp
      refine wpAny_take (i := 21) (v := ?_) rfl (by kernel_rfl) (by kernel_rfl) (by kernel_rfl) (fun _ _ _ h => h) (Or.inl ⟨by rfl, ?_⟩) ?_
      rotate_left
      · (intro w; go_simp)
        try (with_reducible rfl)
      try go_simp
      refine wpAny_take (i := 22) (v := ?_) rfl (by kernel_rfl) (by kernel_rfl) (by kernel_rfl) (fun _ _ _ h => h) (Or.inl ⟨by rfl, ?_⟩) ?_
      rotate_left
      · (intro w; go_simp)
        try (with_reducible rfl)
      try go_simp
      refine wpAny_take (i := 23) (v := ?_) rfl (by kernel_rfl) (by kernel_rfl) (by kernel_rfl) (fun _ _ _ h => h) (Or.inl ⟨by rfl, ?_⟩) ?_
      rotate_left
      · (intro w; go_simp)
        try (with_reducible rfl)
      try go_simp
      refine wpAny_done (by kernel_rfl) ?_ _
      have hfin : (u.toList == (E1 ++ Y ++ E2 ++ E3).toList) = true := by
        have h1 : u = E1 ++ Y ++ E2 ++ E3 := by
          have ks := HS.out
          have kt := HTT.out
          rw [HU.out, HE1.out, HYY.out, HE2.out, HE3.out, HY.out, ks, kt, extract_lo, extract_hi, extract_hi, List.length_append]
          apply ByteArray.ext
          simp [bstr, headB, ByteArray.data_append]
        rw [h1]
        exact beq_self_eq_true _
      go_simp
      have BZ : Hid (Below w.heap.size w (w9.alloc (.cells #[.int .u8 (IntKind.u8.wrap ((p.length : Int) + (q.length : Int)))] 5))) := Lib.hid (B9.out.alloc (by have := B9.out.size; omega) _)
      go_wp2
      go_ret
      exact ⟨rfl, BZ.out⟩
    · clear R1 R2
      obtain ⟨rfl, hs7, hsu, HEs⟩ := hx
      have HEs := Lib.hid HEs
      have hs1 : decide (s.size < 7) = false := decide_eq_false (by omega)
      have hs2 : decide ((s.size : Int) < 7) = false := decide_eq_false (by omega)
      have hs3 : decide (7 ≤ s.size) = true := decide_eq_true (by omega)
      have hs4 : decide ((7 : Int) ≤ (s.size : Int)) = true := decide_eq_true (by omega)
      obtain ⟨hy0, ht7⟩ := hy
      have hy1 : (y == 0) = false := by simpa using hy0
      have hy2 : (y != 0) = true := by simpa using hy0
      have ht1 : decide (t.size < 7) = true := decide_eq_true (by omega)
      have ht2 : decide ((t.size : Int) < 7) = true := decide_eq_true (by omega)
      have ht3 : decide (7 ≤ t.size) = false := decide_eq_false (by omega)
      have ht4 : decide ((7 : Int) ≤ (t.size : Int)) = false := decide_eq_false (by omega)
      rcases Classical.em (bigP p) with bp | bp
      · go_wp2_with fail
        refine (big_yes (HP.out.new B2.out) bp).mono ?_
        rintro e w3 ⟨rfl, hb3⟩
        have B3 := Lib.hid (B2.out.trans (hb3.mono B2.out.size))
        clear hb3 bp
        go_wp2_with fail
        refine (laid_any w3 (HT.out.below B3.out)).mono ?_
        rintro e w9 ⟨rfl, hb9⟩
        have B9 := Lib.hid (B3.out.trans (hb9.mono B3.out.size))
        clear hb9
        go_wp2_with fail
        go_ret
        exact ⟨rfl, B9.out⟩
      go_wp2_with fail
      refine (big_no (HP.out.new B2.out) bp).mono ?_
      rintro e w3 ⟨rfl, hb3⟩
      have B3 := Lib.hid (B2.out.trans (hb3.mono B2.out.size))
      have hn : n ≤ 1100 := by
        have h1 := HP.out.1
        have h2 : ¬ 1100 < p.length := fun h => bp (.inl h)
        omega
      clear hb3 bp
      rcases Classical.em (bigP q) with bq | bq
      · go_wp2_with fail
        refine (big_yes (HQ.out.new B3.out) bq).mono ?_
        rintro e w4 ⟨rfl, hb4⟩
        have B4 := Lib.hid (B3.out.trans (hb4.mono B3.out.size))
        clear hb4 bq
        go_wp2_with fail
        refine (laid_any w4 (HT.out.below B4.out)).mono ?_
        rintro e w9 ⟨rfl, hb9⟩
        have B9 := Lib.hid (B4.out.trans (hb9.mono B4.out.size))
        clear hb9
        go_wp2_with fail
        go_ret
        exact ⟨rfl, B9.out⟩
      go_wp2_with fail
      refine (big_no (HQ.out.new B3.out) bq).mono ?_
      rintro e w4 ⟨rfl, hb4⟩
      have B4 := Lib.hid (B3.out.trans (hb4.mono B3.out.size))
      have hm : m ≤ 1100 := by
        have h1 := HQ.out.1
        have h2 : ¬ 1100 < q.length := fun h => bq (.inl h)
        omega
      clear hb4 bq
      by_cases hk : 100 < n + m
      · have hk1 : decide (100 < n + m) = true := decide_eq_true hk
        have hk2 : decide ((100 : Int) < (n : Int) + (m : Int)) = true := decide_eq_true (by omega)
        go_wp2_with fail
        refine (laid_any w4 (HT.out.below B4.out)).mono ?_
        rintro e w9 ⟨rfl, hb9⟩
        have B9 := Lib.hid (B4.out.trans (hb9.mono B4.out.size))
        clear hb9
        go_wp2_with fail
        go_ret
        exact ⟨rfl, B9.out⟩
      have hk1 : decide (100 < n + m) = false := decide_eq_false hk
      have hk2 : decide ((100 : Int) < (n : Int) + (m : Int)) = false := decide_eq_false (by omega)
      have hk3 : decide (100 < n) = false := decide_eq_false (by omega)
      have hk4 : decide ((100 : Int) < (n : Int)) = false := decide_eq_false (by omega)
      have hk5 : decide (100 < m) = false := decide_eq_false (by omega)
      have hk6 : decide ((100 : Int) < (m : Int)) = false := decide_eq_false (by omega)
      go_wp2_with fail
      refine (laid_any w4 (HT.out.below B4.out)).mono ?_
      rintro e w9 ⟨rfl, hb9⟩
      have B9 := Lib.hid (B4.out.trans (hb9.mono B4.out.size))
      clear hb9
      go_wp2_with fail
      go_ret
      exact ⟨rfl, B9.out⟩
  · rcases R2.out with hy | hy
    · clear R1 R2
      obtain ⟨hx0, hs7⟩ := hx
      have hx1 : (x == 0) = false := by simpa using hx0
      have hx2 : (x != 0) = true := by simpa using hx0
      have hs1 : decide (s.size < 7) = true := decide_eq_true (by omega)
      have hs2 : decide ((s.size : Int) < 7) = true := decide_eq_true (by omega)
      have hs3 : decide (7 ≤ s.size) = false := decide_eq_false (by omega)
      have hs4 : decide ((7 : Int) ≤ (s.size : Int)) = false := decide_eq_false (by omega)
      obtain ⟨rfl, ht7, htu, HEt⟩ := hy
      have HEt := Lib.hid HEt
      have ht1 : decide (t.size < 7) = false := decide_eq_false (by omega)
      have ht2 : decide ((t.size : Int) < 7) = false := decide_eq_false (by omega)
      have ht3 : decide (7 ≤ t.size) = true := decide_eq_true (by omega)
      have ht4 : decide ((7 : Int) ≤ (t.size : Int)) = true := decide_eq_true (by omega)
      rcases Classical.em (bigP p) with bp | bp
      · go_wp2_with fail
        refine (big_yes (HP.out.new B2.out) bp).mono ?_
        rintro e w3 ⟨rfl, hb3⟩
        have B3 := Lib.hid (B2.out.trans (hb3.mono B2.out.size))
        clear hb3 bp
        go_wp2_with fail
        refine (laid_any w3 (HT.out.below B3.out)).mono ?_
        rintro e w9 ⟨rfl, hb9⟩
        have B9 := Lib.hid (B3.out.trans (hb9.mono B3.out.size))
        clear hb9
        go_wp2_with fail
        go_ret
        exact ⟨rfl, B9.out⟩
      go_wp2_with fail
      refine (big_no (HP.out.new B2.out) bp).mono ?_
      rintro e w3 ⟨rfl, hb3⟩
      have B3 := Lib.hid (B2.out.trans (hb3.mono B2.out.size))
      have hn : n ≤ 1100 := by
        have h1 := HP.out.1
        have h2 : ¬ 1100 < p.length := fun h => bp (.inl h)
        omega
      clear hb3 bp
      rcases Classical.em (bigP q) with bq | bq
      · go_wp2_with fail
        refine (big_yes (HQ.out.new B3.out) bq).mono ?_
        rintro e w4 ⟨rfl, hb4⟩
        have B4 := Lib.hid (B3.out.trans (hb4.mono B3.out.size))
        clear hb4 bq
        go_wp2_with fail
        refine (laid_any w4 (HT.out.below B4.out)).mono ?_
        rintro e w9 ⟨rfl, hb9⟩
        have B9 := Lib.hid (B4.out.trans (hb9.mono B4.out.size))
        clear hb9
        go_wp2_with fail
        go_ret
        exact ⟨rfl, B9.out⟩
      go_wp2_with fail
      refine (big_no (HQ.out.new B3.out) bq).mono ?_
      rintro e w4 ⟨rfl, hb4⟩
      have B4 := Lib.hid (B3.out.trans (hb4.mono B3.out.size))
      have hm : m ≤ 1100 := by
        have h1 := HQ.out.1
        have h2 : ¬ 1100 < q.length := fun h => bq (.inl h)
        omega
      clear hb4 bq
      by_cases hk : 100 < n + m
      · have hk1 : decide (100 < n + m) = true := decide_eq_true hk
        have hk2 : decide ((100 : Int) < (n : Int) + (m : Int)) = true := decide_eq_true (by omega)
        go_wp2_with fail
        refine (laid_any w4 (HT.out.below B4.out)).mono ?_
        rintro e w9 ⟨rfl, hb9⟩
        have B9 := Lib.hid (B4.out.trans (hb9.mono B4.out.size))
        clear hb9
        go_wp2_with fail
        go_ret
        exact ⟨rfl, B9.out⟩
      have hk1 : decide (100 < n + m) = false := decide_eq_false hk
      have hk2 : decide ((100 : Int) < (n : Int) + (m : Int)) = false := decide_eq_false (by omega)
      have hk3 : decide (100 < n) = false := decide_eq_false (by omega)
      have hk4 : decide ((100 : Int) < (n : Int)) = false := decide_eq_false (by omega)
      have hk5 : decide (100 < m) = false := decide_eq_false (by omega)
      have hk6 : decide ((100 : Int) < (m : Int)) = false := decide_eq_false (by omega)
      go_wp2_with fail
      refine (laid_any w4 (HT.out.below B4.out)).mono ?_
      rintro e w9 ⟨rfl, hb9⟩
      have B9 := Lib.hid (B4.out.trans (hb9.mono B4.out.size))
      clear hb9
      go_wp2_with fail
      go_ret
      exact ⟨rfl, B9.out⟩
    · clear R1 R2
      obtain ⟨hx0, hs7⟩ := hx
      have hx1 : (x == 0) = false := by simpa using hx0
      have hx2 : (x != 0) = true := by simpa using hx0
      have hs1 : decide (s.size < 7) = true := decide_eq_true (by omega)
      have hs2 : decide ((s.size : Int) < 7) = true := decide_eq_true (by omega)
      have hs3 : decide (7 ≤ s.size) = false := decide_eq_false (by omega)
      have hs4 : decide ((7 : Int) ≤ (s.size : Int)) = false := decide_eq_false (by omega)
      obtain ⟨hy0, ht7⟩ := hy
      have hy1 : (y == 0) = false := by simpa using hy0
      have hy2 : (y != 0) = true := by simpa using hy0
      have ht1 : decide (t.size < 7) = true := decide_eq_true (by omega)
      have ht2 : decide ((t.size : Int) < 7) = true := decide_eq_true (by omega)
      have ht3 : decide (7 ≤ t.size) = false := decide_eq_false (by omega)
      have ht4 : decide ((7 : Int) ≤ (t.size : Int)) = false := decide_eq_false (by omega)
      rcases Classical.em (bigP p) with bp | bp
      · go_wp2_with fail
        refine (big_yes (HP.out.new B2.out) bp).mono ?_
        rintro e w3 ⟨rfl, hb3⟩
        have B3 := Lib.hid (B2.out.trans (hb3.mono B2.out.size))
        clear hb3 bp
        go_wp2_with fail
        refine (laid_any w3 (HT.out.below B3.out)).mono ?_
        rintro e w9 ⟨rfl, hb9⟩
        have B9 := Lib.hid (B3.out.trans (hb9.mono B3.out.size))
        clear hb9
        go_wp2_with fail
        go_ret
        exact ⟨rfl, B9.out⟩
      go_wp2_with fail
      refine (big_no (HP.out.new B2.out) bp).mono ?_
      rintro e w3 ⟨rfl, hb3⟩
      have B3 := Lib.hid (B2.out.trans (hb3.mono B2.out.size))
      have hn : n ≤ 1100 := by
        have h1 := HP.out.1
        have h2 : ¬ 1100 < p.length := fun h => bp (.inl h)
        omega
      clear hb3 bp
      rcases Classical.em (bigP q) with bq | bq
      · go_wp2_with fail
        refine (big_yes (HQ.out.new B3.out) bq).mono ?_
        rintro e w4 ⟨rfl, hb4⟩
        have B4 := Lib.hid (B3.out.trans (hb4.mono B3.out.size))
        clear hb4 bq
        go_wp2_with fail
        refine (laid_any w4 (HT.out.below B4.out)).mono ?_
        rintro e w9 ⟨rfl, hb9⟩
        have B9 := Lib.hid (B4.out.trans (hb9.mono B4.out.size))
        clear hb9
        go_wp2_with fail
        go_ret
        exact ⟨rfl, B9.out⟩
      go_wp2_with fail
      refine (big_no (HQ.out.new B3.out) bq).mono ?_
      rintro e w4 ⟨rfl, hb4⟩
      have B4 := Lib.hid (B3.out.trans (hb4.mono B3.out.size))
      have hm : m ≤ 1100 := by
        have h1 := HQ.out.1
        have h2 : ¬ 1100 < q.length := fun h => bq (.inl h)
        omega
      clear hb4 bq
      by_cases hk : 100 < n + m
      · have hk1 : decide (100 < n + m) = true := decide_eq_true hk
        have hk2 : decide ((100 : Int) < (n : Int) + (m : Int)) = true := decide_eq_true (by omega)
        go_wp2_with fail
        refine (laid_any w4 (HT.out.below B4.out)).mono ?_
        rintro e w9 ⟨rfl, hb9⟩
        have B9 := Lib.hid (B4.out.trans (hb9.mono B4.out.size))
        clear hb9
        go_wp2_with fail
        go_ret
        exact ⟨rfl, B9.out⟩
      have hk1 : decide (100 < n + m) = false := decide_eq_false hk
      have hk2 : decide ((100 : Int) < (n : Int) + (m : Int)) = false := decide_eq_false (by omega)
      have hk3 : decide (100 < n) = false := decide_eq_false (by omega)
      have hk4 : decide ((100 : Int) < (n : Int)) = false := decide_eq_false (by omega)
      have hk5 : decide (100 < m) = false := decide_eq_false (by omega)
      have hk6 : decide ((100 : Int) < (m : Int)) = false := decide_eq_false (by omega)
      go_wp2_with fail
      refine (laid_any w4 (HT.out.below B4.out)).mono ?_
      rintro e w9 ⟨rfl, hb9⟩
      have B9 := Lib.hid (B4.out.trans (hb9.mono B4.out.size))
      clear hb9
      go_wp2_with fail
      go_ret
      exact ⟨rfl, B9.out⟩
end Go.Proofs.YtcfelfhjhkenaaaDoor
