/- VerifyMore: the walk of the law. -/
import Derived.Test.YtgnejkmojfhfpaaLwa
import Derived.Test.YtgnejkmojfhfpaaMor
namespace Go.Proofs.Ytgnejkmojfhfpaa
open Go.RowKit
set_option linter.unusedVariables false
set_option linter.unusedSimpArgs false

theorem info_C : (Try.prog.info? 38).map (fun i => (i.zero, i.size, i.bytes)) = some (some (.agg #[.string ⟨#[]⟩, .int .i64 0, .int .i64 0, .int .i64 0, .bool false, .slice none 0 0, .slice none 0 0, .slice none 0 0, .slice none 0 0, .slice none 0 0, .slice none 0 0]), 11, 192) := by kernel_rfl
theorem code_cells {w : World} {c : CodeD} {cs : List Value} (h : CodeAt w c cs) : ∀ u ∈ cs, u.oneCell' = true := by
  obtain ⟨A1, n1, c1, A2, n2, c2, A3, n3, c3, A4, n4, c4, A5, n5, c5, A6, n6, c6, rfl, -⟩ := h.parts
  intro u hu
  simp only [List.mem_cons, List.not_mem_nil, or_false] at hu
  rcases hu with rfl | rfl | rfl | rfl | rfl | rfl | rfl | rfl | rfl | rfl | rfl <;> rfl
/-- v owns a row of codes, that was made since w0 -/
structure OwnP (w0 w : World) (v : Value) (p : ProgD) : Prop where
  bel : Below w0.heap.size w0 w
  new : ∀ b, v.ownBlock = some b → w0.heap.size ≤ b
  row : ∃ css : List (List Value), css.length = p.length ∧ (∀ cs ∈ css, cs.length = 11) ∧ (∀ (i : Nat) x cs, p[i]? = some x → css[i]? = some cs → CodeAt w0 x cs) ∧ Own w 38 11 v p.length (css.flatMap id)
theorem OwnP.start {w0 w : World} (hb : Below w0.heap.size w0 w) : OwnP w0 (w.alloc (.cells #[] 38)) (.slice (some ⟨w.heap.size, 0, none⟩) 0 0) [] :=
  ⟨hb.alloc hb.size _, fun b e => by simp [Value.ownBlock] at e; have := hb.size; omega, [], rfl, (fun _ h => by cases h), (fun i x cs h => by simp at h), by
    have := Own.made (t := 38) (sz := 11) w #[] 0 (by omega) rfl
    simpa using this⟩
theorem OwnP.prog {w0 w : World} {v : Value} {p : ProgD} {N : Nat} (h : OwnP w0 w v p) (hN : p.length = N) (hn : N ≤ Most) : ∃ A c, v = .slice A N c ∧ ProgAt w A N c p := by
  subst hN
  obtain ⟨hb, hnw, css, h1, h2, h3, h4⟩ := h
  obtain ⟨A, c, rfl, hr, _⟩ := h4.rd
  exact ⟨A, c, rfl, rfl, ⟨css, h1, h2, fun i x cs hx hc => (h3 i x cs hx hc).new hb, hr⟩, hn⟩
theorem OwnP.below {w0 w w' : World} {v : Value} {p : ProgD} (h : OwnP w0 w v p) (hb : Below w.heap.size w w') : OwnP w0 w' v p := by
  obtain ⟨hb0, hnw, css, h1, h2, h3, h4⟩ := h
  exact ⟨hb0.trans (hb.mono hb0.size), hnw, css, h1, h2, h3, h4.new hb⟩
theorem wpList_appendP {ops : Array Oper} {rest : List Oper} {o : Oper} {a : Act} {Q : Exit → Act → World → Prop} (w0 w : World) (hgd : o.guard = none) (s x : Operand)
    (ho : o.op = .call { callee := .builtin .append, args := #[s, x], argTypes := #[23, 23] })
    (v : Value) (p q : ProgD) (hs : a.eval s = v) (hown : OwnP w0 w v p) (A : Option Addr) (m c : Nat) (hx : a.eval x = .slice A m c) (hq : ProgAt w0 A m c q) (hn : p.length + m ≤ 100000)
    (h : ∀ v' w', OwnP w0 w' v' (p ++ q) → wpList Try.prog ops Q rest (a.put o.dst v') w') : wpList Try.prog ops Q (o :: rest) a w := by
  obtain ⟨i0, hi, hz0, hz1, hz2⟩ := info_parts info_C
  obtain ⟨hb, hnw, css, h1, h2, h3, h4⟩ := hown
  obtain ⟨hl, ⟨dss, g1, g2, g3, g4⟩, _⟩ := hq
  refine wpList_append_Own (P := Try.prog) w hgd s x 23 ho 38 i0 _ 11 192 Try.underlying23 hi hz0 hz1 hz2 rfl v p.length _ hs h4 A m c (dss.flatMap id) hx (g4.new hb) (fun u hu => ?_) (by omega) (by omega) fun v' w' k1 k2 k3 => ?_
  · obtain ⟨cs, hcs, hu⟩ := List.mem_flatMap.1 hu
    obtain ⟨i, hi, rfl⟩ := List.mem_iff_getElem.1 hcs
    have hq : q[i]? = some (q[i]'(by omega)) := List.getElem?_eq_getElem _
    exact code_cells (g3 i _ _ hq (List.getElem?_eq_getElem hi)) u hu
  · refine h v' w' ⟨?_, fun b e => ?_, css ++ dss, by simp [h1, g1, hl], fun cs hcs => ?_, fun i x cs hx hc => ?_, ?_⟩
    · have hM : Mod (fun i => w0.heap.size ≤ i) w0 w' := (Mod.of_below hb (fun i _ h => h)).grown k2 (fun k e _ => hnw k e)
      exact hM.below (Nat.le_refl _) (fun i hi h => absurd h (by omega))
    · rcases k3 with k3 | k3
      · exact hnw b (k3 ▸ e)
      · rw [k3] at e
        injection e with e
        have := hb.size
        omega
    · rcases List.mem_append.1 hcs with h | h
      · exact h2 cs h
      · exact g2 cs h
    · by_cases hlt : i < p.length
      · rw [List.getElem?_append_left hlt] at hx
        rw [List.getElem?_append_left (by omega)] at hc
        exact h3 i x cs hx hc
      · rw [List.getElem?_append_right (by omega)] at hx
        rw [List.getElem?_append_right (by omega), h1] at hc
        exact g3 _ x cs hx hc
    · rw [List.flatMap_append, List.length_append, hl]
      exact k1
set_option maxRecDepth 100000 in
set_option maxHeartbeats 8000000 in
theorem law_more {w : World} {A B : Option Addr} {n c m d : Nat} {p q : ProgD} (h : ProgAt w A n c p) (h' : ProgAt w B m d q) : Calls Try.prog 7 #[.slice A n c, .slice B m d] w (LawR w) := by
  have hl := h.len
  have hl' := h'.len
  have hmost := h.most
  have hmost' := h'.most
  unfold Most at hmost hmost'
  have H := Lib.hid h
  have H' := Lib.hid h'
  have KP := Lib.hid (program_any h)
  have KB : Hid (∀ w', Below w.heap.size w w' → Calls Try.prog 10 #[.slice A n c] w' fun e w2 => e = .returned (.bool (bigB p)) ∧ w' = w2) := Lib.hid fun w' hb => big_any (h.new hb)
  have KB' : Hid (∀ w', Below w.heap.size w w' → Calls Try.prog 10 #[.slice B m d] w' fun e w2 => e = .returned (.bool (bigB q)) ∧ w' = w2) := Lib.hid fun w' hb => big_any (h'.new hb)
  obtain ⟨⟨r1, r2, r3⟩, hr⟩ : ∃ r, r = programE p := ⟨_, rfl⟩
  rw [← hr] at KP
  by_cases hb1 : bigB p = true
  · rw [hb1] at KB
    clear hb1 hl hl' h h' hr
    go_enter Try.func7, Try.ntmps7
    go_wp2_with (first | ((with_reducible refine KP.out.mono ?_); rintro e w1 ⟨hb1, rfl⟩; have HB1 := Lib.hid hb1; clear hb1) | ((with_reducible refine (KB.out _ HB1.out).mono ?_); rintro e w2 ⟨rfl, rfl⟩))
    go_ret
    exact ⟨rfl, HB1.out⟩
  have hb1 : bigB p = false := by simpa using hb1
  rw [hb1] at KB
  by_cases hb2 : bigB q = true
  · rw [hb2] at KB'
    clear hb1 hb2 hl hl' h h' hr
    go_enter Try.func7, Try.ntmps7
    go_wp2_with (first | ((with_reducible refine KP.out.mono ?_); rintro e w1 ⟨hb1, rfl⟩; have HB1 := Lib.hid hb1; clear hb1) | ((with_reducible refine (KB.out _ HB1.out).mono ?_); rintro e w2 ⟨rfl, rfl⟩) | ((with_reducible refine (KB'.out _ HB1.out).mono ?_); rintro e w2 ⟨rfl, rfl⟩))
    go_ret
    exact ⟨rfl, HB1.out⟩
  have hb2 : bigB q = false := by simpa using hb2
  rw [hb2] at KB'
  clear hb1 hb2
  by_cases hnm : 60 < n + m
  · have d0 : decide (60 < n + m) = true := decide_eq_true hnm
    have d1 : decide ((60 : Int) < (n : Int) + (m : Int)) = true := decide_eq_true (by omega)
    clear hnm hl hl' h h' hr
    go_enter Try.func7, Try.ntmps7
    go_wp2_with (first | ((with_reducible refine KP.out.mono ?_); rintro e w1 ⟨hb1, rfl⟩; have HB1 := Lib.hid hb1; clear hb1) | ((with_reducible refine (KB.out _ HB1.out).mono ?_); rintro e w2 ⟨rfl, rfl⟩) | ((with_reducible refine (KB'.out _ HB1.out).mono ?_); rintro e w2 ⟨rfl, rfl⟩))
    go_ret
    exact ⟨rfl, HB1.out⟩
  have d0 : decide (60 < n + m) = false := decide_eq_false hnm
  have d1 : decide ((60 : Int) < (n : Int) + (m : Int)) = false := decide_eq_false (by omega)
  obtain ⟨⟨f1, f2, f3⟩, hf⟩ : ∃ r, r = programE (p ++ q) := ⟨_, rfl⟩
  have HMO := Lib.hid (program_more hr.symm hf.symm)
  have HF := Lib.hid hf
  have HLL := Lib.hid hl
  have HLL' := Lib.hid hl'
  have hnm' : n + m ≤ 60 := by omega
  obtain ⟨N, hN⟩ : ∃ N, N = n + m := ⟨_, rfl⟩
  have HNN : Hid ((p ++ q).length = N) := Lib.hid (by rw [List.length_append, hl, hl', hN])
  have HNM : Hid (N ≤ Most) := Lib.hid (by unfold Most; omega)
  clear hN
  clear hnm hl hl' h h' hr hf
  go_enter Try.func7, Try.ntmps7
  go_wp2_with (first
    | ((with_reducible refine KP.out.mono ?_); rintro e w1 ⟨hb1, rfl⟩; have HB1 := Lib.hid hb1; clear hb1)
    | ((with_reducible refine (KB.out _ HB1.out).mono ?_); rintro e w2 ⟨rfl, rfl⟩)
    | ((with_reducible refine (KB'.out _ HB1.out).mono ?_); rintro e w2 ⟨rfl, rfl⟩)
    | (at_builtin; refine wpList_appendP w _ rfl (.tmp 33) (.tmp 34) rfl (.slice (some ⟨w1.heap.size, 0, none⟩) 0 0) [] p rfl (OwnP.start HB1.out) A n c rfl H.out (by simp; omega) ?_; intro v2 w2 hv2; rw [List.nil_append] at hv2; have HV2 := Lib.hid hv2; clear hv2)
    | (at_builtin; refine wpList_appendP w _ rfl (.tmp 36) (.tmp 37) rfl v2 p q rfl HV2.out B m d rfl H'.out (by simp [HLL.out]; omega) ?_; intro v3 w3 hv3; have HV3 := Lib.hid hv3; obtain ⟨A3, c3, rfl, hp3⟩ := hv3.prog HNN.out HNM.out; have KP3 := Lib.hid (program_any hp3); clear hv3 hp3))
  refine KP3.out.mono ?_
  rintro e w4 ⟨hb4, rfl⟩
  rw [← HF.out]
  have HB4 := Lib.hid (HV3.out.bel.trans (hb4.mono HV3.out.bel.size))
  clear hb4 KP3 HV3
  by_cases he : r1 = 0
  case neg =>
    have he1 : (r1 == 0) = false := by simpa using he
    have he2 : (r1 != 0) = true := by simpa using he
    clear he
    by_cases hf0 : f1 = 0
    · subst hf0
      go_wp2_with fail
      refine (seen_any w4).mono ?_
      rintro e w5 ⟨rfl, hb5⟩
      have HB5 := Lib.hid (HB4.out.trans (hb5.mono HB4.out.size))
      clear hb5
      go_wp2_with fail
      go_ret
      exact ⟨rfl, HB5.out⟩
    · have hf1 : (f1 == 0) = false := by simpa using hf0
      have hf2 : (f1 != 0) = true := by simpa using hf0
      clear hf0
      go_wp2_with fail
      refine (seen_any w4).mono ?_
      rintro e w5 ⟨rfl, hb5⟩
      have HB5 := Lib.hid (HB4.out.trans (hb5.mono HB4.out.size))
      clear hb5
      go_wp2_with fail
      go_ret
      exact ⟨rfl, HB5.out⟩
  case pos =>
    subst he
    obtain ⟨rfl, rfl⟩ := HMO.out.1 rfl
    by_cases hf0 : f1 = 0
    · subst hf0
      go_wp2_with fail
      refine (seen_any w4).mono ?_
      rintro e w5 ⟨rfl, hb5⟩
      have HB5 := Lib.hid (HB4.out.trans (hb5.mono HB4.out.size))
      clear hb5
      go_wp2_with fail
      go_ret
      exact ⟨rfl, HB5.out⟩
    · have hf1 : (f1 == 0) = false := by simpa using hf0
      have hf2 : (f1 != 0) = true := by simpa using hf0
      obtain ⟨h8, h9⟩ := HMO.out.2 rfl hf0
      rw [HLL.out] at h8
      have g0 : decide ((n : Int) ≤ f2) = true := decide_eq_true h8
      have g1 : decide (0 ≤ f3) = true := decide_eq_true h9
      clear hf0 h8 h9
      go_wp2_with fail
      refine (seen_any w4).mono ?_
      rintro e w5 ⟨rfl, hb5⟩
      have HB5 := Lib.hid (HB4.out.trans (hb5.mono HB4.out.size))
      clear hb5
      go_wp2_with fail
      go_ret
      exact ⟨rfl, HB5.out⟩
end Go.Proofs.Ytgnejkmojfhfpaa
