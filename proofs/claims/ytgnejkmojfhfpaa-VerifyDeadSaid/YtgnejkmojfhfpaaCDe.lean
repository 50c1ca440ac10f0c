/- VerifyDead: an instruction that nobody comes to has no height, and only itself is looked at; of any program and instruction.
   Conditions: none but the row's own. -/
import Derived.Test.YtgnejkmojfhfpaaLwe
import Derived.Test.YtgnejkmojfhfpaaOpn
import Derived.Test.YtgnejkmojfhfpaaRows
import Derived.SizedLaws
namespace Go.Proofs.Ytgnejkmojfhfpaa
open Go.RowKit
set_option linter.unusedVariables false
set_option linter.unusedSimpArgs false
open Go.ChangeShapes Go.WideShapes Go.ChangeAt Go.RowKit Go.WideElems Go.Deep

theorem info_N : (Try.prog.info? 43).map (fun i => (i.zero, i.size, i.bytes)) = some (some (.agg #[.int .i64 0, .int .i64 0]), 2, 16) := by kernel_rfl
theorem ins_cells (l : List (Int × Int)) : ∀ u ∈ l.flatMap insCs, u.oneCell' = true := by
  intro u hu
  rw [List.mem_flatMap] at hu
  obtain ⟨x, _, hx⟩ := hu
  simp [insCs] at hx
  rcases hx with rfl | rfl <;> rfl
/-- v owns a row of instructions, that was made since w0 -/
def OwnX (w0 w : World) (v : Value) (l : List (Int × Int)) : Prop := Own w 43 2 v l.length (l.flatMap insCs) ∧ ∀ b, v.ownBlock = some b → w0.heap.size ≤ b
theorem OwnX.start {w0 w : World} (hb : w0.heap.size ≤ w.heap.size) : OwnX w0 (w.alloc (.cells #[] 43)) (.slice (some ⟨w.heap.size, 0, none⟩) 0 0) [] :=
  ⟨by have := Own.made (t := 43) (sz := 2) w #[] 0 (by omega) rfl; simpa using this, fun b e => by simp [Value.ownBlock] at e; omega⟩
theorem OwnX.below {w0 w w' : World} {v : Value} {l : List (Int × Int)} (h : OwnX w0 w v l) (hb : Below w.heap.size w w') : OwnX w0 w' v l := ⟨h.1.new hb, h.2⟩
theorem OwnP.far {w0 w w' : World} {v u : Value} {p : ProgD} {l : List (Int × Int)} (h : OwnP w0 w v p) (hu : OwnX w0 w u l) (hg : w.grownBy w' u.ownBlock) : OwnP w0 w' v p := by
  obtain ⟨hb0, hnw, css, h1, h2, h3, h4⟩ := h
  refine ⟨?_, hnw, css, h1, h2, h3, h4.keep fun b e => hg.block b (h4.lt e) fun e' => own_own_ne h4 hu.1 (by decide) e e'.symm⟩
  have hM : Mod (fun i => w0.heap.size ≤ i) w0 w' := (Mod.of_below hb0 (fun i _ h => h)).grown hg (fun k e _ => hu.2 k e)
  exact hM.below (Nat.le_refl _) (fun i hi h => absurd h (by omega))
theorem wpList_appendX {ops : Array Oper} {rest : List Oper} {o : Oper} {a : Act} {Q : Exit → Act → World → Prop} (w0 w : World) (hb0 : w0.heap.size ≤ w.heap.size) (hgd : o.guard = none) (s x : Operand)
    (ho : o.op = .call { callee := .builtin .append, args := #[s, x], argTypes := #[36, 36] })
    (v : Value) (l : List (Int × Int)) (hs : a.eval s = v) (hown : OwnX w0 w v l) (A : Option Addr) (m c : Nat) (ys : List (Int × Int)) (hx : a.eval x = .slice A m c) (hr : RdF insCs 2 w A m c ys) (hn : l.length + m ≤ 100000)
    (h : ∀ v' w', OwnX w0 w' v' (l ++ ys) → w.grownBy w' v.ownBlock → wpList Try.prog ops Q rest (a.put o.dst v') w') : wpList Try.prog ops Q (o :: rest) a w := by
  obtain ⟨i0, hi, hz0, hz1, hz2⟩ := info_parts info_N
  refine wpList_append_Own (P := Try.prog) w hgd s x 36 ho 43 i0 _ 2 16 Try.underlying36 hi hz0 hz1 hz2 rfl v l.length _ hs hown.1 A m c _ hx hr.2 (ins_cells _) (by omega) (by omega) fun v' w' k1 k2 k3 => h v' w' ⟨?_, fun b e => ?_⟩ k2
  · rw [List.flatMap_append, List.length_append, hr.1]
    exact k1
  · rcases k3 with k3 | k3
    · exact hown.2 b (k3 ▸ e)
    · rw [k3] at e
      injection e with e
      omega
theorem OwnP.blk {w0 w : World} {v : Value} {p : ProgD} {N : Nat} (h : OwnP w0 w v p) (hN : p.length = N) (hp : 0 < N) : ∃ qb qc, v = .slice (some ⟨qb, 0, none⟩) N qc ∧ w0.heap.size ≤ qb ∧ qb < w.heap.size := by
  subst hN
  obtain ⟨hb, hnw, css, h1, h2, h3, h4⟩ := h
  rcases h4.2 with ⟨_, e⟩ | ⟨b, c, cur, rfl, hg, _⟩
  · omega
  · exact ⟨b, c, rfl, hnw b rfl, (Array.getElem?_eq_some_iff.1 hg).1⟩
theorem flat_put (cs0 : List Value) (r : List (List Value)) (j : Nat) (u : Value) (h : j < cs0.length) : ((cs0 :: r).flatMap id).set j u = ((cs0.set j u) :: r).flatMap id := by
  simp only [List.flatMap_cons, id]
  rw [List.set_append_left _ _ h]
/-- the first code's instructions are others -/
theorem OwnP.put {w0 w : World} {qb qc N : Nat} {c0 : CodeD} {r : List CodeD} (h : OwnP w0 w (.slice (some ⟨qb, 0, none⟩) N qc) (c0 :: r)) (hN : (c0 :: r).length = N) (hNm : N ≤ Most) (hqb : w0.heap.size ≤ qb)
    {u : Value} {Al : Option Addr} {nl cl : Nat} {ins' : List (Int × Int)} (hu : OwnX w0 w u ins') (hue : u = .slice Al nl cl) (hr : RdF insCs 2 w Al nl cl ins') (hnl : nl * 16 ≤ Most) (hAl : ∀ b o, Al = some ⟨b, o, none⟩ → u.ownBlock = some b) :
    (∃ v, w.cell? ⟨qb, 10, none⟩ = some v) ∧ w.frozen? ⟨qb, 10, none⟩ = false ∧ ProgAt (w.setCell ⟨qb, 10, none⟩ (.slice Al nl cl)) (some ⟨qb, 0, none⟩) N qc ({ c0 with ins := ins' } :: r) := by
  subst hN
  obtain ⟨hb, hnw, css, h1, h2, h3, h4⟩ := h
  cases css with
  | nil => simp at h1
  | cons cs0 rest =>
    have hc0 := h2 cs0 (by simp)
    have hca := h3 0 c0 cs0 rfl rfl
    obtain ⟨k1, k2, k3⟩ := h4.set_ (j := 10) (by simp; omega) (.slice Al nl cl)
    have hne : ∀ b o, Al = some ⟨b, o, none⟩ → b ≠ qb := fun b o e he => by
      subst he
      exact own_own_ne hu.1 h4 (by decide) (hAl _ _ e) rfl
    have hbl : Below w0.heap.size w0 (w.setCell ⟨qb, 10, none⟩ (.slice Al nl cl)) := hb.setCell hqb _
    refine ⟨?_, k2, rfl, ⟨(cs0.set 10 (.slice Al nl cl)) :: rest, by simpa using h1, fun cs hcs => ?_, fun i x cs hx hc => ?_, ?_⟩, hNm⟩
    · rw [k1]
      refine ⟨cs0[10]'(by omega), ?_⟩
      simp only [List.flatMap_cons, id]
      rw [List.getElem?_append_left (by omega)]
      exact List.getElem?_eq_getElem _
    · rcases List.mem_cons.1 hcs with rfl | hcs
      · simpa using hc0
      · exact h2 cs (by simp [hcs])
    · cases i with
      | zero =>
        simp only [List.getElem?_cons_zero, Option.some.injEq] at hx hc
        subst hx hc
        obtain ⟨A1, n1, c1, A2, n2, c2, A3, n3, c3, A4, n4, c4, A5, n5, c5, A6, n6, c6, rfl, r1, r2, r3, r4, r5, r6, m1, m2, m3, m4, m5, m6⟩ := hca.parts
        exact ⟨A1, n1, c1, A2, n2, c2, A3, n3, c3, A4, n4, c4, A5, n5, c5, Al, nl, cl, rfl, r1.new hbl, r2.new hbl, r3.new hbl, r4.new hbl, RdF.new r5 hbl,
          ⟨hr.1, hr.2.mod (S := fun b => b = qb) (Mod.setCell (S := fun b => b = qb) (Mod.refl _ _) (fun _ => rfl) _) (fun b o e => hne b o e)⟩, m1, m2, m3, m4, m5, hnl⟩
      | succ i =>
        simp only [List.getElem?_cons_succ] at hx hc
        exact (h3 (i + 1) x cs (by simpa using hx) (by simpa using hc)).new hbl
    · rw [← flat_put _ _ _ _ (by omega)]
      obtain ⟨A', c', e, hrd, _⟩ := k3.rd
      injection e with e1 e2 e3
      subst e1 e3
      exact hrd
theorem OwnX.rdL {w0 w : World} {u : Value} {l : List (Int × Int)} {L : Nat} (h : OwnX w0 w u l) (hL : l.length = L) : ∃ Al cl, u = .slice Al L cl ∧ RdF insCs 2 w Al L cl l ∧ ∀ b o, Al = some ⟨b, o, none⟩ → u.ownBlock = some b := by
  subst hL
  obtain ⟨A, c, e, hr, ho⟩ := h.1.rd
  exact ⟨A, c, e, ⟨rfl, hr⟩, ho⟩
set_option maxRecDepth 100000 in
set_option maxHeartbeats 8000000 in
theorem law_dead {w : World} {A : Option Addr} {n c : Nat} {p : ProgD} (h : ProgAt w A n c p) (op a : Int) : Calls Try.prog 8 #[.slice A n c, .agg #[.int .i64 op, .int .i64 a]] w (LawR w) := by
  have hl := h.len
  have hmost := h.most
  unfold Most at hmost
  obtain ⟨W0, hW0⟩ : ∃ W0, W0 = w.alloc (.cells #[.int .i64 op, .int .i64 a] 43) := ⟨_, rfl⟩
  have hb0 : Below w.heap.size w W0 := by rw [hW0]; exact (by repeat (first | exact Below.refl _ _ | assumption | refine Below.setCell ?_ (by first | (simp; done) | (simp; omega) | omega) _ | refine below_drewN ?_ _ | refine Below.drew ?_ | refine Below.alloc ?_ (by first | (simp; done) | (simp; omega) | omega) _))
  have HB0 := Lib.hid hb0
  have HX := Lib.hid (show Blk W0 w.heap.size 43 #[.int .i64 op, .int .i64 a] by rw [hW0]; exact Blk.new w 43 _)
  have H := Lib.hid (h.new hb0)
  have KP := Lib.hid (program_any (h.new hb0))
  have KB : Hid (∀ w', Below W0.heap.size W0 w' → Calls Try.prog 10 #[.slice A n c] w' fun e w2 => e = .returned (.bool (bigB p)) ∧ w' = w2) := Lib.hid fun w' hb => big_any ((h.new hb0).new hb)
  have HW0 := Lib.hid hW0
  obtain ⟨⟨r1, r2, r3⟩, hr⟩ : ∃ r, r = programE p := ⟨_, rfl⟩
  rw [← hr] at KP
  by_cases hb1 : bigB p = true
  · rw [hb1] at KB
    clear hb1 hl h hr hb0
    rw [hW0] at KP KB
    subst hW0
    go_enter Try.func8, Try.ntmps8
    go_wp2_with (first | ((with_reducible refine KP.out.mono ?_); rintro e w1 ⟨hb1, rfl⟩; have HB1 := Lib.hid hb1; clear hb1) | ((with_reducible refine (KB.out _ HB1.out).mono ?_); rintro e w2 ⟨rfl, rfl⟩))
    refine (seen_any w1).mono ?_
    rintro e w5 ⟨rfl, hb5⟩
    have HB5 := Lib.hid (HB0.out.trans ((HB1.out.trans (hb5.mono HB1.out.size)).mono HB0.out.size))
    clear hb5
    go_wp2_with fail
    go_ret
    exact ⟨rfl, HB5.out⟩
  have hb1 : bigB p = false := by simpa using hb1
  rw [hb1] at KB
  by_cases he : r1 = 0
  case neg =>
    have he1 : (r1 == 0) = false := by simpa using he
    have he2 : (r1 != 0) = true := by simpa using he
    clear hb1 hl h hr hb0 he
    rw [hW0] at KP KB
    subst hW0
    go_enter Try.func8, Try.ntmps8
    go_wp2_with (first | ((with_reducible refine KP.out.mono ?_); rintro e w1 ⟨hb1, rfl⟩; have HB1 := Lib.hid hb1; clear hb1) | ((with_reducible refine (KB.out _ HB1.out).mono ?_); rintro e w2 ⟨rfl, rfl⟩))
    refine (seen_any w1).mono ?_
    rintro e w5 ⟨rfl, hb5⟩
    have HB5 := Lib.hid (HB0.out.trans ((HB1.out.trans (hb5.mono HB1.out.size)).mono HB0.out.size))
    clear hb5
    go_wp2_with fail
    go_ret
    exact ⟨rfl, HB5.out⟩
  case pos =>
    subst he
    obtain ⟨c0, r, rfl⟩ : ∃ c0 r, p = c0 :: r := by
      obtain ⟨⟨c0, r, e, _⟩, _⟩ := program_ok hr.symm
      exact ⟨c0, r, e⟩
    obtain ⟨l2, hl2, hcase⟩ := program_longer (op, a) hr.symm
    have hsm := small_of hb1
    have hs0 := (hsm.2 c0 (by simp)).1
    have hn60 : n ≤ 60 := by rw [← hl]; exact hsm.1
    have hpos : 0 < n := by rw [← hl]; simp
    obtain ⟨be, oe, cs, rfl, hbe, hca, hce⟩ := (h.new hb0).at_ (i := 0) (x := c0) rfl
    obtain ⟨A1, n1, c1, A2, n2, c2, A3, n3, c3, A4, n4, c4, A5, n5, c5, A6, n6, c6, rfl, -, -, -, -, -, r6, -⟩ := hca.parts
    have R6 := Lib.hid r6
    have hl6 := r6.1
    have hn6 : n6 ≤ 600 := by omega
    have HE10 : Hid (W0.cell? ⟨be, oe + 10, none⟩ = some (.slice A6 n6 c6)) := Lib.hid (by have := hce 10 _ rfl; simpa using this)
    obtain ⟨L, hL⟩ : ∃ L, L = n6 + 2 := ⟨_, rfl⟩
    obtain ⟨L1, hL1⟩ : ∃ L1, L1 = n6 + 1 := ⟨_, rfl⟩
    have HL := Lib.hid hL
    have HL1 := Lib.hid hL1
    have HL6 := Lib.hid hl6
    have HLN := Lib.hid hl
    have HL2 := Lib.hid hl2
    have HCA := Lib.hid hcase
    have HLL : Hid ((c0.ins ++ [(op, a), (50, 0)]).length = L) := Lib.hid (by rw [List.length_append, hl6, hL]; rfl)
    have HNM : Hid (n ≤ Most) := Lib.hid h.most
    have HLM : Hid (L * 16 ≤ Most) := Lib.hid (by unfold Most; omega)
    have d0 : decide (n < 1) = false := decide_eq_false (by omega)
    have d1 : decide ((n : Int) < 1) = false := decide_eq_false (by omega)
    have d2 : (n == 0) = false := by simp; omega
    have d3 : n ≠ 0 := by omega
    rw [hW0] at KP
    clear hb1 hl h hr hb0 hca hce r6 hl6 hL hL1 hsm hs0 hl2 hcase hW0
    go_enter Try.func8, Try.ntmps8
    go_wp2_with (first
      | ((with_reducible refine KP.out.mono ?_); rw [← HW0.out]; rintro e w1 ⟨hb1, rfl⟩; have HB1 := Lib.hid hb1; have e10 := (hb1.cell (p := ⟨be, oe + 10, none⟩) hbe).trans HE10.out; clear hb1)
      | ((with_reducible refine (KB.out _ HB1.out).mono ?_); rintro e w2 ⟨rfl, rfl⟩)
      | (at_builtin; refine wpList_appendP W0 _ rfl (.tmp 35) (.tmp 36) rfl (.slice (some ⟨w1.heap.size, 0, none⟩) 0 0) [] (c0 :: r) rfl (OwnP.start HB1.out) (some ⟨be, oe, none⟩) n c rfl H.out (by simp; omega) ?_; intro v2 w2 hv2; rw [List.nil_append] at hv2; obtain ⟨qb, qc, rfl, hqb1, hqb2⟩ := hv2.blk HLN.out hpos; have HV2 := Lib.hid hv2; have e10 := (hv2.bel.cell (p := ⟨be, oe + 10, none⟩) hbe).trans HE10.out; have hbe2 : be < w2.heap.size := (by have := hv2.bel.size; omega); clear hv2)
      | (at_builtin; refine wpList_appendX W0 _ (by have := HV2.out.bel.size; simp; omega) rfl (.tmp 39) (.tmp 43) rfl (.slice (some ⟨w2.heap.size, 0, none⟩) 0 0) [] rfl (OwnX.start HV2.out.bel.size) A6 n6 c6 c0.ins rfl (RdF.new R6.out (HV2.out.bel.trans ((show Below w2.heap.size w2 _ from (by exact (by repeat (first | exact Below.refl _ _ | assumption | refine Below.setCell ?_ (by first | (simp; done) | (simp; omega) | omega) _ | refine below_drewN ?_ _ | refine Below.drew ?_ | refine Below.alloc ?_ (by first | (simp; done) | (simp; omega) | omega) _)))).mono HV2.out.bel.size))) (by simp; omega) ?_; intro u3 w3 hu3 hg3; rw [List.nil_append] at hu3; have hv3 := (HV2.out.below (show Below w2.heap.size w2 _ from (by exact (by repeat (first | exact Below.refl _ _ | assumption | refine Below.setCell ?_ (by first | (simp; done) | (simp; omega) | omega) _ | refine below_drewN ?_ _ | refine Below.drew ?_ | refine Below.alloc ?_ (by first | (simp; done) | (simp; omega) | omega) _))))).far (OwnX.start HV2.out.bel.size) hg3; have HU3 := Lib.hid hu3; have HV3 := Lib.hid hv3; have hx3 := HX.out.new' hv3.bel; have x0 := hx3.cell 0; have x1 := hx3.cell 1; have xl := hx3.lt; simp only [List.getElem?_toArray, List.getElem?_cons_zero, List.getElem?_cons_succ] at x0 x1; clear hu3 hg3 hv3 hx3)
      | (at_builtin; refine wpList_appendX W0 _ (by have := HV3.out.bel.size; simp; omega) rfl (.tmp 45) (.tmp 48) rfl u3 c0.ins rfl (HU3.out.below (by exact (by repeat (first | exact Below.refl _ _ | assumption | refine Below.setCell ?_ (by first | (simp; done) | (simp; omega) | omega) _ | refine below_drewN ?_ _ | refine Below.drew ?_ | refine Below.alloc ?_ (by first | (simp; done) | (simp; omega) | omega) _)))) (some ⟨w3.heap.size, 0, none⟩) 2 2 [(op, a), (50, 0)] rfl (ins_row w3 [(op, a), (50, 0)] (by simp)) (by rw [HL6.out]; omega) ?_; intro u4 w4 hu4 hg4; have hv4 := (HV3.out.below (show Below w3.heap.size w3 _ from (by exact (by repeat (first | exact Below.refl _ _ | assumption | refine Below.setCell ?_ (by first | (simp; done) | (simp; omega) | omega) _ | refine below_drewN ?_ _ | refine Below.drew ?_ | refine Below.alloc ?_ (by first | (simp; done) | (simp; omega) | omega) _))))).far (HU3.out.below (by exact (by repeat (first | exact Below.refl _ _ | assumption | refine Below.setCell ?_ (by first | (simp; done) | (simp; omega) | omega) _ | refine below_drewN ?_ _ | refine Below.drew ?_ | refine Below.alloc ?_ (by first | (simp; done) | (simp; omega) | omega) _)))) hg4; obtain ⟨Al, cl, rfl, hrd, hob⟩ := hu4.rdL HLL.out; obtain ⟨⟨vq, hcv⟩, hfz, hprog⟩ := hv4.put HLN.out HNM.out hqb1 hu4 rfl hrd HLM.out hob; have HPR := Lib.hid hprog; have HV4 := Lib.hid hv4; have zq := hcv; have hq4 : qb < w4.heap.size := (by have := hv4.blk HLN.out hpos; obtain ⟨q1, q2, q3, q4, q5⟩ := this; injection q3 with q3; injection q3 with q3; injection q3 with q3; omega); clear hu4 hg4 hv4 hrd hob hprog zq))
    have HB4 : Hid (Below W0.heap.size W0 (w4.setCell ⟨qb, 10, none⟩ (.slice Al L cl))) := Lib.hid (HV4.out.bel.setCell hqb1 _)
    have sL1 : (L : Int) - 1 = (L1 : Int) := by have := HL.out; have := HL1.out; omega
    have sL2 : (L : Int) - 2 = (n6 : Int) := by have := HL.out; omega
    have sL3 : L1 < L := by have := HL.out; have := HL1.out; omega
    have sL4 : n6 < L := by have := HL.out; omega
    have sL5 : L ≤ 602 := by have := HL.out; omega
    generalize w4.setCell ⟨qb, 10, none⟩ (.slice Al L cl) = w5 at *
    rcases HCA.out with ⟨k1, k2⟩ | ⟨e, he, k1⟩
    · have KQ := program_any HPR.out
      rw [show programE ({ c0 with ins := c0.ins ++ [(op, a), (50, 0)] } :: r) = (0, 0, 0) from k1] at KQ
      refine KQ.mono ?_
      clear KQ
      rintro e w6 ⟨hb6, rfl⟩
      have KH := heights_any (HPR.out.new hb6) 0
      rw [show heightsE ({ c0 with ins := c0.ins ++ [(op, a), (50, 0)] } :: r) 0 = (l2 ++ [-1, -1], 0, 0) from k2] at KH
      have KHH := Lib.hid KH
      have HB6 := Lib.hid (HB4.out.trans (hb6.mono HB4.out.size))
      clear KH hb6 k1 k2
      go_wp2_with ((with_reducible refine KHH.out.mono ?_); rintro e w7 ⟨hb7, Ah, nh, ch, rfl, hlh, hrh⟩; obtain rfl : nh = L := (by have h8 := HL.out; have h9 := HL2.out; have h10 := HL6.out; rw [← hlh]; simp; omega); have HRH := Lib.hid hrh; have HB7 := Lib.hid (HB6.out.trans (hb7.mono HB6.out.size)); clear hb7 hlh hrh)
      refine (seen_any w7).mono ?_
      rintro e w8 ⟨rfl, hb8⟩
      obtain ⟨hbk, hok, rfl, hbl, hcc⟩ := (HRH.out.new hb8).2.2.2 (by omega)
      have c1 : w8.cell? ⟨hbk, hok + L1, none⟩ = some (.int .i64 (-1)) := hcc L1 _ (by
        rw [List.map_append, List.getElem?_append_right (by have := HL1.out; have := HL2.out; have := HL6.out; simp; omega)]
        have h8 : L1 - (l2.map (Value.int .i64)).length = 1 := by have := HL1.out; have := HL2.out; have := HL6.out; simp; omega
        rw [h8]
        rfl)
      have c2 : w8.cell? ⟨hbk, hok + n6, none⟩ = some (.int .i64 (-1)) := hcc n6 _ (by
        rw [List.map_append, List.getElem?_append_right (by have := HL2.out; have := HL6.out; simp; omega)]
        have h8 : n6 - (l2.map (Value.int .i64)).length = 0 := by have := HL2.out; have := HL6.out; simp; omega
        rw [h8]
        rfl)
      have HB8 := Lib.hid (HB0.out.trans ((HB7.out.trans (hb8.mono HB7.out.size)).mono HB0.out.size))
      clear hcc hb8
      go_wp2_with fail
      go_ret
      exact ⟨rfl, HB8.out⟩
    · have KQ := program_any HPR.out
      rw [show programE ({ c0 with ins := c0.ins ++ [(op, a), (50, 0)] } :: r) = (e, 0, (c0.ins.length : Int)) from k1, HL6.out] at KQ
      refine KQ.mono ?_
      clear KQ
      rintro e' w6 ⟨hb6, rfl⟩
      obtain ⟨⟨y1, y2, y3⟩, hy⟩ : ∃ y, y = heightsE ({ c0 with ins := c0.ins ++ [(op, a), (50, 0)] } :: r) 0 := ⟨_, rfl⟩
      have KH := heights_any (HPR.out.new hb6) 0
      rw [← hy] at KH
      have KHH := Lib.hid KH
      have HB6 := Lib.hid (HB4.out.trans (hb6.mono HB4.out.size))
      clear KH hb6 k1 hy
      have hee : (e == 0) = false := by rcases he with rfl | rfl | rfl <;> rfl
      have HEE := Lib.hid he
      clear he
      go_wp2_with ((with_reducible refine KHH.out.mono ?_); rintro e w7 ⟨hb7, Ah, nh, ch, rfl, hlh, hrh⟩; have HB7 := Lib.hid (HB6.out.trans (hb7.mono HB6.out.size)); clear hb7 hlh hrh)
      refine (seen_any w7).mono ?_
      rintro e'' w8 ⟨rfl, hb8⟩
      have HB8 := Lib.hid (HB0.out.trans ((HB7.out.trans (hb8.mono HB7.out.size)).mono HB0.out.size))
      clear hb8 hee
      rcases HEE.out with rfl | rfl | rfl
      all_goals
        go_wp2_with fail
        go_ret
        exact ⟨rfl, HB8.out⟩

set_option maxRecDepth 100000 in
theorem verifyDead_lifted (os : Os) (started : os.Started) (H : Type) (enc : TypeId × Value → H) :
    ReturnsInHanded {} Try.checked os 8 .any (Rows.verifyDeadSpec.pre6 enc Try.prog Try.f8 Rows.verifyDeadRow.domain false) (Rows.verifyDeadSpec.post enc Try.prog Try.f8 false true false false) := by
  refine returnsInHanded_of_change_sized (C := Try.checked) Try.own started (by kernel_rfl) Try.func8
    (ChangeSpec.witness6 (enc := enc) (C := Try.checked) false ⟨#[], #[.slice none 0 0, .agg #[.int .i64 0, .int .i64 0]], []⟩ 8 (by kernel_rfl) (by kernel_rfl) (by kernel_rfl) (by kernel_rfl)) ?_
  intro W base args ds gs before hval0 hW _ hsz0 _
  have hsz : (DataW.weightsEach Try.prog (Try.f8.params.toList ++ Rows.verifyDeadSpec.plain.varTypes Try.prog) (ds ++ gs)).all (· ≤ reachBytes) = true := hsz0
  have hval : ∀ (j : Nat) t v, Try.f8.params[j]? = some t → args[j]? = some v → Value.okWide Try.prog W .any base t v := hval0
  have hW' := hW
  obtain ⟨p, q, hA0, hV, rfl, hfz, hnd⟩ := hW
  have hA : DataW.TrodAll enc Try.prog W 0 (fun _ => true) true Try.f8.params.toList args.toList ds p := hA0
  rw [Try.params8] at hA hval hsz
  obtain ⟨v0, v1, d0, d1, p0, p1, rfl, rfl, rfl, h0, h1⟩ := trodAll_two hA
  have z0 : Reach_ 23 d0 := fun k hk => by
    have := List.all_eq_true.1 hsz k (DataW.weights_mem_each (j := 0) (t := 23) (d := d0) rfl rfl k hk)
    exact of_decide_eq_true (p := k ≤ reachBytes) this
  obtain ⟨A0, n0, c0, l0, rfl, r0⟩ := open_prog (hval 0 23 v0 rfl rfl) h0 z0
  obtain ⟨x1, a1, rfl⟩ := open_ins (hval 1 43 v1 rfl rfl) h1
  refine (law_dead r0 x1 a1).mono fun e W' ⟨he, hb⟩ => ?_
  subst he
  exact ⟨_, rfl, law_post Try.laidOut (by rw [Try.params8]; decide +kernel) (by kernel_rfl) Try.underlying4 rfl (by
    intro l hl
    rw [Try.params8] at hl
    match l, hl with
    | [e0, e1], _ => rfl) hW' hb⟩

theorem verifyDead_holds : Rows.VerifyDeadSaid :=
  OpenClaim.holds_of_wide 8 Try.f8 rfl rfl rfl rfl rfl rfl rfl ⟨rfl, rfl, rfl, rfl, rfl⟩ rfl rfl rfl rfl rfl (by kernel_rfl) Try.func8 (by kernel_rfl)
    (of_decide_eq_true (by kernel_rfl)) (by unfold Func.isWrapper; first | (rw [if_pos (by decide +kernel)]; kernel_rfl) | (rw [if_neg (by decide +kernel)]; exact ⟨rfl, rfl⟩))
    (fun os started H enc _ => verifyDead_lifted os started H enc)
#print axioms verifyDead_holds

end Go.Proofs.Ytgnejkmojfhfpaa
