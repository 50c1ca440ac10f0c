/- ExpressBinds: the walk. -/
import Derived.Test.YtjdcicopjipmnaaDoorIts
import Derived.Test.YtjdcicopjipmnaaDoorBnp
namespace Go.Proofs.YtjdcicopjipmnaaDoor
open Go.RowKit
set_option linter.unusedVariables false
set_option linter.unusedSimpArgs false
set_option maxRecDepth 100000 in
set_option maxHeartbeats 40000000 in
theorem binds_walk (i k : Nat) (hi : i < 256) (hk : k < 256) (a b c : Int) (w : World) (htab : Asp w) : Calls Tryd.prog 6 #[.int .u8 i, .int .u8 k, .agg #[.int .i64 a, .int .i64 b, .int .i64 c]] w fun e w' => e = .returned (.bool true) ∧ Below w.heap.size w w' := by
  have HT := Lib.hid htab
  have hX := opT_len (i % 18)
  have hY := opT_len (k % 18)
  have hX1 := opT_pos (j := i % 18) (by omega)
  have HOK := Lib.hid (bind_ok a b c (i := i % 18) (k := k % 18) (by omega) (by omega))
  clear htab
  go_enter Tryd.func6, Tryd.ntmps6
  go_upto_region 2 with (go_at_call 14; go_must (refine (shown_any _ (HT.out.below (by repeat (first | exact Below.refl _ _ | assumption | refine Below.setCell ?_ (by first | (simp; done) | (simp; omega) | omega) _ | refine below_drewN ?_ _ | refine Below.drew ?_ | refine Below.alloc ?_ (by first | (simp; done) | (simp; omega) | omega) _)))).mono ?_); rintro e w1 ⟨rfl, hb1⟩; have HH : Hid (Hold w.heap.size w1 [(.pointer (some ⟨w.heap.size, 0, none⟩), .ptr 45 #[.int .i64 a, .int .i64 b, .int .i64 c])]) := Lib.hid (((Hold.nil w.heap.size w).new (it := .ptr 45 #[.int .i64 a, .int .i64 b, .int .i64 c]) (by repeat (first | exact Below.refl _ _ | assumption | refine Below.setCell ?_ (by first | (simp; done) | (simp; omega) | omega) _ | refine below_drewN ?_ _ | refine Below.drew ?_ | refine Below.alloc ?_ (by first | (simp; done) | (simp; omega) | omega) _)) (Nat.le_refl _) ⟨_, rfl, Nat.le_refl _, Blk.new w 45 _⟩).bel hb1); have HB : Hid (Below w.heap.size w w1) := Lib.hid (Below.trans (by repeat (first | exact Below.refl _ _ | assumption | refine Below.setCell ?_ (by first | (simp; done) | (simp; omega) | omega) _ | refine below_drewN ?_ _ | refine Below.drew ?_ | refine Below.alloc ?_ (by first | (simp; done) | (simp; omega) | omega) _)) (below_low hb1 (by simp))); clear hb1)
  go_upto_region 3 with (go_at_call 22; go_must (refine (operator_any i hi _).mono ?_); rintro e w2 ⟨v, rfl, hn⟩; replace HH := Lib.hid (HH.out.new (it := .row (opT (i % 18))) hn.bel HB.out.size ⟨hn.own, hn.new⟩); replace HB := Lib.hid (HB.out.trans (below_low hn.bel HB.out.size)); obtain ⟨X, hGX⟩ : ∃ X, opT (i % 18) = X := ⟨_, rfl⟩; rw [hGX] at HH hX hX1; replace hn := hn.own; rw [hGX] at hn; obtain ⟨A1, c1, rfl, -, -⟩ := Own.rd hn; have HX := Lib.hid hGX; clear hGX hn)
  go_upto_region 5 with (go_at_call 22; go_must (refine (operator_any k hk _).mono ?_); rintro e w3 ⟨v, rfl, hn⟩; replace HH := Lib.hid (HH.out.new (it := .row (opT (k % 18))) hn.bel HB.out.size ⟨hn.own, hn.new⟩); replace HB := Lib.hid (HB.out.trans (below_low hn.bel HB.out.size)); obtain ⟨Y, hGY⟩ : ∃ Y, opT (k % 18) = Y := ⟨_, rfl⟩; rw [hGY] at HH hY; replace hn := hn.own; rw [hGY] at hn; obtain ⟨A2, c2, rfl, -, -⟩ := Own.rd hn; have HY := Lib.hid hGY; clear hGY hn)
  refine wp_items (by kernel_rfl) [⟨40, none, .val (.pointer (some ⟨w.heap.size, 0, none⟩))⟩, ⟨41, none, .val (.int .i64 a)⟩, ⟨42, none, .val (tokV (numT a))⟩, ⟨43, some 5, .row [numT a]⟩, ⟨44, none, .val (.slice A1 X.length c1)⟩, ⟨45, some 10, .row ([numT a] ++ X)⟩, ⟨46, none, .val (.pointer (some ⟨w.heap.size, 1, none⟩))⟩, ⟨47, none, .val (.int .i64 b)⟩, ⟨48, none, .val (tokV (numT b))⟩, ⟨49, none, .row [numT b]⟩, ⟨50, some 11, .row (([numT a] ++ X) ++ [numT b])⟩, ⟨13, none, .row (([numT a] ++ X) ++ [numT b])⟩, ⟨11, none, .row Y⟩, ⟨9, none, .row X⟩, ⟨5, none, .ptr 45 #[.int .i64 a, .int .i64 b, .int .i64 c]⟩] [40, 41, 42, 43, 44, 45, 46, 47, 48, 49, 50, 13, 11, 9, 5] [none, none, none, some 5, none, some 10, none, none, none, none, some 11, none, none, none, none] rfl rfl 218 w.heap.size HB.out.size rfl (by kernel_rfl) [11, 12, 13, 14] (by decide) (by decide) HH.out ?_ [some 40, some 41, some 42, some 43, some 44, some 45, some 46, some 47, some 48, some 49, some 50, some 13] rfl [(13, .row (([numT a] ++ X) ++ [numT b])), (11, .row Y), (9, .row X), (5, .ptr 45 #[.int .i64 a, .int .i64 b, .int .i64 c])] rfl rfl ?_
  · exact ⟨step_addr rfl (Ev.base (by kernel_rfl) rfl) (Ev.const _) (fun w => by go_simp) rfl (by simp), step_load rfl (Ev.item 0 (by kernel_rfl) (by kernel_rfl) rfl rfl) (fun a w S hA => by have hb := Ev.blk 14 (Ev.base (by kernel_rfl) rfl) (by kernel_rfl) (by kernel_rfl) rfl a w S hA; have c0 := hb.cell 0; simp only [List.getElem?_toArray, List.getElem?_cons_zero, List.getElem?_cons_succ] at c0; go_simp) rfl (by simp), step_num rfl (Ev.item 1 (by kernel_rfl) (by kernel_rfl) rfl rfl) rfl (by simp), step_made1 rfl (Ev.item 2 (by kernel_rfl) (by kernel_rfl) rfl rfl) rfl (by simp), step_move rfl (Ev.base (by kernel_rfl) rfl) rfl (by simp), step_app 3 rfl (by kernel_rfl) rfl rfl rfl (EvRow.via 13 (Ev.item 4 (by kernel_rfl) (by kernel_rfl) rfl rfl) (Ev.base (by kernel_rfl) rfl) (by kernel_rfl) (by kernel_rfl) rfl) (by (try simp only [List.length_append, List.length_cons, List.length_nil]); omega) rfl (by simp), step_addr rfl (Ev.base (by kernel_rfl) rfl) (Ev.const _) (fun w => by go_simp) rfl (by simp), step_load rfl (Ev.item 6 (by kernel_rfl) (by kernel_rfl) rfl rfl) (fun a w S hA => by have hb := Ev.blk 14 (Ev.base (by kernel_rfl) rfl) (by kernel_rfl) (by kernel_rfl) rfl a w S hA; have c0 := hb.cell 1; simp only [List.getElem?_toArray, List.getElem?_cons_zero, List.getElem?_cons_succ] at c0; go_simp) rfl (by simp), step_num rfl (Ev.item 7 (by kernel_rfl) (by kernel_rfl) rfl rfl) rfl (by simp), step_made1 rfl (Ev.item 8 (by kernel_rfl) (by kernel_rfl) rfl rfl) rfl (by simp), step_app 5 rfl (by kernel_rfl) rfl rfl rfl (EvRow.item 9 (by kernel_rfl) (by kernel_rfl) rfl rfl) (by (try simp only [List.length_append, List.length_cons, List.length_nil]); omega) rfl (by simp), step_pass 10 (.inr rfl) (by kernel_rfl) rfl rfl rfl (by simp), True.intro⟩
  intro xs w9 hxs hbel hgr hh
  replace hxs : xs.length = 12 := hxs
  obtain ⟨x0, ys0, rfl, hx0⟩ := len_succ hxs
  obtain ⟨x1, ys1, rfl, hx1⟩ := len_succ hx0
  obtain ⟨x2, ys2, rfl, hx2⟩ := len_succ hx1
  obtain ⟨x3, ys3, rfl, hx3⟩ := len_succ hx2
  obtain ⟨x4, ys4, rfl, hx4⟩ := len_succ hx3
  obtain ⟨x5, ys5, rfl, hx5⟩ := len_succ hx4
  obtain ⟨x6, ys6, rfl, hx6⟩ := len_succ hx5
  obtain ⟨x7, ys7, rfl, hx7⟩ := len_succ hx6
  obtain ⟨x8, ys8, rfl, hx8⟩ := len_succ hx7
  obtain ⟨x9, ys9, rfl, hx9⟩ := len_succ hx8
  obtain ⟨x10, ys10, rfl, hx10⟩ := len_succ hx9
  obtain ⟨x11, ys11, rfl, hx11⟩ := len_succ hx10
  obtain rfl := len_zero hx11
  clear hxs hx0 hx1 hx2 hx3 hx4 hx5 hx6 hx7 hx8 hx9 hx10 hx11
  replace hh : Hold w.heap.size w9 [(x11, .row (([numT a] ++ X) ++ [numT b])), ((.slice A2 Y.length c2), .row Y), ((.slice A1 X.length c1), .row X), ((.pointer (some ⟨w.heap.size, 0, none⟩)), .ptr 45 #[.int .i64 a, .int .i64 b, .int .i64 c])] := hh
  obtain ⟨L1, hL1⟩ : ∃ L1, ([numT a] ++ X ++ [numT b]) = L1 := ⟨_, rfl⟩
  rw [hL1] at hh
  obtain ⟨A3, c3, rfl, -, -⟩ := Own.rd hh.own
  replace HB := Lib.hid (HB.out.trans hbel)
  have HL1 := Lib.hid hL1
  have HlL1 : Hid (L1.length = X.length + 2) := Lib.hid (by rw [← hL1]; simp only [List.length_append, List.length_cons, List.length_nil]; try omega)
  clear HH
  have HH := Lib.hid hh
  clear hh hL1 hbel hgr
  simp only [List.zip_cons_cons, List.zip_nil_left, List.zip_nil_right, putAll]
  go_upto_region 7 with fail
  have hl1 : L1.length ≤ 4 := by have := HlL1.out; omega
  refine wp_items (by kernel_rfl) [⟨53, some 2, .row L1⟩, ⟨54, none, .val (.slice A2 Y.length c2)⟩, ⟨55, some 7, .row (L1 ++ Y)⟩, ⟨56, none, .val (.pointer (some ⟨w.heap.size, 2, none⟩))⟩, ⟨57, none, .val (.int .i64 c)⟩, ⟨58, none, .val (tokV (numT c))⟩, ⟨59, none, .row [numT c]⟩, ⟨60, some 8, .row ((L1 ++ Y) ++ [numT c])⟩, ⟨13, none, .row ((L1 ++ Y) ++ [numT c])⟩, ⟨13, some 0, .row L1⟩, ⟨11, none, .row Y⟩, ⟨9, none, .row X⟩, ⟨5, none, .ptr 45 #[.int .i64 a, .int .i64 b, .int .i64 c]⟩] [53, 54, 55, 56, 57, 58, 59, 60, 13, 13, 11, 9, 5] [some 2, none, some 7, none, none, none, none, some 8, none, some 0, none, none, none] rfl rfl 218 w.heap.size HB.out.size rfl (by kernel_rfl) [8] (by decide) (by decide) HH.out ?_ [some 53, some 54, some 55, some 56, some 57, some 58, some 59, some 60, some 13] rfl [(13, .row ((L1 ++ Y) ++ [numT c]))] rfl rfl ?_
  · exact ⟨step_pass 9 (.inl rfl) (by kernel_rfl) rfl rfl rfl (by simp), step_move rfl (Ev.base (by kernel_rfl) rfl) rfl (by simp), step_app 0 rfl (by kernel_rfl) rfl rfl rfl (EvRow.via 10 (Ev.item 1 (by kernel_rfl) (by kernel_rfl) rfl rfl) (Ev.base (by kernel_rfl) rfl) (by kernel_rfl) (by kernel_rfl) rfl) (by (try simp only [List.length_append, List.length_cons, List.length_nil]); omega) rfl (by simp), step_addr rfl (Ev.base (by kernel_rfl) rfl) (Ev.const _) (fun w => by go_simp) rfl (by simp), step_load rfl (Ev.item 3 (by kernel_rfl) (by kernel_rfl) rfl rfl) (fun a w S hA => by have hb := Ev.blk 12 (Ev.base (by kernel_rfl) rfl) (by kernel_rfl) (by kernel_rfl) rfl a w S hA; have c0 := hb.cell 2; simp only [List.getElem?_toArray, List.getElem?_cons_zero, List.getElem?_cons_succ] at c0; go_simp) rfl (by simp), step_num rfl (Ev.item 4 (by kernel_rfl) (by kernel_rfl) rfl rfl) rfl (by simp), step_made1 rfl (Ev.item 5 (by kernel_rfl) (by kernel_rfl) rfl rfl) rfl (by simp), step_app 2 rfl (by kernel_rfl) rfl rfl rfl (EvRow.item 6 (by kernel_rfl) (by kernel_rfl) rfl rfl) (by (try simp only [List.length_append, List.length_cons, List.length_nil]); omega) rfl (by simp), step_pass 7 (.inr rfl) (by kernel_rfl) rfl rfl rfl (by simp), True.intro⟩
  intro xs w10 hxs hbel hgr hh
  replace hxs : xs.length = 9 := hxs
  obtain ⟨x0, ys0, rfl, hx0⟩ := len_succ hxs
  obtain ⟨x1, ys1, rfl, hx1⟩ := len_succ hx0
  obtain ⟨x2, ys2, rfl, hx2⟩ := len_succ hx1
  obtain ⟨x3, ys3, rfl, hx3⟩ := len_succ hx2
  obtain ⟨x4, ys4, rfl, hx4⟩ := len_succ hx3
  obtain ⟨x5, ys5, rfl, hx5⟩ := len_succ hx4
  obtain ⟨x6, ys6, rfl, hx6⟩ := len_succ hx5
  obtain ⟨x7, ys7, rfl, hx7⟩ := len_succ hx6
  obtain ⟨x8, ys8, rfl, hx8⟩ := len_succ hx7
  obtain rfl := len_zero hx8
  clear hxs hx0 hx1 hx2 hx3 hx4 hx5 hx6 hx7 hx8
  replace hh : Hold w.heap.size w10 [(x8, .row ((L1 ++ Y) ++ [numT c]))] := hh
  obtain ⟨L2, hL2⟩ : ∃ L2, (L1 ++ Y ++ [numT c]) = L2 := ⟨_, rfl⟩
  rw [hL2] at hh
  obtain ⟨A4, c4, rfl, -, -⟩ := Own.rd hh.own
  replace HB := Lib.hid (HB.out.trans hbel)
  have HL2 := Lib.hid hL2
  have HlL2 : Hid (L2.length = L1.length + Y.length + 1) := Lib.hid (by rw [← hL2]; simp only [List.length_append, List.length_cons, List.length_nil]; try omega)
  clear HH
  have HH := Lib.hid hh
  clear hh hL2 hbel hgr
  simp only [List.zip_cons_cons, List.zip_nil_left, List.zip_nil_right, putAll]
  have hBL : bindL (i % 18) (k % 18) a b c = L2 := by rw [← HL2.out, ← HL1.out, ← HX.out, ← HY.out]; rfl
  have hsm : ∀ t ∈ L2, t.s.size ≤ maxLen := by
    rw [← hBL]
    exact smallA (smallA (smallA (smallA (smallN a) (opT_small _)) (smallN b)) (opT_small _)) (smallN c)
  obtain ⟨r, hr⟩ := exprE_start L2
  have hok := HOK.out
  unfold bindOk at hok
  rw [hBL, show parsed L2 = some r from hr] at hok
  simp only at hok
  obtain ⟨T, hT⟩ : ∃ T, treeOf r.1.ns = T := ⟨_, rfl⟩
  obtain ⟨N, hN⟩ : ∃ N, nodeOf r = N := ⟨_, rfl⟩
  obtain ⟨U, hU⟩ : ∃ U, usedOf r = U := ⟨_, rfl⟩
  obtain ⟨E, hE⟩ : ∃ E, r.1.e = E := ⟨_, rfl⟩
  obtain ⟨tl, htl⟩ : ∃ tl, T.length = tl := ⟨_, rfl⟩
  rw [hT, hN, hU, hE, htl] at hok
  have HR := Lib.hid hr
  have HTT := Lib.hid hT
  have HN := Lib.hid hN
  have HU := Lib.hid hU
  have HE := Lib.hid hE
  have Htl := Lib.hid htl
  have HSM := Lib.hid hsm
  have hl2 : L2.length ≤ 10 := by have := HlL2.out; omega
  have HOK2 := Lib.hid hok
  clear HOK hok hr hT hN hU hE htl hsm hBL
  go_upto_region 9 with (go_at_call 16; go_must (refine (told_is (m := tl) (hm := Htl.out) (a := N) (b := U) (e := E) HR.out HN.out HU.out HE.out HTT.out (OwnT.rd_ HH.out.own) (OwnT.old HH.out.own) rfl (by omega) HSM.out (HT.out.below HB.out)).mono ?_); rintro e w11 ⟨A9, c9, rfl, hrn, hbn⟩; have HRN := Lib.hid hrn; replace HB := Lib.hid (HB.out.trans (below_low hbn HB.out.size)); clear HH hrn hbn)
  obtain ⟨p, hp⟩ : ∃ p, opL (i % 18) = p := ⟨_, rfl⟩
  obtain ⟨q, hq⟩ : ∃ q, opL (k % 18) = q := ⟨_, rfl⟩
  have hlp : levelB (opS (i % 18)) = p := (op_level _ (by omega)).trans hp
  have hlq : levelB (opS (k % 18)) = q := (op_level _ (by omega)).trans hq
  have hok := HOK2.out
  unfold bindLeft at hok
  rw [hp, hq, HX.out] at hok
  have HG : Hid (Blk (w11.alloc (.cells #[.int .i64 N, .int .i64 U, .int .i64 E, .slice A9 tl c9] 31)) w11.heap.size 31 #[.int .i64 N, .int .i64 U, .int .i64 E, .slice A9 tl c9]) := Lib.hid (Blk.new _ _ _)
  have HB2 : Hid (Below w.heap.size w (w11.alloc (.cells #[.int .i64 N, .int .i64 U, .int .i64 E, .slice A9 tl c9] 31))) := Lib.hid (by have := HB.out; have := this.size; exact (by repeat (first | exact Below.refl _ _ | assumption | refine Below.setCell ?_ (by first | (simp; done) | (simp; omega) | omega) _ | refine below_drewN ?_ _ | refine Below.drew ?_ | refine Below.alloc ?_ (by first | (simp; done) | (simp; omega) | omega) _)))
  have HRN2 := Lib.hid (HRN.out.belw (show Below w11.heap.size w11 (w11.alloc (.cells #[.int .i64 N, .int .i64 U, .int .i64 E, .slice A9 tl c9] 31)) from (by repeat (first | exact Below.refl _ _ | assumption | refine Below.setCell ?_ (by first | (simp; done) | (simp; omega) | omega) _ | refine below_drewN ?_ _ | refine Below.drew ?_ | refine Below.alloc ?_ (by first | (simp; done) | (simp; omega) | omega) _))))
  generalize w11.alloc (.cells #[.int .i64 N, .int .i64 U, .int .i64 E, .slice A9 tl c9] 31) = W at *
  generalize w11.heap.size = g at *
  clear HB HRN HOK2
  have HLP := Lib.hid hlp
  have HLQ := Lib.hid hlq
  clear hlp hlq
  have HP := Lib.hid hp
  have HQ := Lib.hid hq
  have HOK := Lib.hid hok
  clear hok hp hq
  go_upto_region 11 with (go_at_call 24; go_must (first | refine (level_is HLP.out (op_small _) _).mono ?_ | refine (level_is HLQ.out (op_small _) _).mono ?_); rintro e W2 ⟨rfl, hb⟩; replace HG := Lib.hid (HG.out.bel hb); replace HRN2 := Lib.hid (HRN2.out.belw hb); replace HB2 := Lib.hid (HB2.out.trans (below_low hb HB2.out.size)); clear hb)
  have hg := HG.out
  have g0 := hg.cell 0
  have g1 := hg.cell 1
  have g2 := hg.cell 2
  have g3 := hg.cell 3
  have glt := hg.lt
  simp only [List.getElem?_toArray, List.getElem?_cons_zero, List.getElem?_cons_succ] at g0 g1 g2 g3
  clear hg
  have hok := HOK.out
  by_cases h55 : p = 5 ∧ q = 5
  · rw [if_pos h55] at hok
    obtain ⟨rfl, rfl⟩ := h55
    simp only [Bool.and_eq_true, decide_eq_true_eq] at hok
    have hU : U = (L1.length : Int) := by rw [hok.2, HlL1.out]; omega
    have hE : E = 30 := hok.1
    have hle : ((1 : Int) + (X.length : Int)) ≤ (L1.length : Int) := by rw [HlL1.out]; omega
    subst hU hE
    clear hok
    go_wp2_with fail
    go_ret
    exact ⟨rfl, HB2.out⟩
  · rw [if_neg h55] at hok
    simp only [Bool.and_eq_true, decide_eq_true_eq] at hok
    obtain ⟨⟨⟨⟨rfl, rfl⟩, rfl⟩, rfl⟩, hok⟩ := hok
    by_cases hp5 : p = 5
    · subst hp5
      have hq5 : ¬ q = 5 := fun e => h55 ⟨rfl, e⟩
      rcases Int.lt_trichotomy q 5 with hlt | heq | hgt
      · rw [if_pos (by simp [hlt])] at hok
        simp only [Bool.and_eq_true] at hok
        obtain ⟨ha, hb⟩ := hok
        obtain ⟨at4, n4, h4⟩ := nodeIs_at ha
        obtain ⟨at2, n2, h2⟩ := nodeIs_at hb
        obtain ⟨B1, O1, B2, O2, C2, rfl, u1, u2, u3, u4, u5, u6, u7, u8, u9⟩ := HRN2.out.two h4
        obtain ⟨B1', O1', B3, O3, C3, e2, u1', v2, v3, v4, v5, v6, v7, v8, v9⟩ := HRN2.out.two h2
        injection e2 with e2
        injection e2 with e2 e3
        subst e2 e3
        obtain ⟨B1', O1', op3, at3, s3, n3, v, e2, -, z2, z3, z4, z5, z6, A5, m5, c5, rfl⟩ := HRN2.out.five (j := 3) (by have := Htl.out; omega)
        injection e2 with e2
        injection e2 with e2 e3
        subst e2 e3
        simp only [Nat.reduceMul] at u2 u3 u4 u5 u6 v2 v3 v4 v5 v6 z2 z3 z4 z5 z6
        clear ha hb h2 h4 u1'
        have f3 : decide (q < 5) = true := decide_eq_true hlt
        have hq5a : (q == 5) = false := by simp [hq5]
        have hq5b : (q != 5) = true := by simp [hq5]
        go_upto_region 32 with fail
        generalize hW3 : World.alloc _ _ = W3
        have hb3 : Below W2.heap.size W2 W3 := by rw [← hW3]; exact (by repeat (first | exact Below.refl _ _ | assumption | refine Below.setCell ?_ (by first | (simp; done) | (simp; omega) | omega) _ | refine below_drewN ?_ _ | refine Below.drew ?_ | refine Below.alloc ?_ (by first | (simp; done) | (simp; omega) | omega) _))
        have k0 : Blk W3 (W2.heap.size) 51 #[.int .i64 (opO (i % 18)), .int .i64 at2, .string (opX (i % 18)), .int .i64 n2, .slice (some ⟨B3, O3, none⟩) 2 C3] := by rw [← hW3]; exact Blk.alloc (Blk.alloc (Blk.alloc (Blk.alloc (Blk.alloc (Blk.alloc (Blk.alloc (Blk.at_new (by simp only [World.size_alloc])) _) _) _) _) _) _) _
        have k1 : Blk W3 (W2.heap.size + 1) 51 #[.int .i64 (opO (k % 18)), .int .i64 at4, .string (opX (k % 18)), .int .i64 n4, .slice (some ⟨B2, O2, none⟩) 2 C2] := by rw [← hW3]; exact Blk.alloc (Blk.alloc (Blk.alloc (Blk.alloc (Blk.alloc (Blk.alloc (Blk.at_new (by simp only [World.size_alloc])) _) _) _) _) _) _
        have k3 : Blk W3 (W2.heap.size + 1 + 1 + 1) 51 #[.int .i64 (opO (k % 18)), .int .i64 0, .string ⟨#[]⟩, .int .i64 0, .slice (some ⟨W2.heap.size + 1 + 1 + 1 + 1 + 1 + 1, 0, none⟩) 2 2] := by rw [← hW3]; exact Blk.alloc (Blk.alloc (Blk.alloc (Blk.alloc (Blk.at_new (by simp only [World.size_alloc])) _) _) _) _
        have k5 : Blk W3 (W2.heap.size + 1 + 1 + 1 + 1 + 1) 51 #[.int .i64 0, .int .i64 0, .string ⟨#[]⟩, .int .i64 0, .slice (some ⟨W2.heap.size + 1 + 1 + 1 + 1 + 1 + 1 + 1, 0, none⟩) 2 2] := by rw [← hW3]; exact Blk.alloc (Blk.alloc (Blk.at_new (by simp only [World.size_alloc])) _) _
        have k6 : Blk W3 (W2.heap.size + 1 + 1 + 1 + 1 + 1 + 1) 3 #[.int .i64 2, .int .i64 3] := by rw [← hW3]; exact Blk.alloc (Blk.at_new (by simp only [World.size_alloc])) _
        have k7 : Blk W3 (W2.heap.size + 1 + 1 + 1 + 1 + 1 + 1 + 1) 3 #[.int .i64 0, .int .i64 1] := by rw [← hW3]; exact Blk.at_new (by simp only [World.size_alloc])
        have l0 := k0.lt
        have l1 := k1.lt
        have l3 := k3.lt
        have l5 := k5.lt
        have l6 := k6.lt
        have l7 := k7.lt
        have c0_4 := k0.cell 4
        have c1_4 := k1.cell 4
        have c3_4 := k3.cell 4
        have c5_4 := k5.cell 4
        have c6_0 := k6.cell 0
        have c6_1 := k6.cell 1
        have c7_0 := k7.cell 0
        have c7_1 := k7.cell 1
        simp only [List.getElem?_toArray, List.getElem?_cons_zero, List.getElem?_cons_succ] at c0_4 c1_4 c3_4 c5_4 c6_0 c6_1 c7_0 c7_1
        replace u8 := (World.cell?_of_block (a := ⟨_, _, none⟩) (hb3.block _ u7)).trans u8
        replace u9 := (World.cell?_of_block (a := ⟨_, _, none⟩) (hb3.block _ u7)).trans u9
        replace v8 := (World.cell?_of_block (a := ⟨_, _, none⟩) (hb3.block _ v7)).trans v8
        replace v9 := (World.cell?_of_block (a := ⟨_, _, none⟩) (hb3.block _ v7)).trans v9
        have HK0 := Lib.hid k0
        have HK1 := Lib.hid k1
        replace HB2 := Lib.hid (HB2.out.trans (below_low hb3 HB2.out.size))
        clear hW3 hb3 k0 k1 k3 k5 k6 k7 HRN2 HG u2 u3 u4 u5 u6 v2 v3 v4 v5 v6 z2 z3 z4 z5 z6 g0 g1 g2 g3 glt
        go_quiet (fail)
        have hd : Below W3.heap.size W3 (W3.drewN nq) := (by repeat (first | exact Below.refl _ _ | assumption | refine Below.setCell ?_ (by first | (simp; done) | (simp; omega) | omega) _ | refine below_drewN ?_ _ | refine Below.drew ?_ | refine Below.alloc ?_ (by first | (simp; done) | (simp; omega) | omega) _))
        replace HK0 := Lib.hid (HK0.out.bel hd)
        replace HK1 := Lib.hid (HK1.out.bel hd)
        replace HB2 := Lib.hid (HB2.out.trans (below_low hd HB2.out.size))
        obtain ⟨W4, hW4⟩ : ∃ W4, W3.drewN nq = W4 := ⟨_, rfl⟩
        rw [hW4] at HK0 HK1 HB2 ⊢
        clear hd hW4 l0 l1 l3 l5 l6 l7 c0_4 c1_4 c3_4 c5_4 c6_0 c6_1 c7_0 c7_1
        have k1 := HK1.out
        have l1 := k1.lt
        have y0 := k1.cell 0
        have y1 := k1.cell 1
        have y2 := k1.cell 2
        have y3 := k1.cell 3
        have y4 := k1.cell 4
        simp only [List.getElem?_toArray, List.getElem?_cons_zero, List.getElem?_cons_succ] at y0 y1 y2 y3 y4
        clear k1
        have HM1 := Lib.hid True.intro
        go_wp2_with (first | (have hmk := HM1.out; clear HM1 hmk; go_at_call 25; go_must (refine (is_any2 (k % 18) (by omega) _ _ _ _).mono ?_); rintro e W5 ⟨rfl, hb⟩; replace HB2 := Lib.hid (HB2.out.trans (below_low hb HB2.out.size)); have k0 := HK0.out.bel hb; have l0 := k0.lt; have z0 := k0.cell 0; have z1 := k0.cell 1; have z2 := k0.cell 2; have z3 := k0.cell 3; have z4 := k0.cell 4; simp only [List.getElem?_toArray, List.getElem?_cons_zero, List.getElem?_cons_succ] at z0 z1 z2 z3 z4; clear k0 hb HK0) | (go_at_call 25; go_must (refine (is_any2 (i % 18) (by omega) _ _ _ _).mono ?_); rintro e W5 ⟨rfl, hb⟩; replace HB2 := Lib.hid (HB2.out.trans (below_low hb HB2.out.size)); clear hb))
        go_ret
        exact ⟨rfl, HB2.out⟩
      · exact absurd heq hq5
      · rw [if_neg (by simp; omega)] at hok
        simp only [Bool.and_eq_true] at hok
        obtain ⟨ha, hb⟩ := hok
        obtain ⟨at4, n4, h4⟩ := nodeIs_at ha
        obtain ⟨at2, n2, h2⟩ := nodeIs_at hb
        obtain ⟨B1, O1, B2, O2, C2, rfl, u1, u2, u3, u4, u5, u6, u7, u8, u9⟩ := HRN2.out.two h4
        obtain ⟨B1', O1', B3, O3, C3, e2, u1', v2, v3, v4, v5, v6, v7, v8, v9⟩ := HRN2.out.two h2
        injection e2 with e2
        injection e2 with e2 e3
        subst e2 e3
        simp only [Nat.reduceMul] at u2 u3 u4 u5 u6 v2 v3 v4 v5 v6
        clear ha hb h2 h4 u1'
        have f3 : decide (q < 5) = false := decide_eq_false (by omega)
        have hq6 : ¬ 5 = q := fun e => hq5 e.symm
        have hq5a : (q == 5) = false := by simp [hq5]
        have hq5b : (q != 5) = true := by simp [hq5]
        have hq6a : (5 == q) = false := by simp [hq6]
        have hq6b : (5 != q) = true := by simp [hq6]
        go_upto_region 32 with fail
        generalize hW3 : World.alloc _ _ = W3
        have hb3 : Below W2.heap.size W2 W3 := by rw [← hW3]; exact (by repeat (first | exact Below.refl _ _ | assumption | refine Below.setCell ?_ (by first | (simp; done) | (simp; omega) | omega) _ | refine below_drewN ?_ _ | refine Below.drew ?_ | refine Below.alloc ?_ (by first | (simp; done) | (simp; omega) | omega) _))
        have k0 : Blk W3 (W2.heap.size) 51 #[.int .i64 (opO (k % 18)), .int .i64 at2, .string (opX (k % 18)), .int .i64 n2, .slice (some ⟨B3, O3, none⟩) 2 C3] := by rw [← hW3]; exact Blk.alloc (Blk.alloc (Blk.alloc (Blk.alloc (Blk.alloc (Blk.at_new (by simp only [World.size_alloc])) _) _) _) _) _
        have k1 : Blk W3 (W2.heap.size + 1) 51 #[.int .i64 (opO (i % 18)), .int .i64 at4, .string (opX (i % 18)), .int .i64 n4, .slice (some ⟨B2, O2, none⟩) 2 C2] := by rw [← hW3]; exact Blk.alloc (Blk.alloc (Blk.alloc (Blk.alloc (Blk.at_new (by simp only [World.size_alloc])) _) _) _) _
        have k3 : Blk W3 (W2.heap.size + 1 + 1 + 1) 51 #[.int .i64 (opO (i % 18)), .int .i64 0, .string ⟨#[]⟩, .int .i64 0, .slice (some ⟨W2.heap.size + 1 + 1, 0, none⟩) 2 2] := by rw [← hW3]; exact Blk.alloc (Blk.alloc (Blk.at_new (by simp only [World.size_alloc])) _) _
        have k5 : Blk W3 (W2.heap.size + 1 + 1 + 1 + 1 + 1) 51 #[.int .i64 0, .int .i64 0, .string ⟨#[]⟩, .int .i64 0, .slice (some ⟨W2.heap.size + 1 + 1 + 1 + 1, 0, none⟩) 2 2] := by rw [← hW3]; exact Blk.at_new (by simp only [World.size_alloc])
        have k2 : Blk W3 (W2.heap.size + 1 + 1) 3 #[.int .i64 0, .int .i64 3] := by rw [← hW3]; exact Blk.alloc (Blk.alloc (Blk.alloc (Blk.at_new (by simp only [World.size_alloc])) _) _) _
        have k4 : Blk W3 (W2.heap.size + 1 + 1 + 1 + 1) 3 #[.int .i64 1, .int .i64 2] := by rw [← hW3]; exact Blk.alloc (Blk.at_new (by simp only [World.size_alloc])) _
        have l0 := k0.lt
        have l1 := k1.lt
        have l3 := k3.lt
        have l5 := k5.lt
        have l2 := k2.lt
        have l4 := k4.lt
        have c0_4 := k0.cell 4
        have c1_4 := k1.cell 4
        have c3_4 := k3.cell 4
        have c5_4 := k5.cell 4
        have c2_0 := k2.cell 0
        have c2_1 := k2.cell 1
        have c4_0 := k4.cell 0
        have c4_1 := k4.cell 1
        simp only [List.getElem?_toArray, List.getElem?_cons_zero, List.getElem?_cons_succ] at c0_4 c1_4 c3_4 c5_4 c2_0 c2_1 c4_0 c4_1
        replace u8 := (World.cell?_of_block (a := ⟨_, _, none⟩) (hb3.block _ u7)).trans u8
        replace u9 := (World.cell?_of_block (a := ⟨_, _, none⟩) (hb3.block _ u7)).trans u9
        replace v8 := (World.cell?_of_block (a := ⟨_, _, none⟩) (hb3.block _ v7)).trans v8
        replace v9 := (World.cell?_of_block (a := ⟨_, _, none⟩) (hb3.block _ v7)).trans v9
        have HK0 := Lib.hid k0
        have HK1 := Lib.hid k1
        replace HB2 := Lib.hid (HB2.out.trans (below_low hb3 HB2.out.size))
        clear hW3 hb3 k0 k1 k3 k5 k2 k4 HRN2 HG u2 u3 u4 u5 u6 v2 v3 v4 v5 v6 g0 g1 g2 g3 glt
        go_quiet (fail)
        have hd : Below W3.heap.size W3 (W3.drewN nq) := (by repeat (first | exact Below.refl _ _ | assumption | refine Below.setCell ?_ (by first | (simp; done) | (simp; omega) | omega) _ | refine below_drewN ?_ _ | refine Below.drew ?_ | refine Below.alloc ?_ (by first | (simp; done) | (simp; omega) | omega) _))
        replace HK0 := Lib.hid (HK0.out.bel hd)
        replace HK1 := Lib.hid (HK1.out.bel hd)
        replace HB2 := Lib.hid (HB2.out.trans (below_low hd HB2.out.size))
        obtain ⟨W4, hW4⟩ : ∃ W4, W3.drewN nq = W4 := ⟨_, rfl⟩
        rw [hW4] at HK0 HK1 HB2 ⊢
        clear hd hW4 l0 l1 l3 l5 l2 l4 c0_4 c1_4 c3_4 c5_4 c2_0 c2_1 c4_0 c4_1
        have k1 := HK1.out
        have l1 := k1.lt
        have y0 := k1.cell 0
        have y1 := k1.cell 1
        have y2 := k1.cell 2
        have y3 := k1.cell 3
        have y4 := k1.cell 4
        simp only [List.getElem?_toArray, List.getElem?_cons_zero, List.getElem?_cons_succ] at y0 y1 y2 y3 y4
        clear k1
        have HM1 := Lib.hid True.intro
        go_wp2_with (first | (have hmk := HM1.out; clear HM1 hmk; go_at_call 25; go_must (refine (is_any2 (i % 18) (by omega) _ _ _ _).mono ?_); rintro e W5 ⟨rfl, hb⟩; replace HB2 := Lib.hid (HB2.out.trans (below_low hb HB2.out.size)); have k0 := HK0.out.bel hb; have l0 := k0.lt; have z0 := k0.cell 0; have z1 := k0.cell 1; have z2 := k0.cell 2; have z3 := k0.cell 3; have z4 := k0.cell 4; simp only [List.getElem?_toArray, List.getElem?_cons_zero, List.getElem?_cons_succ] at z0 z1 z2 z3 z4; clear k0 hb HK0) | (go_at_call 25; go_must (refine (is_any2 (k % 18) (by omega) _ _ _ _).mono ?_); rintro e W5 ⟨rfl, hb⟩; replace HB2 := Lib.hid (HB2.out.trans (below_low hb HB2.out.size)); clear hb))
        go_ret
        exact ⟨rfl, HB2.out⟩
    · rcases Int.lt_trichotomy q p with hlt | heq | hgt
      · rw [if_pos (by simp [hlt])] at hok
        simp only [Bool.and_eq_true] at hok
        obtain ⟨ha, hb⟩ := hok
        obtain ⟨at4, n4, h4⟩ := nodeIs_at ha
        obtain ⟨at2, n2, h2⟩ := nodeIs_at hb
        obtain ⟨B1, O1, B2, O2, C2, rfl, u1, u2, u3, u4, u5, u6, u7, u8, u9⟩ := HRN2.out.two h4
        obtain ⟨B1', O1', B3, O3, C3, e2, u1', v2, v3, v4, v5, v6, v7, v8, v9⟩ := HRN2.out.two h2
        injection e2 with e2
        injection e2 with e2 e3
        subst e2 e3
        obtain ⟨B1', O1', op3, at3, s3, n3, v, e2, -, z2, z3, z4, z5, z6, A5, m5, c5, rfl⟩ := HRN2.out.five (j := 3) (by have := Htl.out; omega)
        injection e2 with e2
        injection e2 with e2 e3
        subst e2 e3
        simp only [Nat.reduceMul] at u2 u3 u4 u5 u6 v2 v3 v4 v5 v6 z2 z3 z4 z5 z6
        clear ha hb h2 h4 u1'
        have f3 : decide (q < p) = true := decide_eq_true hlt
        have hp5a : (p == 5) = false := by simp [hp5]
        have hp5b : (p != 5) = true := by simp [hp5]
        go_upto_region 32 with fail
        generalize hW3 : World.alloc _ _ = W3
        have hb3 : Below W2.heap.size W2 W3 := by rw [← hW3]; exact (by repeat (first | exact Below.refl _ _ | assumption | refine Below.setCell ?_ (by first | (simp; done) | (simp; omega) | omega) _ | refine below_drewN ?_ _ | refine Below.drew ?_ | refine Below.alloc ?_ (by first | (simp; done) | (simp; omega) | omega) _))
        have k0 : Blk W3 (W2.heap.size) 51 #[.int .i64 (opO (i % 18)), .int .i64 at2, .string (opX (i % 18)), .int .i64 n2, .slice (some ⟨B3, O3, none⟩) 2 C3] := by rw [← hW3]; exact Blk.alloc (Blk.alloc (Blk.alloc (Blk.alloc (Blk.alloc (Blk.alloc (Blk.alloc (Blk.at_new (by simp only [World.size_alloc])) _) _) _) _) _) _) _
        have k1 : Blk W3 (W2.heap.size + 1) 51 #[.int .i64 (opO (k % 18)), .int .i64 at4, .string (opX (k % 18)), .int .i64 n4, .slice (some ⟨B2, O2, none⟩) 2 C2] := by rw [← hW3]; exact Blk.alloc (Blk.alloc (Blk.alloc (Blk.alloc (Blk.alloc (Blk.alloc (Blk.at_new (by simp only [World.size_alloc])) _) _) _) _) _) _
        have k3 : Blk W3 (W2.heap.size + 1 + 1 + 1) 51 #[.int .i64 (opO (k % 18)), .int .i64 0, .string ⟨#[]⟩, .int .i64 0, .slice (some ⟨W2.heap.size + 1 + 1 + 1 + 1 + 1 + 1, 0, none⟩) 2 2] := by rw [← hW3]; exact Blk.alloc (Blk.alloc (Blk.alloc (Blk.alloc (Blk.at_new (by simp only [World.size_alloc])) _) _) _) _
        have k5 : Blk W3 (W2.heap.size + 1 + 1 + 1 + 1 + 1) 51 #[.int .i64 0, .int .i64 0, .string ⟨#[]⟩, .int .i64 0, .slice (some ⟨W2.heap.size + 1 + 1 + 1 + 1 + 1 + 1 + 1, 0, none⟩) 2 2] := by rw [← hW3]; exact Blk.alloc (Blk.alloc (Blk.at_new (by simp only [World.size_alloc])) _) _
        have k6 : Blk W3 (W2.heap.size + 1 + 1 + 1 + 1 + 1 + 1) 3 #[.int .i64 2, .int .i64 3] := by rw [← hW3]; exact Blk.alloc (Blk.at_new (by simp only [World.size_alloc])) _
        have k7 : Blk W3 (W2.heap.size + 1 + 1 + 1 + 1 + 1 + 1 + 1) 3 #[.int .i64 0, .int .i64 1] := by rw [← hW3]; exact Blk.at_new (by simp only [World.size_alloc])
        have l0 := k0.lt
        have l1 := k1.lt
        have l3 := k3.lt
        have l5 := k5.lt
        have l6 := k6.lt
        have l7 := k7.lt
        have c0_4 := k0.cell 4
        have c1_4 := k1.cell 4
        have c3_4 := k3.cell 4
        have c5_4 := k5.cell 4
        have c6_0 := k6.cell 0
        have c6_1 := k6.cell 1
        have c7_0 := k7.cell 0
        have c7_1 := k7.cell 1
        simp only [List.getElem?_toArray, List.getElem?_cons_zero, List.getElem?_cons_succ] at c0_4 c1_4 c3_4 c5_4 c6_0 c6_1 c7_0 c7_1
        replace u8 := (World.cell?_of_block (a := ⟨_, _, none⟩) (hb3.block _ u7)).trans u8
        replace u9 := (World.cell?_of_block (a := ⟨_, _, none⟩) (hb3.block _ u7)).trans u9
        replace v8 := (World.cell?_of_block (a := ⟨_, _, none⟩) (hb3.block _ v7)).trans v8
        replace v9 := (World.cell?_of_block (a := ⟨_, _, none⟩) (hb3.block _ v7)).trans v9
        have HK0 := Lib.hid k0
        have HK1 := Lib.hid k1
        replace HB2 := Lib.hid (HB2.out.trans (below_low hb3 HB2.out.size))
        clear hW3 hb3 k0 k1 k3 k5 k6 k7 HRN2 HG u2 u3 u4 u5 u6 v2 v3 v4 v5 v6 z2 z3 z4 z5 z6 g0 g1 g2 g3 glt
        go_quiet (fail)
        have hd : Below W3.heap.size W3 (W3.drewN nq) := (by repeat (first | exact Below.refl _ _ | assumption | refine Below.setCell ?_ (by first | (simp; done) | (simp; omega) | omega) _ | refine below_drewN ?_ _ | refine Below.drew ?_ | refine Below.alloc ?_ (by first | (simp; done) | (simp; omega) | omega) _))
        replace HK0 := Lib.hid (HK0.out.bel hd)
        replace HK1 := Lib.hid (HK1.out.bel hd)
        replace HB2 := Lib.hid (HB2.out.trans (below_low hd HB2.out.size))
        obtain ⟨W4, hW4⟩ : ∃ W4, W3.drewN nq = W4 := ⟨_, rfl⟩
        rw [hW4] at HK0 HK1 HB2 ⊢
        clear hd hW4 l0 l1 l3 l5 l6 l7 c0_4 c1_4 c3_4 c5_4 c6_0 c6_1 c7_0 c7_1
        have k1 := HK1.out
        have l1 := k1.lt
        have y0 := k1.cell 0
        have y1 := k1.cell 1
        have y2 := k1.cell 2
        have y3 := k1.cell 3
        have y4 := k1.cell 4
        simp only [List.getElem?_toArray, List.getElem?_cons_zero, List.getElem?_cons_succ] at y0 y1 y2 y3 y4
        clear k1
        have HM1 := Lib.hid True.intro
        go_wp2_with (first | (have hmk := HM1.out; clear HM1 hmk; go_at_call 25; go_must (refine (is_any2 (k % 18) (by omega) _ _ _ _).mono ?_); rintro e W5 ⟨rfl, hb⟩; replace HB2 := Lib.hid (HB2.out.trans (below_low hb HB2.out.size)); have k0 := HK0.out.bel hb; have l0 := k0.lt; have z0 := k0.cell 0; have z1 := k0.cell 1; have z2 := k0.cell 2; have z3 := k0.cell 3; have z4 := k0.cell 4; simp only [List.getElem?_toArray, List.getElem?_cons_zero, List.getElem?_cons_succ] at z0 z1 z2 z3 z4; clear k0 hb HK0) | (go_at_call 25; go_must (refine (is_any2 (i % 18) (by omega) _ _ _ _).mono ?_); rintro e W5 ⟨rfl, hb⟩; replace HB2 := Lib.hid (HB2.out.trans (below_low hb HB2.out.size)); clear hb))
        go_ret
        exact ⟨rfl, HB2.out⟩
      · subst heq
        by_cases hp9 : q = 9
        · subst hp9
          rw [if_neg (by simp)] at hok
          simp only [Bool.and_eq_true] at hok
          obtain ⟨ha, hb⟩ := hok
          obtain ⟨at4, n4, h4⟩ := nodeIs_at ha
          obtain ⟨at2, n2, h2⟩ := nodeIs_at hb
          obtain ⟨B1, O1, B2, O2, C2, rfl, u1, u2, u3, u4, u5, u6, u7, u8, u9⟩ := HRN2.out.two h4
          obtain ⟨B1', O1', B3, O3, C3, e2, u1', v2, v3, v4, v5, v6, v7, v8, v9⟩ := HRN2.out.two h2
          injection e2 with e2
          injection e2 with e2 e3
          subst e2 e3
          simp only [Nat.reduceMul] at u2 u3 u4 u5 u6 v2 v3 v4 v5 v6
          clear ha hb h2 h4 u1'
          go_upto_region 32 with fail
          generalize hW3 : World.alloc _ _ = W3
          have hb3 : Below W2.heap.size W2 W3 := by rw [← hW3]; exact (by repeat (first | exact Below.refl _ _ | assumption | refine Below.setCell ?_ (by first | (simp; done) | (simp; omega) | omega) _ | refine below_drewN ?_ _ | refine Below.drew ?_ | refine Below.alloc ?_ (by first | (simp; done) | (simp; omega) | omega) _))
          have k0 : Blk W3 (W2.heap.size) 51 #[.int .i64 (opO (k % 18)), .int .i64 at2, .string (opX (k % 18)), .int .i64 n2, .slice (some ⟨B3, O3, none⟩) 2 C3] := by rw [← hW3]; exact Blk.alloc (Blk.alloc (Blk.alloc (Blk.alloc (Blk.alloc (Blk.at_new (by simp only [World.size_alloc])) _) _) _) _) _
          have k1 : Blk W3 (W2.heap.size + 1) 51 #[.int .i64 (opO (i % 18)), .int .i64 at4, .string (opX (i % 18)), .int .i64 n4, .slice (some ⟨B2, O2, none⟩) 2 C2] := by rw [← hW3]; exact Blk.alloc (Blk.alloc (Blk.alloc (Blk.alloc (Blk.at_new (by simp only [World.size_alloc])) _) _) _) _
          have k3 : Blk W3 (W2.heap.size + 1 + 1 + 1) 51 #[.int .i64 (opO (i % 18)), .int .i64 0, .string ⟨#[]⟩, .int .i64 0, .slice (some ⟨W2.heap.size + 1 + 1, 0, none⟩) 2 2] := by rw [← hW3]; exact Blk.alloc (Blk.alloc (Blk.at_new (by simp only [World.size_alloc])) _) _
          have k5 : Blk W3 (W2.heap.size + 1 + 1 + 1 + 1 + 1) 51 #[.int .i64 0, .int .i64 0, .string ⟨#[]⟩, .int .i64 0, .slice (some ⟨W2.heap.size + 1 + 1 + 1 + 1, 0, none⟩) 2 2] := by rw [← hW3]; exact Blk.at_new (by simp only [World.size_alloc])
          have k2 : Blk W3 (W2.heap.size + 1 + 1) 3 #[.int .i64 0, .int .i64 3] := by rw [← hW3]; exact Blk.alloc (Blk.alloc (Blk.alloc (Blk.at_new (by simp only [World.size_alloc])) _) _) _
          have k4 : Blk W3 (W2.heap.size + 1 + 1 + 1 + 1) 3 #[.int .i64 1, .int .i64 2] := by rw [← hW3]; exact Blk.alloc (Blk.at_new (by simp only [World.size_alloc])) _
          have l0 := k0.lt
          have l1 := k1.lt
          have l3 := k3.lt
          have l5 := k5.lt
          have l2 := k2.lt
          have l4 := k4.lt
          have c0_4 := k0.cell 4
          have c1_4 := k1.cell 4
          have c3_4 := k3.cell 4
          have c5_4 := k5.cell 4
          have c2_0 := k2.cell 0
          have c2_1 := k2.cell 1
          have c4_0 := k4.cell 0
          have c4_1 := k4.cell 1
          simp only [List.getElem?_toArray, List.getElem?_cons_zero, List.getElem?_cons_succ] at c0_4 c1_4 c3_4 c5_4 c2_0 c2_1 c4_0 c4_1
          replace u8 := (World.cell?_of_block (a := ⟨_, _, none⟩) (hb3.block _ u7)).trans u8
          replace u9 := (World.cell?_of_block (a := ⟨_, _, none⟩) (hb3.block _ u7)).trans u9
          replace v8 := (World.cell?_of_block (a := ⟨_, _, none⟩) (hb3.block _ v7)).trans v8
          replace v9 := (World.cell?_of_block (a := ⟨_, _, none⟩) (hb3.block _ v7)).trans v9
          have HK0 := Lib.hid k0
          have HK1 := Lib.hid k1
          replace HB2 := Lib.hid (HB2.out.trans (below_low hb3 HB2.out.size))
          clear hW3 hb3 k0 k1 k3 k5 k2 k4 HRN2 HG u2 u3 u4 u5 u6 v2 v3 v4 v5 v6 g0 g1 g2 g3 glt
          go_quiet (fail)
          have hd : Below W3.heap.size W3 (W3.drewN nq) := (by repeat (first | exact Below.refl _ _ | assumption | refine Below.setCell ?_ (by first | (simp; done) | (simp; omega) | omega) _ | refine below_drewN ?_ _ | refine Below.drew ?_ | refine Below.alloc ?_ (by first | (simp; done) | (simp; omega) | omega) _))
          replace HK0 := Lib.hid (HK0.out.bel hd)
          replace HK1 := Lib.hid (HK1.out.bel hd)
          replace HB2 := Lib.hid (HB2.out.trans (below_low hd HB2.out.size))
          obtain ⟨W4, hW4⟩ : ∃ W4, W3.drewN nq = W4 := ⟨_, rfl⟩
          rw [hW4] at HK0 HK1 HB2 ⊢
          clear hd hW4 l0 l1 l3 l5 l2 l4 c0_4 c1_4 c3_4 c5_4 c2_0 c2_1 c4_0 c4_1
          have k1 := HK1.out
          have l1 := k1.lt
          have y0 := k1.cell 0
          have y1 := k1.cell 1
          have y2 := k1.cell 2
          have y3 := k1.cell 3
          have y4 := k1.cell 4
          simp only [List.getElem?_toArray, List.getElem?_cons_zero, List.getElem?_cons_succ] at y0 y1 y2 y3 y4
          clear k1
          have HM1 := Lib.hid True.intro
          go_wp2_with (first | (have hmk := HM1.out; clear HM1 hmk; go_at_call 25; go_must (refine (is_any2 (i % 18) (by omega) _ _ _ _).mono ?_); rintro e W5 ⟨rfl, hb⟩; replace HB2 := Lib.hid (HB2.out.trans (below_low hb HB2.out.size)); have k0 := HK0.out.bel hb; have l0 := k0.lt; have z0 := k0.cell 0; have z1 := k0.cell 1; have z2 := k0.cell 2; have z3 := k0.cell 3; have z4 := k0.cell 4; simp only [List.getElem?_toArray, List.getElem?_cons_zero, List.getElem?_cons_succ] at z0 z1 z2 z3 z4; clear k0 hb HK0) | (go_at_call 25; go_must (refine (is_any2 (k % 18) (by omega) _ _ _ _).mono ?_); rintro e W5 ⟨rfl, hb⟩; replace HB2 := Lib.hid (HB2.out.trans (below_low hb HB2.out.size)); clear hb))
          go_ret
          exact ⟨rfl, HB2.out⟩
        · rw [if_pos (by simp [hp9])] at hok
          simp only [Bool.and_eq_true] at hok
          obtain ⟨ha, hb⟩ := hok
          obtain ⟨at4, n4, h4⟩ := nodeIs_at ha
          obtain ⟨at2, n2, h2⟩ := nodeIs_at hb
          obtain ⟨B1, O1, B2, O2, C2, rfl, u1, u2, u3, u4, u5, u6, u7, u8, u9⟩ := HRN2.out.two h4
          obtain ⟨B1', O1', B3, O3, C3, e2, u1', v2, v3, v4, v5, v6, v7, v8, v9⟩ := HRN2.out.two h2
          injection e2 with e2
          injection e2 with e2 e3
          subst e2 e3
          obtain ⟨B1', O1', op3, at3, s3, n3, v, e2, -, z2, z3, z4, z5, z6, A5, m5, c5, rfl⟩ := HRN2.out.five (j := 3) (by have := Htl.out; omega)
          injection e2 with e2
          injection e2 with e2 e3
          subst e2 e3
          simp only [Nat.reduceMul] at u2 u3 u4 u5 u6 v2 v3 v4 v5 v6 z2 z3 z4 z5 z6
          clear ha hb h2 h4 u1'
          have f3 : decide (q < q) = false := decide_eq_false (by omega)
          have hp5a : (q == 5) = false := by simp [hp5]
          have hp5b : (q != 5) = true := by simp [hp5]
          have hp9a : (q == 9) = false := by simp [hp9]
          have hp9b : (q != 9) = true := by simp [hp9]
          go_upto_region 32 with fail
          generalize hW3 : World.alloc _ _ = W3
          have hb3 : Below W2.heap.size W2 W3 := by rw [← hW3]; exact (by repeat (first | exact Below.refl _ _ | assumption | refine Below.setCell ?_ (by first | (simp; done) | (simp; omega) | omega) _ | refine below_drewN ?_ _ | refine Below.drew ?_ | refine Below.alloc ?_ (by first | (simp; done) | (simp; omega) | omega) _))
          have k0 : Blk W3 (W2.heap.size) 51 #[.int .i64 (opO (i % 18)), .int .i64 at2, .string (opX (i % 18)), .int .i64 n2, .slice (some ⟨B3, O3, none⟩) 2 C3] := by rw [← hW3]; exact Blk.alloc (Blk.alloc (Blk.alloc (Blk.alloc (Blk.alloc (Blk.alloc (Blk.alloc (Blk.at_new (by simp only [World.size_alloc])) _) _) _) _) _) _) _
          have k1 : Blk W3 (W2.heap.size + 1) 51 #[.int .i64 (opO (k % 18)), .int .i64 at4, .string (opX (k % 18)), .int .i64 n4, .slice (some ⟨B2, O2, none⟩) 2 C2] := by rw [← hW3]; exact Blk.alloc (Blk.alloc (Blk.alloc (Blk.alloc (Blk.alloc (Blk.alloc (Blk.at_new (by simp only [World.size_alloc])) _) _) _) _) _) _
          have k3 : Blk W3 (W2.heap.size + 1 + 1 + 1) 51 #[.int .i64 (opO (k % 18)), .int .i64 0, .string ⟨#[]⟩, .int .i64 0, .slice (some ⟨W2.heap.size + 1 + 1 + 1 + 1 + 1 + 1, 0, none⟩) 2 2] := by rw [← hW3]; exact Blk.alloc (Blk.alloc (Blk.alloc (Blk.alloc (Blk.at_new (by simp only [World.size_alloc])) _) _) _) _
          have k5 : Blk W3 (W2.heap.size + 1 + 1 + 1 + 1 + 1) 51 #[.int .i64 0, .int .i64 0, .string ⟨#[]⟩, .int .i64 0, .slice (some ⟨W2.heap.size + 1 + 1 + 1 + 1 + 1 + 1 + 1, 0, none⟩) 2 2] := by rw [← hW3]; exact Blk.alloc (Blk.alloc (Blk.at_new (by simp only [World.size_alloc])) _) _
          have k6 : Blk W3 (W2.heap.size + 1 + 1 + 1 + 1 + 1 + 1) 3 #[.int .i64 2, .int .i64 3] := by rw [← hW3]; exact Blk.alloc (Blk.at_new (by simp only [World.size_alloc])) _
          have k7 : Blk W3 (W2.heap.size + 1 + 1 + 1 + 1 + 1 + 1 + 1) 3 #[.int .i64 0, .int .i64 1] := by rw [← hW3]; exact Blk.at_new (by simp only [World.size_alloc])
          have l0 := k0.lt
          have l1 := k1.lt
          have l3 := k3.lt
          have l5 := k5.lt
          have l6 := k6.lt
          have l7 := k7.lt
          have c0_4 := k0.cell 4
          have c1_4 := k1.cell 4
          have c3_4 := k3.cell 4
          have c5_4 := k5.cell 4
          have c6_0 := k6.cell 0
          have c6_1 := k6.cell 1
          have c7_0 := k7.cell 0
          have c7_1 := k7.cell 1
          simp only [List.getElem?_toArray, List.getElem?_cons_zero, List.getElem?_cons_succ] at c0_4 c1_4 c3_4 c5_4 c6_0 c6_1 c7_0 c7_1
          replace u8 := (World.cell?_of_block (a := ⟨_, _, none⟩) (hb3.block _ u7)).trans u8
          replace u9 := (World.cell?_of_block (a := ⟨_, _, none⟩) (hb3.block _ u7)).trans u9
          replace v8 := (World.cell?_of_block (a := ⟨_, _, none⟩) (hb3.block _ v7)).trans v8
          replace v9 := (World.cell?_of_block (a := ⟨_, _, none⟩) (hb3.block _ v7)).trans v9
          have HK0 := Lib.hid k0
          have HK1 := Lib.hid k1
          replace HB2 := Lib.hid (HB2.out.trans (below_low hb3 HB2.out.size))
          clear hW3 hb3 k0 k1 k3 k5 k6 k7 HRN2 HG u2 u3 u4 u5 u6 v2 v3 v4 v5 v6 z2 z3 z4 z5 z6 g0 g1 g2 g3 glt
          go_quiet (fail)
          have hd : Below W3.heap.size W3 (W3.drewN nq) := (by repeat (first | exact Below.refl _ _ | assumption | refine Below.setCell ?_ (by first | (simp; done) | (simp; omega) | omega) _ | refine below_drewN ?_ _ | refine Below.drew ?_ | refine Below.alloc ?_ (by first | (simp; done) | (simp; omega) | omega) _))
          replace HK0 := Lib.hid (HK0.out.bel hd)
          replace HK1 := Lib.hid (HK1.out.bel hd)
          replace HB2 := Lib.hid (HB2.out.trans (below_low hd HB2.out.size))
          obtain ⟨W4, hW4⟩ : ∃ W4, W3.drewN nq = W4 := ⟨_, rfl⟩
          rw [hW4] at HK0 HK1 HB2 ⊢
          clear hd hW4 l0 l1 l3 l5 l6 l7 c0_4 c1_4 c3_4 c5_4 c6_0 c6_1 c7_0 c7_1
          have k1 := HK1.out
          have l1 := k1.lt
          have y0 := k1.cell 0
          have y1 := k1.cell 1
          have y2 := k1.cell 2
          have y3 := k1.cell 3
          have y4 := k1.cell 4
          simp only [List.getElem?_toArray, List.getElem?_cons_zero, List.getElem?_cons_succ] at y0 y1 y2 y3 y4
          clear k1
          have HM1 := Lib.hid True.intro
          go_wp2_with (first | (have hmk := HM1.out; clear HM1 hmk; go_at_call 25; go_must (refine (is_any2 (k % 18) (by omega) _ _ _ _).mono ?_); rintro e W5 ⟨rfl, hb⟩; replace HB2 := Lib.hid (HB2.out.trans (below_low hb HB2.out.size)); have k0 := HK0.out.bel hb; have l0 := k0.lt; have z0 := k0.cell 0; have z1 := k0.cell 1; have z2 := k0.cell 2; have z3 := k0.cell 3; have z4 := k0.cell 4; simp only [List.getElem?_toArray, List.getElem?_cons_zero, List.getElem?_cons_succ] at z0 z1 z2 z3 z4; clear k0 hb HK0) | (go_at_call 25; go_must (refine (is_any2 (i % 18) (by omega) _ _ _ _).mono ?_); rintro e W5 ⟨rfl, hb⟩; replace HB2 := Lib.hid (HB2.out.trans (below_low hb HB2.out.size)); clear hb))
          go_ret
          exact ⟨rfl, HB2.out⟩
      · rw [if_neg (by simp; omega)] at hok
        simp only [Bool.and_eq_true] at hok
        obtain ⟨ha, hb⟩ := hok
        obtain ⟨at4, n4, h4⟩ := nodeIs_at ha
        obtain ⟨at2, n2, h2⟩ := nodeIs_at hb
        obtain ⟨B1, O1, B2, O2, C2, rfl, u1, u2, u3, u4, u5, u6, u7, u8, u9⟩ := HRN2.out.two h4
        obtain ⟨B1', O1', B3, O3, C3, e2, u1', v2, v3, v4, v5, v6, v7, v8, v9⟩ := HRN2.out.two h2
        injection e2 with e2
        injection e2 with e2 e3
        subst e2 e3
        simp only [Nat.reduceMul] at u2 u3 u4 u5 u6 v2 v3 v4 v5 v6
        clear ha hb h2 h4 u1'
        have f3 : decide (q < p) = false := decide_eq_false (by omega)
        have hpq : ¬ p = q := by omega
        have hp5a : (p == 5) = false := by simp [hp5]
        have hp5b : (p != 5) = true := by simp [hp5]
        have hpqa : (p == q) = false := by simp [hpq]
        have hpqb : (p != q) = true := by simp [hpq]
        go_upto_region 32 with fail
        generalize hW3 : World.alloc _ _ = W3
        have hb3 : Below W2.heap.size W2 W3 := by rw [← hW3]; exact (by repeat (first | exact Below.refl _ _ | assumption | refine Below.setCell ?_ (by first | (simp; done) | (simp; omega) | omega) _ | refine below_drewN ?_ _ | refine Below.drew ?_ | refine Below.alloc ?_ (by first | (simp; done) | (simp; omega) | omega) _))
        have k0 : Blk W3 (W2.heap.size) 51 #[.int .i64 (opO (k % 18)), .int .i64 at2, .string (opX (k % 18)), .int .i64 n2, .slice (some ⟨B3, O3, none⟩) 2 C3] := by rw [← hW3]; exact Blk.alloc (Blk.alloc (Blk.alloc (Blk.alloc (Blk.alloc (Blk.at_new (by simp only [World.size_alloc])) _) _) _) _) _
        have k1 : Blk W3 (W2.heap.size + 1) 51 #[.int .i64 (opO (i % 18)), .int .i64 at4, .string (opX (i % 18)), .int .i64 n4, .slice (some ⟨B2, O2, none⟩) 2 C2] := by rw [← hW3]; exact Blk.alloc (Blk.alloc (Blk.alloc (Blk.alloc (Blk.at_new (by simp only [World.size_alloc])) _) _) _) _
        have k3 : Blk W3 (W2.heap.size + 1 + 1 + 1) 51 #[.int .i64 (opO (i % 18)), .int .i64 0, .string ⟨#[]⟩, .int .i64 0, .slice (some ⟨W2.heap.size + 1 + 1, 0, none⟩) 2 2] := by rw [← hW3]; exact Blk.alloc (Blk.alloc (Blk.at_new (by simp only [World.size_alloc])) _) _
        have k5 : Blk W3 (W2.heap.size + 1 + 1 + 1 + 1 + 1) 51 #[.int .i64 0, .int .i64 0, .string ⟨#[]⟩, .int .i64 0, .slice (some ⟨W2.heap.size + 1 + 1 + 1 + 1, 0, none⟩) 2 2] := by rw [← hW3]; exact Blk.at_new (by simp only [World.size_alloc])
        have k2 : Blk W3 (W2.heap.size + 1 + 1) 3 #[.int .i64 0, .int .i64 3] := by rw [← hW3]; exact Blk.alloc (Blk.alloc (Blk.alloc (Blk.at_new (by simp only [World.size_alloc])) _) _) _
        have k4 : Blk W3 (W2.heap.size + 1 + 1 + 1 + 1) 3 #[.int .i64 1, .int .i64 2] := by rw [← hW3]; exact Blk.alloc (Blk.at_new (by simp only [World.size_alloc])) _
        have l0 := k0.lt
        have l1 := k1.lt
        have l3 := k3.lt
        have l5 := k5.lt
        have l2 := k2.lt
        have l4 := k4.lt
        have c0_4 := k0.cell 4
        have c1_4 := k1.cell 4
        have c3_4 := k3.cell 4
        have c5_4 := k5.cell 4
        have c2_0 := k2.cell 0
        have c2_1 := k2.cell 1
        have c4_0 := k4.cell 0
        have c4_1 := k4.cell 1
        simp only [List.getElem?_toArray, List.getElem?_cons_zero, List.getElem?_cons_succ] at c0_4 c1_4 c3_4 c5_4 c2_0 c2_1 c4_0 c4_1
        replace u8 := (World.cell?_of_block (a := ⟨_, _, none⟩) (hb3.block _ u7)).trans u8
        replace u9 := (World.cell?_of_block (a := ⟨_, _, none⟩) (hb3.block _ u7)).trans u9
        replace v8 := (World.cell?_of_block (a := ⟨_, _, none⟩) (hb3.block _ v7)).trans v8
        replace v9 := (World.cell?_of_block (a := ⟨_, _, none⟩) (hb3.block _ v7)).trans v9
        have HK0 := Lib.hid k0
        have HK1 := Lib.hid k1
        replace HB2 := Lib.hid (HB2.out.trans (below_low hb3 HB2.out.size))
        clear hW3 hb3 k0 k1 k3 k5 k2 k4 HRN2 HG u2 u3 u4 u5 u6 v2 v3 v4 v5 v6 g0 g1 g2 g3 glt
        go_quiet (fail)
        have hd : Below W3.heap.size W3 (W3.drewN nq) := (by repeat (first | exact Below.refl _ _ | assumption | refine Below.setCell ?_ (by first | (simp; done) | (simp; omega) | omega) _ | refine below_drewN ?_ _ | refine Below.drew ?_ | refine Below.alloc ?_ (by first | (simp; done) | (simp; omega) | omega) _))
        replace HK0 := Lib.hid (HK0.out.bel hd)
        replace HK1 := Lib.hid (HK1.out.bel hd)
        replace HB2 := Lib.hid (HB2.out.trans (below_low hd HB2.out.size))
        obtain ⟨W4, hW4⟩ : ∃ W4, W3.drewN nq = W4 := ⟨_, rfl⟩
        rw [hW4] at HK0 HK1 HB2 ⊢
        clear hd hW4 l0 l1 l3 l5 l2 l4 c0_4 c1_4 c3_4 c5_4 c2_0 c2_1 c4_0 c4_1
        have k1 := HK1.out
        have l1 := k1.lt
        have y0 := k1.cell 0
        have y1 := k1.cell 1
        have y2 := k1.cell 2
        have y3 := k1.cell 3
        have y4 := k1.cell 4
        simp only [List.getElem?_toArray, List.getElem?_cons_zero, List.getElem?_cons_succ] at y0 y1 y2 y3 y4
        clear k1
        have HM1 := Lib.hid True.intro
        go_wp2_with (first | (have hmk := HM1.out; clear HM1 hmk; go_at_call 25; go_must (refine (is_any2 (i % 18) (by omega) _ _ _ _).mono ?_); rintro e W5 ⟨rfl, hb⟩; replace HB2 := Lib.hid (HB2.out.trans (below_low hb HB2.out.size)); have k0 := HK0.out.bel hb; have l0 := k0.lt; have z0 := k0.cell 0; have z1 := k0.cell 1; have z2 := k0.cell 2; have z3 := k0.cell 3; have z4 := k0.cell 4; simp only [List.getElem?_toArray, List.getElem?_cons_zero, List.getElem?_cons_succ] at z0 z1 z2 z3 z4; clear k0 hb HK0) | (go_at_call 25; go_must (refine (is_any2 (k % 18) (by omega) _ _ _ _).mono ?_); rintro e W5 ⟨rfl, hb⟩; replace HB2 := Lib.hid (HB2.out.trans (below_low hb HB2.out.size)); clear hb))
        go_ret
        exact ⟨rfl, HB2.out⟩
theorem binds_int (i k a b c : Int) (wi : (Lit.int .u8 i).wf = true) (wk : (Lit.int .u8 k).wf = true) (w : World) (htab : Asp w) : Calls Tryd.prog 6 #[.int .u8 i, .int .u8 k, .agg #[.int .i64 a, .int .i64 b, .int .i64 c]] w fun e w' => e = .returned (.bool true) ∧ Below w.heap.size w w' := by
  obtain ⟨i, rfl, hi⟩ := byte_of wi
  obtain ⟨k, rfl, hk⟩ := byte_of wk
  exact binds_walk i k hi hk a b c w htab
end Go.Proofs.YtjdcicopjipmnaaDoor
