/- ExpressOnes: the walk. -/
import Derived.Test.YtjdcicopjipmnaaDoorIts
import Derived.Test.YtjdcicopjipmnaaDoorOnp
namespace Go.Proofs.YtjdcicopjipmnaaDoor
open Go.RowKit
set_option linter.unusedVariables false
set_option linter.unusedSimpArgs false
set_option maxRecDepth 100000 in
set_option maxHeartbeats 40000000 in
theorem ones_walk (k a0 b0 : Nat) (hk : k < 256) (ha : a0 < 256) (hb : b0 < 256) (x y : Int) (w : World) (htab : Asp w) : Calls Tryd.prog 7 #[.int .u8 k, .agg #[.int .i64 x, .int .i64 y], .agg #[.int .u8 a0, .int .u8 b0]] w fun e w' => e = .returned (.bool true) ∧ Below w.heap.size w w' := by
  have HT := Lib.hid htab
  have hX := opT_len (k % 18)
  have HOP := Lib.hid (op_level (k % 18) (by omega))
  clear htab
  go_enter Tryd.func7, Tryd.ntmps7
  go_upto_region 2 with (go_at_call 14; go_must (refine (shown_any _ (HT.out.below (by repeat (first | exact Below.refl _ _ | assumption | refine Below.setCell ?_ (by first | (simp; done) | (simp; omega) | omega) _ | refine below_drewN ?_ _ | refine Below.drew ?_ | refine Below.alloc ?_ (by first | (simp; done) | (simp; omega) | omega) _)))).mono ?_); rintro e w1 ⟨rfl, hb⟩; have HH := Lib.hid ((((Hold.nil w.heap.size w).ptrNew (Nat.le_refl _) 54 #[.int .i64 x, .int .i64 y]).ptrNew (by simp) 36 #[.int .u8 a0, .int .u8 b0]).bel hb); have HB : Hid (Below w.heap.size w w1) := Lib.hid (Below.trans (by repeat (first | exact Below.refl _ _ | assumption | refine Below.setCell ?_ (by first | (simp; done) | (simp; omega) | omega) _ | refine below_drewN ?_ _ | refine Below.drew ?_ | refine Below.alloc ?_ (by first | (simp; done) | (simp; omega) | omega) _)) (below_low hb (by simp; omega))); clear hb)
  rw [World.size_alloc] at HH
  go_upto_region 3 with (go_at_call 22; go_must (refine (operator_any k hk _).mono ?_); rintro e w2 ⟨v, rfl, hn⟩; replace HH := Lib.hid (HH.out.new (it := .row (opT (k % 18))) hn.bel HB.out.size ⟨hn.own, hn.new⟩); replace HB := Lib.hid (HB.out.trans (below_low hn.bel HB.out.size)); obtain ⟨X, hGX⟩ : ∃ X, opT (k % 18) = X := ⟨_, rfl⟩; rw [hGX] at HH hX; replace hn := hn.own; rw [hGX] at hn; obtain ⟨A1, c1, rfl, -, -⟩ := Own.rd hn; have HX := Lib.hid hGX; clear hGX hn)
  obtain ⟨p, hp⟩ : ∃ p, opL (k % 18) = p := ⟨_, rfl⟩
  have HP := Lib.hid hp
  clear hp
  go_upto_region 4 with (go_at_call 24; go_must (refine (level_is (HOP.out.trans HP.out) (op_small _) _).mono ?_); rintro e w3 ⟨rfl, hb⟩; replace HH := Lib.hid (HH.out.bel hb); replace HB := Lib.hid (HB.out.trans (below_low hb HB.out.size)); clear hb)
  have q1 := (HH.out.front 1 rfl).ptrOpen
  have q10 := q1.cell 0
  have q11 := q1.cell 1
  have q12 := q1.lt
  simp only [List.getElem?_toArray, List.getElem?_cons_zero, List.getElem?_cons_succ] at q10 q11
  clear q1
  go_upto_region 8 with fail
  clear q10 q11 q12
  obtain ⟨mi, hmi⟩ : ∃ m, m = a0 % 8 + 1 := ⟨_, rfl⟩
  obtain ⟨mj, hmj⟩ : ∃ m, m = b0 % 8 + 1 := ⟨_, rfl⟩
  rw [show ((1 : Int) + (a0 : Int) % 8) = (mi : Int) from by omega, show ((1 : Int) + (b0 : Int) % 8) = (mj : Int) from by omega]
  have hi1 : 1 ≤ mi := by omega
  have hi8 : mi ≤ 8 := by omega
  have hj1 : 1 ≤ mj := by omega
  have hj8 : mj ≤ 8 := by omega
  clear hmi hmj
  have hh := ((HH.out.made0 HB.out.size).made0 (by have := HB.out.size; simp; omega)).front 1 rfl
  simp only [World.size_alloc] at hh
  have HH0 : Hid (Hold w.heap.size ((w3.alloc (.cells #[] 39)).alloc (.cells #[] 39)) [(.slice (some ⟨w3.heap.size, 0, none⟩) 0 0, .row []), (.slice (some ⟨w3.heap.size + 1, 0, none⟩) 0 0, .row []), (.slice A1 X.length c1, .row X), (.pointer (some ⟨w.heap.size + 1, 0, none⟩), .ptr 36 #[.int .u8 a0, .int .u8 b0]), (.pointer (some ⟨w.heap.size, 0, none⟩), .ptr 54 #[.int .i64 x, .int .i64 y])]) := Lib.hid hh
  have HB0 : Hid (Below w.heap.size w ((w3.alloc (.cells #[] 39)).alloc (.cells #[] 39))) := Lib.hid (by have := HB.out; have := this.size; exact (by repeat (first | exact Below.refl _ _ | assumption | refine Below.setCell ?_ (by first | (simp; done) | (simp; omega) | omega) _ | refine below_drewN ?_ _ | refine Below.drew ?_ | refine Below.alloc ?_ (by first | (simp; done) | (simp; omega) | omega) _)))
  clear hh HH HB
  go_wp2_with fail
  go_loopw [13, 15] (fun v13 v15 wr => ∃ (i : Nat) (A : Option Addr) (c : Nat) (L : List TokD), i ≤ mi ∧ v15 = .int .i64 i ∧ v13 = .slice A L.length c ∧ Hid (L = rep [signT gMinus] i) ∧ Hid (L.length = i) ∧ Hid (Hold w.heap.size wr [(.slice A L.length c, .row L), (.slice (some ⟨w3.heap.size + 1, 0, none⟩) 0 0, .row []), (.slice A1 X.length c1, .row X), (.pointer (some ⟨w.heap.size + 1, 0, none⟩), .ptr 36 #[.int .u8 a0, .int .u8 b0]), (.pointer (some ⟨w.heap.size, 0, none⟩), .ptr 54 #[.int .i64 x, .int .i64 y])]) ∧ Hid (Below w.heap.size w wr)) (fun _ v15 _ => mi - (intOf v15).toNat)
  case atStart => exact ⟨0, _, 0, [], Nat.zero_le _, rfl, rfl, Lib.hid rfl, Lib.hid rfl, HH0, HB0⟩
  case round =>
    obtain ⟨i, A, c, L, hi, rfl, rfl, HL, HlL, HH, HB⟩ := hrel
    clear HH0 HB0
    by_cases hlt : i < mi
    · have hli : L.length ≤ 8 := by have := HlL.out; omega
      go_wp2_with (first | (go_at_call 21; go_must (refine (sign_any _ _).mono ?_); rintro e w4 ⟨rfl, hb⟩; replace HH := Lib.hid (HH.out.bel hb); replace HB := Lib.hid (HB.out.trans (below_low hb HB.out.size)); clear hb) | (at_builtin; go_loud (refine wpList_appendT _ rfl _ _ rfl (.slice A L.length c) L rfl (HH.out.alloc _).own _ 1 1 [signT gMinus] rfl (Rd.toks _ [signT gMinus] _ 1 rfl rfl (by omega)) rfl (by omega) ?_; intro v6 w6 ho6 hg6 hn6; obtain ⟨hh, hb⟩ := HH.out.grow HB.out ho6 hg6 hn6; generalize hG : L ++ [signT gMinus] = G at ho6 hh; obtain ⟨A2, c2, rfl, -, -⟩ := Own.rd ho6; have HG := Lib.hid hG; have HlG := Lib.hid (show G.length = L.length + 1 from (by rw [← hG, List.length_append]; rfl)); replace HH := Lib.hid hh; replace HB := Lib.hid hb; clear hG ho6 hg6 hn6 hh hb)))
      go_round
      case rel => exact ⟨i + 1, A2, c2, G, by omega, by go_num, rfl, Lib.hid (by rw [← HG.out, HL.out]; exact rep_next _ _), Lib.hid (by rw [HlG.out, HlL.out]), HH, HB⟩
      case measure => simp [intOf]; omega
    · obtain rfl : i = mi := by omega
      have HHb := Lib.hid (HH.out.front 1 rfl)
      simp only [List.eraseIdx_cons_succ, List.eraseIdx_cons_zero] at HHb
      clear HH
      obtain ⟨wo, rfl⟩ : ∃ wo, wo = wr := ⟨_, rfl⟩
      go_wp2_with fail
      go_loopw [14, 16] (fun v14 v16 wr => ∃ (j : Nat) (A' : Option Addr) (c' : Nat) (M : List TokD), j ≤ mj ∧ v16 = .int .i64 j ∧ v14 = .slice A' M.length c' ∧ Hid (M = rep [wordT kNot] j) ∧ Hid (M.length = j) ∧ Hid (Hold w.heap.size wr [(.slice A' M.length c', .row M), (.slice A L.length c, .row L), (.slice A1 X.length c1, .row X), (.pointer (some ⟨w.heap.size + 1, 0, none⟩), .ptr 36 #[.int .u8 a0, .int .u8 b0]), (.pointer (some ⟨w.heap.size, 0, none⟩), .ptr 54 #[.int .i64 x, .int .i64 y])]) ∧ Hid (Below w.heap.size w wr)) (fun _ v16 _ => mj - (intOf v16).toNat)
      case atStart => exact ⟨0, _, 0, [], Nat.zero_le _, rfl, rfl, Lib.hid rfl, Lib.hid rfl, HHb, HB⟩
      case round =>
        clear HHb HB
        obtain ⟨j, A', c', M, hj, rfl, rfl, HM, HlM, HH, HB⟩ := hrel
        by_cases hltj : j < mj
        · have hli : M.length ≤ 8 := by have := HlM.out; omega
          go_wp2_with (first | (go_at_call 26; go_must (refine (word4_any _ _).mono ?_); rintro e w4 ⟨rfl, hb⟩; replace HH := Lib.hid (HH.out.bel hb); replace HB := Lib.hid (HB.out.trans (below_low hb HB.out.size)); clear hb) | (at_builtin; go_must (refine wpList_appendT _ rfl _ _ rfl (.slice A' M.length c') M rfl (HH.out.alloc _).own _ 1 1 [wordT kNot] rfl (Rd.toks _ [wordT kNot] _ 1 rfl rfl (by omega)) rfl (by omega) ?_; intro v6 w6 ho6 hg6 hn6; obtain ⟨hh, hb⟩ := HH.out.grow HB.out ho6 hg6 hn6; generalize hG : M ++ [wordT kNot] = G at ho6 hh; obtain ⟨A2, c2, rfl, -, -⟩ := Own.rd ho6; have HG := Lib.hid hG; have HlG := Lib.hid (show G.length = M.length + 1 from (by rw [← hG, List.length_append]; rfl)); replace HH := Lib.hid hh; replace HB := Lib.hid hb; clear hG ho6 hg6 hn6 hh hb)))
          go_round
          case rel => exact ⟨j + 1, A2, c2, G, by omega, by go_num, rfl, Lib.hid (by rw [← HG.out, HM.out]; exact rep_next _ _), Lib.hid (by rw [HlG.out, HlM.out]), HH, HB⟩
          case measure => simp [intOf]; omega
        · obtain rfl : j = mj := by omega
          have hlL : L.length = i := HlL.out
          have hlM : M.length = j := HlM.out
          obtain ⟨n1, hn1⟩ : ∃ n1, L.length = n1 := ⟨_, rfl⟩
          clear hltj hlt
          go_upto_region 16 with fail
          refine wp_items (by kernel_rfl) [⟨61, none, .val (.pointer (some ⟨w.heap.size, 0, none⟩))⟩, ⟨62, none, .val (.int .i64 x)⟩, ⟨63, none, .val (tokV (numT x))⟩, ⟨64, some 5, .row [numT x]⟩, ⟨65, none, .val (.slice A1 X.length c1)⟩, ⟨66, some 10, .row ([numT x] ++ X)⟩, ⟨67, none, .val (.pointer (some ⟨w.heap.size, 1, none⟩))⟩, ⟨68, none, .val (.int .i64 y)⟩, ⟨69, none, .val (tokV (numT y))⟩, ⟨70, none, .row [numT y]⟩, ⟨71, some 11, .row (([numT x] ++ X) ++ [numT y])⟩, ⟨17, none, .row (([numT x] ++ X) ++ [numT y])⟩, ⟨14, none, .row M⟩, ⟨13, none, .row L⟩, ⟨9, none, .row X⟩, ⟨5, none, .ptr 36 #[.int .u8 a0, .int .u8 b0]⟩, ⟨4, none, .ptr 54 #[.int .i64 x, .int .i64 y]⟩] [61, 62, 63, 64, 65, 66, 67, 68, 69, 70, 71, 17, 14, 13, 9, 5, 4] [none, none, none, some 5, none, some 10, none, none, none, none, some 11, none, none, none, none, none, none] rfl rfl 160 w.heap.size HB.out.size rfl (by kernel_rfl) [11, 12, 13, 14, 15, 16] (by decide) (by decide) HH.out ?_ [some 61, some 62, some 63, some 64, some 65, some 66, some 67, some 68, some 69, some 70, some 71, some 17] rfl [(17, .row (([numT x] ++ X) ++ [numT y])), (14, .row M), (13, .row L), (9, .row X), (5, .ptr 36 #[.int .u8 a0, .int .u8 b0]), (4, .ptr 54 #[.int .i64 x, .int .i64 y])] rfl rfl ?_
          · exact ⟨step_addr rfl (Ev.base (by kernel_rfl) rfl) (Ev.const _) (fun w => by go_simp) rfl (by simp), step_load rfl (Ev.item 0 (by kernel_rfl) (by kernel_rfl) rfl rfl) (fun a w S hA => by have hb := Ev.blk 16 (Ev.base (by kernel_rfl) rfl) (by kernel_rfl) (by kernel_rfl) rfl a w S hA; have c0 := hb.cell 0; simp only [List.getElem?_toArray, List.getElem?_cons_zero, List.getElem?_cons_succ] at c0; go_simp) rfl (by simp), step_num rfl (Ev.item 1 (by kernel_rfl) (by kernel_rfl) rfl rfl) rfl (by simp), step_made1 rfl (Ev.item 2 (by kernel_rfl) (by kernel_rfl) rfl rfl) rfl (by simp), step_move rfl (Ev.base (by kernel_rfl) rfl) rfl (by simp), step_app 3 rfl (by kernel_rfl) rfl rfl rfl (EvRow.via 14 (Ev.item 4 (by kernel_rfl) (by kernel_rfl) rfl rfl) (Ev.base (by kernel_rfl) rfl) (by kernel_rfl) (by kernel_rfl) rfl) (by (try simp only [List.length_append, List.length_cons, List.length_nil]); omega) rfl (by simp), step_addr rfl (Ev.base (by kernel_rfl) rfl) (Ev.const _) (fun w => by go_simp) rfl (by simp), step_load rfl (Ev.item 6 (by kernel_rfl) (by kernel_rfl) rfl rfl) (fun a w S hA => by have hb := Ev.blk 16 (Ev.base (by kernel_rfl) rfl) (by kernel_rfl) (by kernel_rfl) rfl a w S hA; have c0 := hb.cell 1; simp only [List.getElem?_toArray, List.getElem?_cons_zero, List.getElem?_cons_succ] at c0; go_simp) rfl (by simp), step_num rfl (Ev.item 7 (by kernel_rfl) (by kernel_rfl) rfl rfl) rfl (by simp), step_made1 rfl (Ev.item 8 (by kernel_rfl) (by kernel_rfl) rfl rfl) rfl (by simp), step_app 5 rfl (by kernel_rfl) rfl rfl rfl (EvRow.item 9 (by kernel_rfl) (by kernel_rfl) rfl rfl) (by (try simp only [List.length_append, List.length_cons, List.length_nil]); omega) rfl (by simp), step_pass 10 (.inr rfl) (by kernel_rfl) rfl rfl rfl (by simp), True.intro⟩
          intro xs w9 hxs hbel hgr hh
          replace hxs : xs.length = 12 := hxs
          obtain ⟨x0, ys0, rfl, hx0⟩ := len_succ hxs
          obtain ⟨x1, ys1, rfl, hx1⟩ := len_succ hx0
          obtain ⟨x2, ys2, rfl, hx2⟩ := len_succ hx1
          obtain ⟨x3, ys3, rfl, hx3⟩ := len_succ hx2
          obtain ⟨x4, ys4, rfl, hx4⟩ := len_succ hx3
          obtain ⟨x5, ys5, rfl, hx5⟩ := len_succ hx4
          obtain ⟨x6, ys6, rfl, hx6⟩ := len_succ hx5
          obtain ⟨x7, ys7, rfl, hx7⟩ := len_succ hx6
          obtain ⟨x8, ys8, rfl, hx8⟩ := len_succ hx7
          obtain ⟨x9, ys9, rfl, hx9⟩ := len_succ hx8
          obtain ⟨x10, ys10, rfl, hx10⟩ := len_succ hx9
          obtain ⟨x11, ys11, rfl, hx11⟩ := len_succ hx10
          obtain rfl := len_zero hx11
          clear hxs hx0 hx1 hx2 hx3 hx4 hx5 hx6 hx7 hx8 hx9 hx10 hx11
          replace hh : Hold w.heap.size w9 [(x11, .row (([numT x] ++ X) ++ [numT y])), ((.slice A' M.length c'), .row M), ((.slice A L.length c), .row L), ((.slice A1 X.length c1), .row X), ((.pointer (some ⟨w.heap.size + 1, 0, none⟩)), .ptr 36 #[.int .u8 a0, .int .u8 b0]), ((.pointer (some ⟨w.heap.size, 0, none⟩)), .ptr 54 #[.int .i64 x, .int .i64 y])] := hh
          obtain ⟨R, hR⟩ : ∃ R, ([numT x] ++ X ++ [numT y]) = R := ⟨_, rfl⟩
          rw [hR] at hh
          obtain ⟨A3, c3, rfl, -, -⟩ := Own.rd hh.own
          replace HB := Lib.hid (HB.out.trans hbel)
          have HR := Lib.hid hR
          have hlR : R.length ≤ 4 := by rw [← hR]; simp only [List.length_append, List.length_cons, List.length_nil]; omega
          clear HH
          have HH := Lib.hid hh
          clear hh hR hbel hgr
          simp only [List.zip_cons_cons, List.zip_nil_left, List.zip_nil_right, putAll]
          have HRR : Hid (R = restL (k % 18) x y) := Lib.hid (by rw [← HR.out, ← HX.out]; rfl)
          obtain ⟨r1, nd1, hr1, he1, hl1, hn1', hc1⟩ := one_run (minus_ok x y (k := k % 18) (m := i) (by omega) (by omega) (by omega))
          obtain ⟨r2, nd2, hr2, he2, hl2, hn2', hc2⟩ := one_run (not_ok x y (k := k % 18) (m := j) (by omega) (by omega) (by omega))
          rw [← HL.out, ← HRR.out] at hr1
          rw [← HM.out, ← HRR.out] at hr2
          have hsr : ∀ t ∈ R, t.s.size ≤ maxLen := by
            rw [HRR.out]
            exact smallA (smallA (smallN x) (opT_small _)) (smallN y)
          have HS1 : Hid (∀ t ∈ L ++ R, t.s.size ≤ maxLen) := Lib.hid (smallA (by rw [HL.out]; exact rep_all (smallS _ (by decide)) i) hsr)
          have HS2 : Hid (∀ t ∈ M ++ R, t.s.size ≤ maxLen) := Lib.hid (smallA (by rw [HM.out]; exact rep_all (smallW _ (by decide)) j) hsr)
          obtain ⟨T1, hT1⟩ : ∃ T, treeOf r1.1.ns = T := ⟨_, rfl⟩
          obtain ⟨T2, hT2⟩ : ∃ T, treeOf r2.1.ns = T := ⟨_, rfl⟩
          obtain ⟨t1, ht1⟩ : ∃ t, t = 3 + i := ⟨_, rfl⟩
          obtain ⟨t2, ht2⟩ : ∃ t, t = 3 + j := ⟨_, rfl⟩
          rw [hT1] at hl1 hn1'
          rw [hT2] at hl2 hn2'
          rw [← ht1] at hl1
          rw [← ht2] at hl2
          have HR1 := Lib.hid (And.intro hr1 (And.intro he1 hT1))
          have HR2 := Lib.hid (And.intro hr2 (And.intro he2 hT2))
          have HL1 := Lib.hid (And.intro hl1 hn1')
          have HL2 := Lib.hid (And.intro hl2 hn2')
          have HC1 := Lib.hid hc1
          have HC2 := Lib.hid hc2
          have HT1 := Lib.hid ht1
          have HT2 := Lib.hid ht2
          obtain ⟨N1, hN1⟩ : ∃ N, nodeOf r1 = N := ⟨_, rfl⟩
          obtain ⟨U1, hU1⟩ : ∃ N, usedOf r1 = N := ⟨_, rfl⟩
          obtain ⟨N2, hN2⟩ : ∃ N, nodeOf r2 = N := ⟨_, rfl⟩
          obtain ⟨U2, hU2⟩ : ∃ N, usedOf r2 = N := ⟨_, rfl⟩
          have HN1 := Lib.hid (And.intro hN1 hU1)
          have HN2 := Lib.hid (And.intro hN2 hU2)
          have hb8 : L.length ≤ 8 ∧ M.length ≤ 8 := ⟨by omega, by omega⟩
          obtain ⟨hb81, hb82⟩ := hb8
          have HlL' := Lib.hid hlL
          have HlM' := Lib.hid hlM
          have HM1 := Lib.hid True.intro
          clear hr1 he1 hT1 hr2 he2 hT2 hl1 hn1' hl2 hn2' hc1 hc2 ht1 ht2 hN1 hU1 hN2 hU2 hsr hlL hlM hn1
          go_upto_region 18 with (first | (at_builtin; go_must (first | (have hmk := HM1.out; clear HM1 hmk; have hh1 := HH.out.made0 HB.out.size; refine wpList_appendT _ rfl _ _ rfl (.slice (some ⟨w9.heap.size, 0, none⟩) 0 0) [] rfl hh1.own _ L.length c L rfl (OwnT.rd_ (hh1.front 3 rfl).own) rfl (by simp only [List.length_nil]; omega) ?_; intro v6 w6 ho6 hg6 hn6; obtain ⟨hh, hb⟩ := hh1.grow0 (Below.alloc HB.out HB.out.size _) ho6 hg6 hn6; simp only [List.nil_append] at ho6 hh; obtain ⟨A4, c4, rfl, -, -⟩ := Own.rd ho6; replace HH := Lib.hid hh; replace HB := Lib.hid hb; clear ho6 hg6 hn6 hh hb hh1) | (refine wpList_appendT _ rfl _ _ rfl (.slice A4 L.length c4) L rfl HH.out.own _ R.length c3 R rfl (OwnT.rd_ (HH.out.front 1 rfl).own) rfl (by omega) ?_; intro v6 w6 ho6 hg6 hn6; obtain ⟨hh, hb⟩ := HH.out.grow0 HB.out ho6 hg6 hn6; generalize hG : L ++ R = D1 at ho6 hh; have HD1 := Lib.hid hG; have hlD1 : D1.length ≤ 12 := (by rw [← hG, List.length_append]; omega); obtain ⟨A5, c5, rfl, -, -⟩ := Own.rd ho6; replace HH := Lib.hid hh; replace HB := Lib.hid hb; clear ho6 hg6 hn6 hh hb hG))) | (go_at_call 16; go_must (refine (told_is (m := t1) (hm := HL1.out.1) (a := N1) (b := U1) (e := 0) (by rw [← HD1.out]; exact HR1.out.1) HN1.out.1 HN1.out.2 HR1.out.2.1 HR1.out.2.2 (OwnT.rd_ HH.out.own) (OwnT.old HH.out.own) rfl (by omega) (by rw [← HD1.out]; exact HS1.out) (HT.out.below HB.out)).mono ?_); rintro e w11 ⟨A6, c6, rfl, hrn, hbn⟩; have HRN := Lib.hid hrn; replace HH := Lib.hid (HH.out.tail.bel hbn); replace HB := Lib.hid (HB.out.trans (below_low hbn HB.out.size)); clear hrn hbn))
          have hh := HH.out.got (N := N1) (U := U1) (E := 0) HB.out.size HRN.out HL1.out.1
          have hb9 : Below w.heap.size w (w11.alloc (.cells #[.int .i64 N1, .int .i64 U1, .int .i64 0, .slice A6 t1 c6] 31)) := Below.alloc HB.out HB.out.size _
          generalize w11.alloc (.cells #[.int .i64 N1, .int .i64 U1, .int .i64 0, .slice A6 t1 c6] 31) = W1 at hh hb9 ⊢
          generalize w11.heap.size = g1 at hh ⊢
          clear HH HB HRN
          have HH := Lib.hid hh
          have HB := Lib.hid hb9
          clear hh hb9
          have HM1 := Lib.hid True.intro
          go_upto_region 19 with (first | (at_builtin; go_must (first | (have hmk := HM1.out; clear HM1 hmk; have hh1 := HH.out.made0 HB.out.size; refine wpList_appendT _ rfl _ _ rfl (.slice (some ⟨W1.heap.size, 0, none⟩) 0 0) [] rfl hh1.own _ M.length c' M rfl (OwnT.rd_ (hh1.front 3 rfl).own) rfl (by simp only [List.length_nil]; omega) ?_; intro v6 w6 ho6 hg6 hn6; obtain ⟨hh, hb⟩ := hh1.grow0 (Below.alloc HB.out HB.out.size _) ho6 hg6 hn6; simp only [List.nil_append] at ho6 hh; obtain ⟨A7, c7, rfl, -, -⟩ := Own.rd ho6; replace HH := Lib.hid hh; replace HB := Lib.hid hb; clear ho6 hg6 hn6 hh hb hh1) | (refine wpList_appendT _ rfl _ _ rfl (.slice A7 M.length c7) M rfl HH.out.own _ R.length c3 R rfl (OwnT.rd_ (HH.out.front 2 rfl).own) rfl (by omega) ?_; intro v6 w6 ho6 hg6 hn6; obtain ⟨hh, hb⟩ := HH.out.grow0 HB.out ho6 hg6 hn6; generalize hG : M ++ R = D2 at ho6 hh; have HD2 := Lib.hid hG; have hlD2 : D2.length ≤ 12 := (by rw [← hG, List.length_append]; omega); obtain ⟨A8, c8, rfl, -, -⟩ := Own.rd ho6; replace HH := Lib.hid hh; replace HB := Lib.hid hb; clear ho6 hg6 hn6 hh hb hG))) | (go_at_call 16; go_must (refine (told_is (m := t2) (hm := HL2.out.1) (a := N2) (b := U2) (e := 0) (by rw [← HD2.out]; exact HR2.out.1) HN2.out.1 HN2.out.2 HR2.out.2.1 HR2.out.2.2 (OwnT.rd_ HH.out.own) (OwnT.old HH.out.own) rfl (by omega) (by rw [← HD2.out]; exact HS2.out) (HT.out.below HB.out)).mono ?_); rintro e w12 ⟨A9, c9, rfl, hrn, hbn⟩; have HRN := Lib.hid hrn; replace HH := Lib.hid (HH.out.tail.bel hbn); replace HB := Lib.hid (HB.out.trans (below_low hbn HB.out.size)); clear hrn hbn))
          have hh := HH.out.got (N := N2) (U := U2) (E := 0) HB.out.size HRN.out HL2.out.1
          have hb9 : Below w.heap.size w (w12.alloc (.cells #[.int .i64 N2, .int .i64 U2, .int .i64 0, .slice A9 t2 c9] 31)) := Below.alloc HB.out HB.out.size _
          generalize w12.alloc (.cells #[.int .i64 N2, .int .i64 U2, .int .i64 0, .slice A9 t2 c9] 31) = W2 at hh hb9 ⊢
          generalize w12.heap.size = g2 at hh ⊢
          clear HH HB HRN
          have HH := Lib.hid hh
          have HB := Lib.hid hb9
          clear hh hb9
          have hc1 := HC1.out
          have hc2 := HC2.out
          rw [HP.out] at hc1 hc2
          have ht1 := HT1.out
          have ht2 := HT2.out
          have hq1 : ((t1 : Int) != 3 + (i : Int)) = false := by rw [ht1]; simp
          have hq2 : ((t2 : Int) != 3 + (j : Int)) = false := by rw [ht2]; simp
          have hw1 : IntKind.i64.wrap ((t1 : Int) - 1) = ((t1 - 1 : Nat) : Int) := by rw [IntWalk.i64_in _ (by omega)]; omega
          have hw2 : IntKind.i64.wrap ((t2 : Int) - 1) = ((t2 - 1 : Nat) : Int) := by rw [IntWalk.i64_in _ (by omega)]; omega
          have hx1 : t1 - 1 < t1 := by omega
          have hx2 : t2 - 1 < t2 := by omega
          have hnd1 := HL1.out.2
          have hnd2 := HL2.out.2
          rw [show 2 + i = t1 - 1 from by omega] at hnd1
          rw [show 2 + j = t2 - 1 from by omega] at hnd2
          obtain ⟨op1, at1, s1, n1, ks1⟩ := nd1
          obtain ⟨op2, at2, s2, n2, ks2⟩ := nd2
          simp only at hc1 hc2
          obtain ⟨Aq1, cq1, hk1, hr1⟩ := HH.out.tail.gotOpen HL1.out.1
          obtain ⟨Aq2, cq2, hk2, hr2⟩ := HH.out.gotOpen HL2.out.1
          obtain ⟨b1, o1, K1, d1, rfl, z1, x10, x11, x12, x13, x14, -⟩ := hr1.nth hnd1
          obtain ⟨b2, o2, K2, d2, rfl, z2, x20, x21, x22, x23, x24, -⟩ := hr2.nth hnd2
          have lg1 := hk1.lt
          have lg2 := hk2.lt
          have y10 := hk1.cell 0
          have y11 := hk1.cell 1
          have y12 := hk1.cell 2
          have y13 := hk1.cell 3
          have y20 := hk2.cell 0
          have y21 := hk2.cell 1
          have y22 := hk2.cell 2
          have y23 := hk2.cell 3
          simp only [List.getElem?_toArray, List.getElem?_cons_zero, List.getElem?_cons_succ] at y10 y11 y12 y13 y20 y21 y22 y23
          have hge := opO_ge (k % 18) (by omega)
          clear hk1 hk2 hr1 hr2 hnd1 hnd2 ht1 ht2 HL1 HL2 HT1 HT2 HC1 HC2 HH
          by_cases hp9 : p = 9
          · subst hp9
            simp only [decide_true, true_and, Bool.true_eq_false, false_and, or_false] at hc1
            have h4 : decide ((4 : Int) < 9) = true := by decide
            simp only [h4, true_and, Bool.true_eq_false, false_and, or_false] at hc2
            subst hc1 hc2
            clear hge h4
            go_wp2_with fail
            go_ret
            exact ⟨rfl, by have := HB.out; have hsz := this.size; exact (by repeat (first | exact Below.refl _ _ | assumption | refine Below.setCell ?_ (by first | (simp; done) | (simp; omega) | omega) _ | refine below_drewN ?_ _ | refine Below.drew ?_ | refine Below.alloc ?_ (by first | (simp; done) | (simp; omega) | omega) _))⟩
          · have h9 : decide (p = 9) = false := decide_eq_false hp9
            simp only [h9, Bool.false_eq_true, false_and, false_or, true_and] at hc1
            obtain ⟨rfl, rfl⟩ := hc1
            have f1 : (p == 9) = false := by simp [hp9]
            have fo : (opO (k % 18) == 10) = false := by rw [beq_eq_false_iff_ne]; omega
            by_cases h4 : 4 < p
            · have f4 : decide (4 < p) = true := decide_eq_true h4
              simp only [f4, true_and, Bool.true_eq_false, false_and, or_false] at hc2
              subst hc2
              clear hge h9
              go_wp2_with (go_at_call 25; go_must (refine (is_any2 (k % 18) (by omega) _ _ _ _).mono ?_); rintro e W5 ⟨rfl, hb⟩; have HB5 := Lib.hid ((show Below w.heap.size w _ from (by have := HB.out; have hsz := this.size; exact (by repeat (first | exact Below.refl _ _ | assumption | refine Below.setCell ?_ (by first | (simp; done) | (simp; omega) | omega) _ | refine below_drewN ?_ _ | refine Below.drew ?_ | refine Below.alloc ?_ (by first | (simp; done) | (simp; omega) | omega) _)))).trans (below_low hb (by have := HB.out.size; simp; omega))); clear hb HB)
              go_ret
              exact ⟨rfl, HB5.out⟩
            · have f4 : decide (4 < p) = false := decide_eq_false h4
              simp only [f4, Bool.false_eq_true, false_and, false_or, true_and] at hc2
              obtain ⟨rfl, rfl⟩ := hc2
              have fo2 : (opO (k % 18) == 11) = false := by rw [beq_eq_false_iff_ne]; omega
              clear hge h9
              go_upto_region 24 with fail
              generalize hW3 : World.alloc _ _ = W3
              have k0 : Blk W3 W2.heap.size 51 #[.int .i64 (opO (k % 18)), .int .i64 at1, .string (opX (k % 18)), .int .i64 n1, .slice K1 ks1.length d1] := by rw [← hW3]; exact Blk.alloc (Blk.at_new rfl) _
              have k1 : Blk W3 (W2.heap.size + 1) 51 #[.int .i64 (opO (k % 18)), .int .i64 at2, .string (opX (k % 18)), .int .i64 n2, .slice K2 ks2.length d2] := by rw [← hW3]; exact Blk.at_new (by simp only [World.size_alloc])
              have HB3 : Hid (Below w.heap.size w W3) := Lib.hid (by rw [← hW3]; have := HB.out; have hsz := this.size; exact (by repeat (first | exact Below.refl _ _ | assumption | refine Below.setCell ?_ (by first | (simp; done) | (simp; omega) | omega) _ | refine below_drewN ?_ _ | refine Below.drew ?_ | refine Below.alloc ?_ (by first | (simp; done) | (simp; omega) | omega) _)))
              have l0 := k0.lt
              have e0 := k0.cell 0
              have e1 := k0.cell 1
              have e2 := k0.cell 2
              have e3 := k0.cell 3
              have e4 := k0.cell 4
              have l1 := k1.lt
              have m0 := k1.cell 0
              simp only [List.getElem?_toArray, List.getElem?_cons_zero, List.getElem?_cons_succ] at e0 e1 e2 e3 e4 m0
              have HK1 := Lib.hid k1
              have HM1 := Lib.hid True.intro
              clear hW3 k0 k1 HB x10 x11 x12 x13 x14 x20 x21 x22 x23 x24 y10 y11 y12 y13 y20 y21 y22 y23
              go_wp2_with (first | (have hmk := HM1.out; clear HM1 hmk; go_at_call 25; go_must (refine (is_any2 (k % 18) (by omega) _ _ _ _).mono ?_); rintro e W5 ⟨rfl, hb⟩; have HB5 := Lib.hid (HB3.out.trans (below_low hb HB3.out.size)); have k5 := HK1.out.bel hb; have l5 := k5.lt; have e5 := k5.cell 0; have e6 := k5.cell 1; have e7 := k5.cell 2; have e8 := k5.cell 3; have e9 := k5.cell 4; simp only [List.getElem?_toArray, List.getElem?_cons_zero, List.getElem?_cons_succ] at e5 e6 e7 e8 e9; clear k5 hb HB3 HK1) | (go_at_call 25; go_must (refine (is_any2 (k % 18) (by omega) _ _ _ _).mono ?_); rintro e W6 ⟨rfl, hb⟩; have HB6 := Lib.hid (HB5.out.trans (below_low hb HB5.out.size)); clear hb HB5))
              go_ret
              exact ⟨rfl, HB6.out⟩
theorem ones_int (k a b x y : Int) (wk : (Lit.int .u8 k).wf = true) (wa : (Lit.int .u8 a).wf = true) (wb : (Lit.int .u8 b).wf = true) (w : World) (htab : Asp w) : Calls Tryd.prog 7 #[.int .u8 k, .agg #[.int .i64 x, .int .i64 y], .agg #[.int .u8 a, .int .u8 b]] w fun e w' => e = .returned (.bool true) ∧ Below w.heap.size w w' := by
  obtain ⟨k, rfl, hk⟩ := byte_of wk
  obtain ⟨a, rfl, ha⟩ := byte_of wa
  obtain ⟨b, rfl, hb⟩ := byte_of wb
  exact ones_walk k a b hk ha hb x y w htab
end Go.Proofs.YtjdcicopjipmnaaDoor
