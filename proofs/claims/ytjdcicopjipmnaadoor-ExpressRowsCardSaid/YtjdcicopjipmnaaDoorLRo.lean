/- ExpressRows: the walk, lists, tuples and dicts. -/
import Derived.Test.YtjdcicopjipmnaaDoorRoo
namespace Go.Proofs.YtjdcicopjipmnaaDoor
open Go.RowKit
set_option linter.unusedVariables false
set_option linter.unusedSimpArgs false
set_option maxRecDepth 100000 in
set_option maxHeartbeats 40000000 in
theorem rows_walk0 (n kd : Nat) (hn : n < 256) (hk : kd < 256) (hk3 : kd % 3 = 0) (hk4 : kd % 4 ≠ 3) (w : World) (htab : Asp w) : Calls Tryd.prog 11 #[.int .u8 n, .int .u8 kd] w fun e w' => e = .returned (.bool true) ∧ Below w.heap.size w w' := by
  have HT := Lib.hid htab
  have hi3 : ((kd : Int) % 3) = 0 := by omega
  have hi4 : (((kd : Int) % 4) == 3) = false := by rw [beq_eq_false_iff_ne]; omega
  have hi5 : ¬ ((kd : Int) % 4) = 3 := by omega
  have hxo : ∀ w : World, (Instr.index 60 (.agg #[.int .i64 4, .int .i64 0, .string ⟨#[91]⟩, .int .i64 0, .int .i64 4, .int .i64 0, .string ⟨#[40]⟩, .int .i64 0, .int .i64 4, .int .i64 0, .string ⟨#[123]⟩, .int .i64 0]) (.int .u8 0)).run Tryd.prog w = .ok (.agg #[.int .i64 4, .int .i64 0, .string ⟨#[91]⟩, .int .i64 0]) w := fun w => by kernel_rfl
  have hxe : ∀ w : World, (Instr.index 60 (.agg #[.int .i64 4, .int .i64 0, .string ⟨#[93]⟩, .int .i64 0, .int .i64 4, .int .i64 0, .string ⟨#[41]⟩, .int .i64 0, .int .i64 4, .int .i64 0, .string ⟨#[125]⟩, .int .i64 0]) (.int .u8 0)).run Tryd.prog w = .ok (.agg #[.int .i64 4, .int .i64 0, .string ⟨#[93]⟩, .int .i64 0]) w := fun w => by kernel_rfl
  have hxk : ∀ w : World, (Instr.index 61 (.agg #[.int .i64 7, .int .i64 8, .int .i64 9]) (.int .u8 0)).run Tryd.prog w = .ok (.int .i64 7) w := fun w => by kernel_rfl
  clear htab
  go_enter Tryd.func11, Tryd.ntmps11
  go_upto_region 3 with (go_at_call 14; go_must (refine (shown_any _ HT.out).mono ?_); rintro e w1 ⟨rfl, hb⟩; have HB : Hid (Below w.heap.size w w1) := Lib.hid hb; clear hb)
  obtain ⟨m, hm⟩ : ∃ m, m = n % 13 := ⟨_, rfl⟩
  rw [show ((n : Int) % 13) = (m : Int) from by omega]
  have hm13 : m < 13 := by omega
  clear hm
  go_upto_region 4 with (go_at_call 21; go_must (refine (sign_any _ _).mono ?_); rintro e w4 ⟨rfl, hb⟩; replace HB := Lib.hid (HB.out.trans (below_low hb HB.out.size)); clear hb)
  have HH := Lib.hid ((Hold.nil w.heap.size w4).made HB.out.size [signT gLb] _ 1 rfl rfl (by omega))
  have hb5 := Below.alloc HB.out HB.out.size (.cells #[.int .i64 4, .int .i64 0, .string ⟨#[91]⟩, .int .i64 0] 39)
  have HH2 : Hid (Hold w.heap.size (w4.alloc (.cells #[.int .i64 4, .int .i64 0, .string ⟨#[91]⟩, .int .i64 0] 39)) [(.slice (some ⟨w4.heap.size, 0, none⟩) 1 1, .row [signT gLb])]) := HH
  generalize w4.alloc (.cells #[.int .i64 4, .int .i64 0, .string ⟨#[91]⟩, .int .i64 0] 39) = w5 at HH2 hb5 ⊢
  generalize hG4 : w4.heap.size = g4 at HH2 ⊢
  clear HH HB hG4
  have HH := HH2
  have HB := Lib.hid hb5
  clear HH2 hb5
  go_upto_region 5 with (go_at_call 21; go_must (refine (sign_any _ _).mono ?_); rintro e w6 ⟨rfl, hb⟩; replace HH := Lib.hid (HH.out.bel hb); replace HB := Lib.hid (HB.out.trans (below_low hb HB.out.size)); clear hb)
  have HH2 : Hid (Hold w.heap.size (w6.alloc (.cells #[.int .i64 4, .int .i64 0, .string ⟨#[93]⟩, .int .i64 0] 39)) [(.pointer (some ⟨w6.heap.size, 0, none⟩), .ptr 39 (tcs (signT gRb)).toArray), (.slice (some ⟨g4, 0, none⟩) 1 1, .row [signT gLb])]) := Lib.hid (HH.out.ptrNew HB.out.size 39 _)
  have hb5 := Below.alloc HB.out HB.out.size (.cells #[.int .i64 4, .int .i64 0, .string ⟨#[93]⟩, .int .i64 0] 39)
  generalize w6.alloc (.cells #[.int .i64 4, .int .i64 0, .string ⟨#[93]⟩, .int .i64 0] 39) = w7 at HH2 hb5 ⊢
  generalize hG8 : w6.heap.size = g8 at HH2 ⊢
  clear HH HB hG8
  have HH := HH2
  have HB := Lib.hid hb5
  clear HH2 hb5
  have HH0 : Hid (Hold w.heap.size w7 [(.slice (some ⟨g4, 0, none⟩) 1 1, .row [signT gLb]), (.pointer (some ⟨g8, 0, none⟩), .ptr 39 (tcs (signT gRb)).toArray)]) := Lib.hid (HH.out.front 1 rfl)
  clear HH
  go_wp2_with fail
  try simp only [hi3]
  go_loopw [11, 12] (fun v11 v12 wr => ∃ (i : Nat) (A : Option Addr) (c : Nat) (L : List TokD), i ≤ m ∧ v12 = .int .i64 i ∧ v11 = .slice A L.length c ∧ Hid (L = rowL 0 i) ∧ Hid (L.length ≤ 2 + 5 * i) ∧ Hid (Hold w.heap.size wr [(.slice A L.length c, .row L), (.pointer (some ⟨g8, 0, none⟩), .ptr 39 (tcs (signT gRb)).toArray)]) ∧ Hid (Below w.heap.size w wr)) (fun _ v12 _ => m - (intOf v12).toNat)
  case atStart => exact ⟨0, _, 1, [signT gLb], Nat.zero_le _, rfl, rfl, Lib.hid rfl, Lib.hid (by decide), HH0, HB⟩
  case round =>
    obtain ⟨i, A, c, L, hi, rfl, rfl, HL, HlL, HH, HB⟩ := hrel
    clear HH0
    by_cases hlt : i < m
    · have hli : L.length ≤ 62 := by have := HlL.out; omega
      by_cases h0 : 0 < i
      · have hd0 : decide ((0 : Int) < (i : Int)) = true := by simp; exact h0
        have HM1 := Lib.hid True.intro
        have HM2 := Lib.hid True.intro
        go_wp2_with (first | (go_at_call 21; go_must (refine (sign_any _ _).mono ?_); rintro e w4 ⟨rfl, hb⟩; replace HH := Lib.hid (HH.out.bel hb); replace HB := Lib.hid (HB.out.trans (below_low hb HB.out.size)); clear hb) | (go_at_call 23; go_must (refine (num_any _ _).mono ?_); rintro e w4 ⟨rfl, hb⟩; replace HH := Lib.hid (HH.out.bel hb); replace HB := Lib.hid (HB.out.trans (below_low hb HB.out.size)); clear hb) | (go_at_call 26; go_must (refine (word4_any _ _).mono ?_); rintro e w4 ⟨rfl, hb⟩; replace HH := Lib.hid (HH.out.bel hb); replace HB := Lib.hid (HB.out.trans (below_low hb HB.out.size)); clear hb) | (at_builtin; go_must (first | (have hmk := HM1.out; clear HM1 hmk; refine wpList_appendT _ rfl _ _ rfl (.slice A L.length c) L rfl (HH.out.alloc _).own _ 1 1 [signT gComma] rfl (Rd.toks _ [signT gComma] _ 1 rfl rfl (by omega)) rfl (by (try have hbb := HlG1.out); (try have hbc := HlG2.out); omega) ?_; intro v6 w6 ho6 hg6 hn6; obtain ⟨hh, hb⟩ := HH.out.grow HB.out ho6 hg6 hn6; generalize hG : L ++ [signT gComma] = G1 at ho6 hh; obtain ⟨A1, c1, rfl, -, -⟩ := Own.rd ho6; have HG1 := Lib.hid hG; have HlG1 := Lib.hid (show G1.length = L.length + 1 from (by rw [← hG, List.length_append]; rfl)); replace HH := Lib.hid hh; replace HB := Lib.hid hb; clear hG ho6 hg6 hn6 hh hb) | (have hmk := HM2.out; clear HM2 hmk; refine wpList_appendT _ rfl _ _ rfl (.slice A1 G1.length c1) G1 rfl (HH.out.alloc _).own _ 1 1 [numT (i : Int)] rfl (Rd.toks _ [numT (i : Int)] _ 1 rfl rfl (by omega)) rfl (by (try have hbb := HlG1.out); (try have hbc := HlG2.out); omega) ?_; intro v6 w6 ho6 hg6 hn6; obtain ⟨hh, hb⟩ := HH.out.grow HB.out ho6 hg6 hn6; generalize hG : G1 ++ [numT (i : Int)] = G2 at ho6 hh; obtain ⟨A2, c2, rfl, -, -⟩ := Own.rd ho6; have HG2 := Lib.hid hG; have HlG2 := Lib.hid (show G2.length = G1.length + 1 from (by rw [← hG, List.length_append]; rfl)); replace HH := Lib.hid hh; replace HB := Lib.hid hb; clear hG ho6 hg6 hn6 hh hb))))
        go_round
        case rel => exact ⟨i + 1, A2, c2, G2, by omega, by go_num, rfl, Lib.hid (by rw [← HG2.out, ← HG1.out, HL.out]; simp [rowL, h0]), Lib.hid (by rw [HlG2.out, HlG1.out]; have := HlL.out; omega), HH, HB⟩
        case measure => simp [intOf]; omega
      · have hd0 : decide ((0 : Int) < (i : Int)) = false := by simp; omega
        have HM2 := Lib.hid True.intro
        go_wp2_with (first | (go_at_call 21; go_must (refine (sign_any _ _).mono ?_); rintro e w4 ⟨rfl, hb⟩; replace HH := Lib.hid (HH.out.bel hb); replace HB := Lib.hid (HB.out.trans (below_low hb HB.out.size)); clear hb) | (go_at_call 23; go_must (refine (num_any _ _).mono ?_); rintro e w4 ⟨rfl, hb⟩; replace HH := Lib.hid (HH.out.bel hb); replace HB := Lib.hid (HB.out.trans (below_low hb HB.out.size)); clear hb) | (go_at_call 26; go_must (refine (word4_any _ _).mono ?_); rintro e w4 ⟨rfl, hb⟩; replace HH := Lib.hid (HH.out.bel hb); replace HB := Lib.hid (HB.out.trans (below_low hb HB.out.size)); clear hb) | (at_builtin; go_must (first | (have hmk := HM2.out; clear HM2 hmk; refine wpList_appendT _ rfl _ _ rfl (.slice A L.length c) L rfl (HH.out.alloc _).own _ 1 1 [numT (i : Int)] rfl (Rd.toks _ [numT (i : Int)] _ 1 rfl rfl (by omega)) rfl (by (try have hbb := HlG1.out); (try have hbc := HlG2.out); omega) ?_; intro v6 w6 ho6 hg6 hn6; obtain ⟨hh, hb⟩ := HH.out.grow HB.out ho6 hg6 hn6; generalize hG : L ++ [numT (i : Int)] = G2 at ho6 hh; obtain ⟨A2, c2, rfl, -, -⟩ := Own.rd ho6; have HG2 := Lib.hid hG; have HlG2 := Lib.hid (show G2.length = L.length + 1 from (by rw [← hG, List.length_append]; rfl)); replace HH := Lib.hid hh; replace HB := Lib.hid hb; clear hG ho6 hg6 hn6 hh hb))))
        go_round
        case rel => exact ⟨i + 1, A2, c2, G2, by omega, by go_num, rfl, Lib.hid (by rw [← HG2.out, HL.out]; simp [rowL, h0]), Lib.hid (by rw [HlG2.out]; have := HlL.out; omega), HH, HB⟩
        case measure => simp [intOf]; omega
    · obtain rfl : i = m := by omega
      obtain ⟨hp, hcm, htw⟩ := row_ok (f := 0) (m := i) (by omega) hm13
      obtain ⟨r1, hr1, he1, hc1⟩ := rowPlain_run hp
      obtain ⟨r2, hr2, hc2⟩ := rowComma_run hcm
      obtain ⟨r3, hr3, he3, hc3⟩ := rowTwo_run htw
      have hLs : ∀ t ∈ L, t.s.size ≤ maxLen := by rw [HL.out]; exact rowL_small _ _
      rw [← HL.out] at hr1 hr2 hr3 hc2 hc3
      have HS1 : Hid (∀ t ∈ (([] ++ L) ++ [signT gRb]), t.s.size ≤ maxLen) := Lib.hid (smallA (smallA (fun t h => by cases h) hLs) (smallS _ (by decide)))
      have HS2 : Hid (∀ t ∈ (([] ++ L) ++ [signT gComma, signT gRb]), t.s.size ≤ maxLen) := Lib.hid (smallA (smallA (fun t h => by cases h) hLs) (smallA (a := [signT gComma]) (smallS _ (by decide)) (smallS _ (by decide))))
      have HS3 : Hid (∀ t ∈ (([] ++ L) ++ [signT gComma, signT gComma, signT gRb]), t.s.size ≤ maxLen) := Lib.hid (smallA (smallA (fun t h => by cases h) hLs) (smallA (a := [signT gComma]) (smallS _ (by decide)) (smallA (a := [signT gComma]) (smallS _ (by decide)) (smallS _ (by decide)))))
      obtain ⟨T1, hT1⟩ : ∃ T, treeOf r1.1.ns = T := ⟨_, rfl⟩
      obtain ⟨N1, hN1⟩ : ∃ N, nodeOf r1 = N := ⟨_, rfl⟩
      obtain ⟨U1, hU1⟩ : ∃ U, usedOf r1 = U := ⟨_, rfl⟩
      obtain ⟨E1, hE1⟩ : ∃ E, r1.1.e = E := ⟨_, rfl⟩
      obtain ⟨t1, ht1⟩ : ∃ t, T1.length = t := ⟨_, rfl⟩
      obtain ⟨T2, hT2⟩ : ∃ T, treeOf r2.1.ns = T := ⟨_, rfl⟩
      obtain ⟨N2, hN2⟩ : ∃ N, nodeOf r2 = N := ⟨_, rfl⟩
      obtain ⟨U2, hU2⟩ : ∃ U, usedOf r2 = U := ⟨_, rfl⟩
      obtain ⟨E2, hE2⟩ : ∃ E, r2.1.e = E := ⟨_, rfl⟩
      obtain ⟨t2, ht2⟩ : ∃ t, T2.length = t := ⟨_, rfl⟩
      obtain ⟨T3, hT3⟩ : ∃ T, treeOf r3.1.ns = T := ⟨_, rfl⟩
      obtain ⟨N3, hN3⟩ : ∃ N, nodeOf r3 = N := ⟨_, rfl⟩
      obtain ⟨U3, hU3⟩ : ∃ U, usedOf r3 = U := ⟨_, rfl⟩
      obtain ⟨E3, hE3⟩ : ∃ E, r3.1.e = E := ⟨_, rfl⟩
      obtain ⟨t3, ht3⟩ : ∃ t, T3.length = t := ⟨_, rfl⟩
      rw [hE1] at he1
      rw [hE3] at he3
      rw [hT1] at hc1
      rw [hT2, hU2, hE2] at hc2
      rw [hU3] at hc3
      have HR1 := Lib.hid hr1
      have HT1 := Lib.hid hT1
      have HN1 := Lib.hid hN1
      have HU1 := Lib.hid hU1
      have HE1 := Lib.hid hE1
      have HL1 := Lib.hid ht1
      clear hr1 hT1 hN1 hU1 hE1 ht1
      have HR2 := Lib.hid hr2
      have HT2 := Lib.hid hT2
      have HN2 := Lib.hid hN2
      have HU2 := Lib.hid hU2
      have HE2 := Lib.hid hE2
      have HL2 := Lib.hid ht2
      clear hr2 hT2 hN2 hU2 hE2 ht2
      have HR3 := Lib.hid hr3
      have HT3 := Lib.hid hT3
      have HN3 := Lib.hid hN3
      have HU3 := Lib.hid hU3
      have HE3 := Lib.hid hE3
      have HL3 := Lib.hid ht3
      clear hr3 hT3 hN3 hU3 hE3 ht3
      have HC := Lib.hid (And.intro hc1 (And.intro hc2 hc3))
      have hll : L.length ≤ 62 := by have := HlL.out; omega
      clear hc1 hc2 hc3 hp hcm htw hLs hlt
      subst he1 he3
      go_upto_region 19 with fail
      refine wp_items (by kernel_rfl) [⟨77, some 2, .row []⟩, ⟨78, none, .val (.slice A L.length c)⟩, ⟨79, some 5, .row ([] ++ L)⟩, ⟨80, none, .val (tokV (signT gRb))⟩, ⟨81, none, .row [signT gRb]⟩, ⟨82, none, .row (([] ++ L) ++ [signT gRb])⟩, ⟨83, none, .got N1 U1 0 T1⟩, ⟨13, some 8, .ptr 31 #[.int .i64 0, .int .i64 0, .int .i64 0, .slice none 0 0]⟩, ⟨13, none, .gotAt N1 U1 0 T1⟩, ⟨11, none, .row L⟩, ⟨8, none, .ptr 39 (tcs (signT gRb)).toArray⟩] [77, 78, 79, 80, 81, 82, 83, 13, 13, 11, 8] [some 2, none, some 5, none, none, none, none, some 8, none, none, none] rfl rfl 226 w.heap.size HB.out.size rfl (by kernel_rfl) [8, 9, 10] (by decide) (by decide) HH.out ?_ [some 77, some 78, some 79, some 80, some 81, some 82, some 83, some 13, none] rfl [(13, .gotAt N1 U1 0 T1), (11, .row L), (8, .ptr 39 (tcs (signT gRb)).toArray)] rfl rfl ?_
      · exact ⟨step_made0 rfl rfl (by simp), step_move rfl (Ev.base (by kernel_rfl) rfl) rfl (by simp), step_app 0 rfl (by kernel_rfl) rfl rfl rfl (EvRow.via 9 (Ev.item 1 (by kernel_rfl) (by kernel_rfl) rfl rfl) (Ev.base (by kernel_rfl) rfl) (by kernel_rfl) (by kernel_rfl) rfl) (by (try simp only [List.length_append, List.length_cons, List.length_nil]); omega) rfl (by simp), step_load rfl (Ev.base (by kernel_rfl) rfl) (fun a w S hA => run_loadTok (Ev.blk 10 (Ev.base (by kernel_rfl) rfl) (by kernel_rfl) (by kernel_rfl) rfl a w S hA)) rfl (by simp), step_made1 rfl (Ev.item 3 (by kernel_rfl) (by kernel_rfl) rfl rfl) rfl (by simp), step_app 2 rfl (by kernel_rfl) rfl rfl rfl (EvRow.item 4 (by kernel_rfl) (by kernel_rfl) rfl rfl) (by (try simp only [List.length_append, List.length_cons, List.length_nil]); omega) rfl (by simp), step_told rfl (EvOwn.item 5 (by kernel_rfl) (by kernel_rfl) rfl rfl) (by rw [List.nil_append]; exact HR1.out) HN1.out HU1.out HE1.out HT1.out (by simp only [List.length_append, List.length_cons, List.length_nil]; omega) HS1.out (fun w hb => HT.out.below (HB.out.trans hb)) rfl (by simp), step_alloc rfl rfl (by simp), step_store 7 6 rfl (by kernel_rfl) rfl rfl rfl rfl (by kernel_rfl) (by kernel_rfl) rfl rfl rfl rfl rfl, True.intro⟩
      intro xs w9 hxs hbel hgr hh
      replace hxs : xs.length = 9 := hxs
      obtain ⟨x0, ys0, rfl, hx0⟩ := len_succ hxs
      obtain ⟨x1, ys1, rfl, hx1⟩ := len_succ hx0
      obtain ⟨x2, ys2, rfl, hx2⟩ := len_succ hx1
      obtain ⟨x3, ys3, rfl, hx3⟩ := len_succ hx2
      obtain ⟨x4, ys4, rfl, hx4⟩ := len_succ hx3
      obtain ⟨x5, ys5, rfl, hx5⟩ := len_succ hx4
      obtain ⟨x6, ys6, rfl, hx6⟩ := len_succ hx5
      obtain ⟨x7, ys7, rfl, hx7⟩ := len_succ hx6
      obtain ⟨x8, ys8, rfl, hx8⟩ := len_succ hx7
      obtain rfl := len_zero hx8
      clear hxs hx0 hx1 hx2 hx3 hx4 hx5 hx6 hx7 hx8
      replace hh : Hold w.heap.size w9 [(x7, .gotAt N1 U1 0 T1), ((.slice A L.length c), .row L), ((.pointer (some ⟨g8, 0, none⟩)), .ptr 39 (tcs (signT gRb)).toArray)] := hh
      obtain ⟨g1, _, _, rfl, -, -, -⟩ := hh.head
      replace HB := Lib.hid (HB.out.trans hbel)
      clear HH
      have HH := Lib.hid hh
      clear hh hbel hgr
      simp only [List.zip_cons_cons, List.zip_nil_left, List.zip_nil_right, putAll, put_none9]
      go_simp
      go_upto_region 20 with fail
      refine wp_items (by kernel_rfl) [⟨84, some 2, .row []⟩, ⟨85, none, .val (.slice A L.length c)⟩, ⟨86, some 6, .row ([] ++ L)⟩, ⟨87, none, .val (tokV (signT ⟨#[44]⟩))⟩, ⟨88, none, .val (tokV (signT gRb))⟩, ⟨89, none, .row [signT ⟨#[44]⟩, signT gRb]⟩, ⟨90, none, .row (([] ++ L) ++ [signT ⟨#[44]⟩, signT gRb])⟩, ⟨91, none, .got N2 U2 E2 T2⟩, ⟨14, some 9, .ptr 31 #[.int .i64 0, .int .i64 0, .int .i64 0, .slice none 0 0]⟩, ⟨14, none, .gotAt N2 U2 E2 T2⟩, ⟨13, none, .gotAt N1 U1 0 T1⟩, ⟨11, none, .row L⟩, ⟨8, none, .ptr 39 (tcs (signT gRb)).toArray⟩] [84, 85, 86, 87, 88, 89, 90, 91, 14, 14, 13, 11, 8] [some 2, none, some 6, none, none, none, none, none, some 9, none, none, none, none] rfl rfl 226 w.heap.size HB.out.size rfl (by kernel_rfl) [9, 10, 11, 12] (by decide) (by decide) HH.out ?_ [some 84, some 85, some 86, some 87, some 88, some 89, some 90, some 91, some 14, none] rfl [(14, .gotAt N2 U2 E2 T2), (13, .gotAt N1 U1 0 T1), (11, .row L), (8, .ptr 39 (tcs (signT gRb)).toArray)] rfl rfl ?_
      · exact ⟨step_made0 rfl rfl (by simp), step_move rfl (Ev.base (by kernel_rfl) rfl) rfl (by simp), step_app 0 rfl (by kernel_rfl) rfl rfl rfl (EvRow.via 11 (Ev.item 1 (by kernel_rfl) (by kernel_rfl) rfl rfl) (Ev.base (by kernel_rfl) rfl) (by kernel_rfl) (by kernel_rfl) rfl) (by (try simp only [List.length_append, List.length_cons, List.length_nil]); omega) rfl (by simp), step_sign rfl (Ev.const _) rfl (by simp), step_load rfl (Ev.base (by kernel_rfl) rfl) (fun a w S hA => run_loadTok (Ev.blk 12 (Ev.base (by kernel_rfl) rfl) (by kernel_rfl) (by kernel_rfl) rfl a w S hA)) rfl (by simp), step_made2 rfl (Ev.item 3 (by kernel_rfl) (by kernel_rfl) rfl rfl) (Ev.item 4 (by kernel_rfl) (by kernel_rfl) rfl rfl) rfl (by simp), step_app 2 rfl (by kernel_rfl) rfl rfl rfl (EvRow.item 5 (by kernel_rfl) (by kernel_rfl) rfl rfl) (by (try simp only [List.length_append, List.length_cons, List.length_nil]); omega) rfl (by simp), step_told rfl (EvOwn.item 6 (by kernel_rfl) (by kernel_rfl) rfl rfl) (by rw [List.nil_append]; exact HR2.out) HN2.out HU2.out HE2.out HT2.out (by simp only [List.length_append, List.length_cons, List.length_nil]; omega) HS2.out (fun w hb => HT.out.below (HB.out.trans hb)) rfl (by simp), step_alloc rfl rfl (by simp), step_store 8 7 rfl (by kernel_rfl) rfl rfl rfl rfl (by kernel_rfl) (by kernel_rfl) rfl rfl rfl rfl rfl, True.intro⟩
      intro xs w10 hxs hbel hgr hh
      replace hxs : xs.length = 10 := hxs
      obtain ⟨x0, ys0, rfl, hx0⟩ := len_succ hxs
      obtain ⟨x1, ys1, rfl, hx1⟩ := len_succ hx0
      obtain ⟨x2, ys2, rfl, hx2⟩ := len_succ hx1
      obtain ⟨x3, ys3, rfl, hx3⟩ := len_succ hx2
      obtain ⟨x4, ys4, rfl, hx4⟩ := len_succ hx3
      obtain ⟨x5, ys5, rfl, hx5⟩ := len_succ hx4
      obtain ⟨x6, ys6, rfl, hx6⟩ := len_succ hx5
      obtain ⟨x7, ys7, rfl, hx7⟩ := len_succ hx6
      obtain ⟨x8, ys8, rfl, hx8⟩ := len_succ hx7
      obtain ⟨x9, ys9, rfl, hx9⟩ := len_succ hx8
      obtain rfl := len_zero hx9
      clear hxs hx0 hx1 hx2 hx3 hx4 hx5 hx6 hx7 hx8 hx9
      replace hh : Hold w.heap.size w10 [(x8, .gotAt N2 U2 E2 T2), ((.pointer (some ⟨g1, 0, none⟩)), .gotAt N1 U1 0 T1), ((.slice A L.length c), .row L), ((.pointer (some ⟨g8, 0, none⟩)), .ptr 39 (tcs (signT gRb)).toArray)] := hh
      obtain ⟨g2, _, _, rfl, -, -, -⟩ := hh.head
      replace HB := Lib.hid (HB.out.trans hbel)
      clear HH
      have HH := Lib.hid hh
      clear hh hbel hgr
      simp only [List.zip_cons_cons, List.zip_nil_left, List.zip_nil_right, putAll, put_none9]
      go_simp
      go_upto_region 21 with fail
      refine wp_items (by kernel_rfl) [⟨92, some 2, .row []⟩, ⟨93, none, .val (.slice A L.length c)⟩, ⟨94, some 7, .row ([] ++ L)⟩, ⟨95, none, .val (tokV (signT ⟨#[44]⟩))⟩, ⟨96, none, .val (tokV (signT ⟨#[44]⟩))⟩, ⟨97, none, .val (tokV (signT gRb))⟩, ⟨98, none, .row [signT ⟨#[44]⟩, signT ⟨#[44]⟩, signT gRb]⟩, ⟨99, none, .row (([] ++ L) ++ [signT ⟨#[44]⟩, signT ⟨#[44]⟩, signT gRb])⟩, ⟨100, none, .got N3 U3 30 T3⟩, ⟨15, some 10, .ptr 31 #[.int .i64 0, .int .i64 0, .int .i64 0, .slice none 0 0]⟩, ⟨15, none, .gotAt N3 U3 30 T3⟩, ⟨14, none, .gotAt N2 U2 E2 T2⟩, ⟨13, none, .gotAt N1 U1 0 T1⟩, ⟨11, none, .row L⟩, ⟨8, none, .ptr 39 (tcs (signT gRb)).toArray⟩] [92, 93, 94, 95, 96, 97, 98, 99, 100, 15, 15, 14, 13, 11, 8] [some 2, none, some 7, none, none, none, none, none, none, some 10, none, none, none, none, none] rfl rfl 226 w.heap.size HB.out.size rfl (by kernel_rfl) [10, 11, 12, 13, 14] (by decide) (by decide) HH.out ?_ [some 92, some 93, some 94, some 95, some 96, some 97, some 98, some 99, some 100, some 15, none] rfl [(15, .gotAt N3 U3 30 T3), (14, .gotAt N2 U2 E2 T2), (13, .gotAt N1 U1 0 T1), (11, .row L), (8, .ptr 39 (tcs (signT gRb)).toArray)] rfl rfl ?_
      · exact ⟨step_made0 rfl rfl (by simp), step_move rfl (Ev.base (by kernel_rfl) rfl) rfl (by simp), step_app 0 rfl (by kernel_rfl) rfl rfl rfl (EvRow.via 13 (Ev.item 1 (by kernel_rfl) (by kernel_rfl) rfl rfl) (Ev.base (by kernel_rfl) rfl) (by kernel_rfl) (by kernel_rfl) rfl) (by (try simp only [List.length_append, List.length_cons, List.length_nil]); omega) rfl (by simp), step_sign rfl (Ev.const _) rfl (by simp), step_sign rfl (Ev.const _) rfl (by simp), step_load rfl (Ev.base (by kernel_rfl) rfl) (fun a w S hA => run_loadTok (Ev.blk 14 (Ev.base (by kernel_rfl) rfl) (by kernel_rfl) (by kernel_rfl) rfl a w S hA)) rfl (by simp), step_made3 rfl (Ev.item 3 (by kernel_rfl) (by kernel_rfl) rfl rfl) (Ev.item 4 (by kernel_rfl) (by kernel_rfl) rfl rfl) (Ev.item 5 (by kernel_rfl) (by kernel_rfl) rfl rfl) rfl (by simp), step_app 2 rfl (by kernel_rfl) rfl rfl rfl (EvRow.item 6 (by kernel_rfl) (by kernel_rfl) rfl rfl) (by (try simp only [List.length_append, List.length_cons, List.length_nil]); omega) rfl (by simp), step_told rfl (EvOwn.item 7 (by kernel_rfl) (by kernel_rfl) rfl rfl) (by rw [List.nil_append]; exact HR3.out) HN3.out HU3.out HE3.out HT3.out (by simp only [List.length_append, List.length_cons, List.length_nil]; omega) HS3.out (fun w hb => HT.out.below (HB.out.trans hb)) rfl (by simp), step_alloc rfl rfl (by simp), step_store 9 8 rfl (by kernel_rfl) rfl rfl rfl rfl (by kernel_rfl) (by kernel_rfl) rfl rfl rfl rfl rfl, True.intro⟩
      intro xs w11 hxs hbel hgr hh
      replace hxs : xs.length = 11 := hxs
      obtain ⟨x0, ys0, rfl, hx0⟩ := len_succ hxs
      obtain ⟨x1, ys1, rfl, hx1⟩ := len_succ hx0
      obtain ⟨x2, ys2, rfl, hx2⟩ := len_succ hx1
      obtain ⟨x3, ys3, rfl, hx3⟩ := len_succ hx2
      obtain ⟨x4, ys4, rfl, hx4⟩ := len_succ hx3
      obtain ⟨x5, ys5, rfl, hx5⟩ := len_succ hx4
      obtain ⟨x6, ys6, rfl, hx6⟩ := len_succ hx5
      obtain ⟨x7, ys7, rfl, hx7⟩ := len_succ hx6
      obtain ⟨x8, ys8, rfl, hx8⟩ := len_succ hx7
      obtain ⟨x9, ys9, rfl, hx9⟩ := len_succ hx8
      obtain ⟨x10, ys10, rfl, hx10⟩ := len_succ hx9
      obtain rfl := len_zero hx10
      clear hxs hx0 hx1 hx2 hx3 hx4 hx5 hx6 hx7 hx8 hx9 hx10
      replace hh : Hold w.heap.size w11 [(x9, .gotAt N3 U3 30 T3), ((.pointer (some ⟨g2, 0, none⟩)), .gotAt N2 U2 E2 T2), ((.pointer (some ⟨g1, 0, none⟩)), .gotAt N1 U1 0 T1), ((.slice A L.length c), .row L), ((.pointer (some ⟨g8, 0, none⟩)), .ptr 39 (tcs (signT gRb)).toArray)] := hh
      obtain ⟨g3, _, _, rfl, -, -, -⟩ := hh.head
      replace HB := Lib.hid (HB.out.trans hbel)
      clear HH
      have HH := Lib.hid hh
      clear hh hbel hgr
      simp only [List.zip_cons_cons, List.zip_nil_left, List.zip_nil_right, putAll, put_none9]
      go_simp
      obtain ⟨Aq1, cq1, hk1, hn1⟩ := HH.out.tail.tail.gotOpen HL1.out
      obtain ⟨Aq2, cq2, hk2, hn2⟩ := HH.out.tail.gotOpen HL2.out
      obtain ⟨Aq3, cq3, hk3', hn3⟩ := HH.out.gotOpen HL3.out
      have HK1 := Lib.hid hk1
      have HK2 := Lib.hid hk2
      have HK3 := Lib.hid hk3'
      have HN1 := Lib.hid hn1
      have HN2 := Lib.hid hn2
      have HN3 := Lib.hid hn3
      clear hk1 hk2 hk3' hn1 hn2 hn3 HH HR1 HR2 HR3 HT1 HT2 HT3 HU1 HU2 HU3 HE1 HE2 HE3 HS1 HS2 HS3
      have k1 := HK1.out; have l1 := k1.lt; have k2 := HK2.out; have l2 := k2.lt; have k3 := HK3.out; have l3 := k3.lt; have y12 := k1.cell 2; have y13 := k1.cell 3; have y21 := k2.cell 1; have y22 := k2.cell 2; have y23 := k2.cell 3; have y31 := k3.cell 1; have y32 := k3.cell 2; simp only [List.getElem?_toArray, List.getElem?_cons_zero, List.getElem?_cons_succ] at y12 y13 y21 y22 y23 y31 y32; clear k1 k2 k3
      obtain ⟨hc1, hc2, hc3⟩ := HC.out
      clear HC
      have q0 := field_op 7
      have q4 := field_kids 7
      by_cases hi0 : i = 0
      · have hz : ((i : Int) == 0) = true := by simp [hi0]
        have ho : ((i : Int) == 1) = false := by simp [hi0]
        rcases hc2 with ⟨-, he2, hu2⟩ | ⟨hne, -⟩
        · rcases hc1 with ⟨-, h1, -⟩ | ⟨-, hl1⟩
          · omega
          · subst he2 hu2
            clear hc3
            obtain ⟨a1, s1, n1, ks1, hx1, hks1, hpos1⟩ := lastIs_at hl1
            have hkq1 : ((ks1.length : Int) == (i : Int)) = true := by rw [beq_iff_eq, hks1]; simp [rowKids]
            have HX1 : Hid (T1[T1.length - 1]? = some ⟨7, a1, s1, n1, ks1⟩) := Lib.hid hx1
            have HP1 : Hid (0 < t1) := Lib.hid (by have := HL1.out; omega)
            clear hx1 hks1 hpos1
            have hkz : ((ks1.length : Int) == 0) = true := by rw [beq_iff_eq] at hkq1 ⊢; omega
            go_wp2_with (go_at_call 28; go_must (first | refine (root_any HN1.out HL1.out HP1.out HX1.out).mono ?_); rintro e W5 ⟨B1, d1, rfl, hb⟩; replace HK1 := Lib.hid (HK1.out.bel hb); replace HN1 := Lib.hid (HN1.out.belw hb); replace HK2 := Lib.hid (HK2.out.bel hb); replace HN2 := Lib.hid (HN2.out.belw hb); replace HK3 := Lib.hid (HK3.out.bel hb); replace HN3 := Lib.hid (HN3.out.belw hb); replace HB := Lib.hid (HB.out.trans (below_low hb HB.out.size)); clear hb l1 l2 l3 y12 y13 y21 y22 y23 y31 y32; have k1 := HK1.out; have l1 := k1.lt; have k2 := HK2.out; have l2 := k2.lt; have k3 := HK3.out; have l3 := k3.lt; have y12 := k1.cell 2; have y13 := k1.cell 3; have y21 := k2.cell 1; have y22 := k2.cell 2; have y23 := k2.cell 3; have y31 := k3.cell 1; have y32 := k3.cell 2; simp only [List.getElem?_toArray, List.getElem?_cons_zero, List.getElem?_cons_succ] at y12 y13 y21 y22 y23 y31 y32; clear k1 k2 k3)
            go_ret
            exact ⟨rfl, HB.out⟩
        · exact absurd hi0 hne
      · have hz : ((i : Int) == 0) = false := by simp [hi0]
        have hu3 := hc3 hi0
        rcases hc2 with ⟨h0, -⟩ | ⟨-, he2, hu2, hl2⟩
        · exact absurd h0 hi0
        · subst he2 hu2 hu3
          clear hc3
          obtain ⟨a2, s2, n2, ks2, hx2, hks2, hpos2⟩ := lastIs_at hl2
          have hkq2 : ((ks2.length : Int) == (i : Int)) = true := by rw [beq_iff_eq, hks2]; simp [rowKids]
          have HX2 : Hid (T2[T2.length - 1]? = some ⟨7, a2, s2, n2, ks2⟩) := Lib.hid hx2
          have HP2 : Hid (0 < t2) := Lib.hid (by have := HL2.out; omega)
          clear hx2 hks2 hpos2
          rcases hc1 with ⟨h1, -⟩ | ⟨-, hl1⟩
          · omega
          · skip
            obtain ⟨a1, s1, n1, ks1, hx1, hks1, hpos1⟩ := lastIs_at hl1
            have hkq1 : ((ks1.length : Int) == (i : Int)) = true := by rw [beq_iff_eq, hks1]; simp [rowKids]
            have HX1 : Hid (T1[T1.length - 1]? = some ⟨7, a1, s1, n1, ks1⟩) := Lib.hid hx1
            have HP1 : Hid (0 < t1) := Lib.hid (by have := HL1.out; omega)
            clear hx1 hks1 hpos1
            go_upto_region 33 with (go_at_call 28; go_must (first | refine (root_any HN1.out HL1.out HP1.out HX1.out).mono ?_); rintro e W5 ⟨B1, d1, rfl, hb⟩; replace HK1 := Lib.hid (HK1.out.bel hb); replace HN1 := Lib.hid (HN1.out.belw hb); replace HK2 := Lib.hid (HK2.out.bel hb); replace HN2 := Lib.hid (HN2.out.belw hb); replace HK3 := Lib.hid (HK3.out.bel hb); replace HN3 := Lib.hid (HN3.out.belw hb); replace HB := Lib.hid (HB.out.trans (below_low hb HB.out.size)); clear hb l1 l2 l3 y12 y13 y21 y22 y23 y31 y32; have k1 := HK1.out; have l1 := k1.lt; have k2 := HK2.out; have l2 := k2.lt; have k3 := HK3.out; have l3 := k3.lt; have y12 := k1.cell 2; have y13 := k1.cell 3; have y21 := k2.cell 1; have y22 := k2.cell 2; have y23 := k2.cell 3; have y31 := k3.cell 1; have y32 := k3.cell 2; simp only [List.getElem?_toArray, List.getElem?_cons_zero, List.getElem?_cons_succ] at y12 y13 y21 y22 y23 y31 y32; clear k1 k2 k3)
            clear HN1 HX1 HP1
            go_wp2_with (go_at_call 28; go_must (first | refine (root_any HN2.out HL2.out HP2.out HX2.out).mono ?_); rintro e W5 ⟨B1, d1, rfl, hb⟩; replace HK1 := Lib.hid (HK1.out.bel hb); skip; replace HK2 := Lib.hid (HK2.out.bel hb); replace HN2 := Lib.hid (HN2.out.belw hb); replace HK3 := Lib.hid (HK3.out.bel hb); replace HN3 := Lib.hid (HN3.out.belw hb); replace HB := Lib.hid (HB.out.trans (below_low hb HB.out.size)); clear hb l1 l2 l3 y12 y13 y21 y22 y23 y31 y32; have k1 := HK1.out; have l1 := k1.lt; have k2 := HK2.out; have l2 := k2.lt; have k3 := HK3.out; have l3 := k3.lt; have y12 := k1.cell 2; have y13 := k1.cell 3; have y21 := k2.cell 1; have y22 := k2.cell 2; have y23 := k2.cell 3; have y31 := k3.cell 1; have y32 := k3.cell 2; simp only [List.getElem?_toArray, List.getElem?_cons_zero, List.getElem?_cons_succ] at y12 y13 y21 y22 y23 y31 y32; clear k1 k2 k3)
            go_ret
            exact ⟨rfl, HB.out⟩
set_option maxRecDepth 100000 in
set_option maxHeartbeats 40000000 in
theorem rows_walk1 (n kd : Nat) (hn : n < 256) (hk : kd < 256) (hk3 : kd % 3 = 1) (hk4 : kd % 4 ≠ 3) (w : World) (htab : Asp w) : Calls Tryd.prog 11 #[.int .u8 n, .int .u8 kd] w fun e w' => e = .returned (.bool true) ∧ Below w.heap.size w w' := by
  have HT := Lib.hid htab
  have hi3 : ((kd : Int) % 3) = 1 := by omega
  have hi4 : (((kd : Int) % 4) == 3) = false := by rw [beq_eq_false_iff_ne]; omega
  have hi5 : ¬ ((kd : Int) % 4) = 3 := by omega
  have hxo : ∀ w : World, (Instr.index 60 (.agg #[.int .i64 4, .int .i64 0, .string ⟨#[91]⟩, .int .i64 0, .int .i64 4, .int .i64 0, .string ⟨#[40]⟩, .int .i64 0, .int .i64 4, .int .i64 0, .string ⟨#[123]⟩, .int .i64 0]) (.int .u8 1)).run Tryd.prog w = .ok (.agg #[.int .i64 4, .int .i64 0, .string ⟨#[40]⟩, .int .i64 0]) w := fun w => by kernel_rfl
  have hxe : ∀ w : World, (Instr.index 60 (.agg #[.int .i64 4, .int .i64 0, .string ⟨#[93]⟩, .int .i64 0, .int .i64 4, .int .i64 0, .string ⟨#[41]⟩, .int .i64 0, .int .i64 4, .int .i64 0, .string ⟨#[125]⟩, .int .i64 0]) (.int .u8 1)).run Tryd.prog w = .ok (.agg #[.int .i64 4, .int .i64 0, .string ⟨#[41]⟩, .int .i64 0]) w := fun w => by kernel_rfl
  have hxk : ∀ w : World, (Instr.index 61 (.agg #[.int .i64 7, .int .i64 8, .int .i64 9]) (.int .u8 1)).run Tryd.prog w = .ok (.int .i64 8) w := fun w => by kernel_rfl
  clear htab
  go_enter Tryd.func11, Tryd.ntmps11
  go_upto_region 3 with (go_at_call 14; go_must (refine (shown_any _ HT.out).mono ?_); rintro e w1 ⟨rfl, hb⟩; have HB : Hid (Below w.heap.size w w1) := Lib.hid hb; clear hb)
  obtain ⟨m, hm⟩ : ∃ m, m = n % 13 := ⟨_, rfl⟩
  rw [show ((n : Int) % 13) = (m : Int) from by omega]
  have hm13 : m < 13 := by omega
  clear hm
  go_upto_region 4 with (go_at_call 21; go_must (refine (sign_any _ _).mono ?_); rintro e w4 ⟨rfl, hb⟩; replace HB := Lib.hid (HB.out.trans (below_low hb HB.out.size)); clear hb)
  have HH := Lib.hid ((Hold.nil w.heap.size w4).made HB.out.size [signT gLp] _ 1 rfl rfl (by omega))
  have hb5 := Below.alloc HB.out HB.out.size (.cells #[.int .i64 4, .int .i64 0, .string ⟨#[40]⟩, .int .i64 0] 39)
  have HH2 : Hid (Hold w.heap.size (w4.alloc (.cells #[.int .i64 4, .int .i64 0, .string ⟨#[40]⟩, .int .i64 0] 39)) [(.slice (some ⟨w4.heap.size, 0, none⟩) 1 1, .row [signT gLp])]) := HH
  generalize w4.alloc (.cells #[.int .i64 4, .int .i64 0, .string ⟨#[40]⟩, .int .i64 0] 39) = w5 at HH2 hb5 ⊢
  generalize hG4 : w4.heap.size = g4 at HH2 ⊢
  clear HH HB hG4
  have HH := HH2
  have HB := Lib.hid hb5
  clear HH2 hb5
  go_upto_region 5 with (go_at_call 21; go_must (refine (sign_any _ _).mono ?_); rintro e w6 ⟨rfl, hb⟩; replace HH := Lib.hid (HH.out.bel hb); replace HB := Lib.hid (HB.out.trans (below_low hb HB.out.size)); clear hb)
  have HH2 : Hid (Hold w.heap.size (w6.alloc (.cells #[.int .i64 4, .int .i64 0, .string ⟨#[41]⟩, .int .i64 0] 39)) [(.pointer (some ⟨w6.heap.size, 0, none⟩), .ptr 39 (tcs (signT gRp)).toArray), (.slice (some ⟨g4, 0, none⟩) 1 1, .row [signT gLp])]) := Lib.hid (HH.out.ptrNew HB.out.size 39 _)
  have hb5 := Below.alloc HB.out HB.out.size (.cells #[.int .i64 4, .int .i64 0, .string ⟨#[41]⟩, .int .i64 0] 39)
  generalize w6.alloc (.cells #[.int .i64 4, .int .i64 0, .string ⟨#[41]⟩, .int .i64 0] 39) = w7 at HH2 hb5 ⊢
  generalize hG8 : w6.heap.size = g8 at HH2 ⊢
  clear HH HB hG8
  have HH := HH2
  have HB := Lib.hid hb5
  clear HH2 hb5
  have HH0 : Hid (Hold w.heap.size w7 [(.slice (some ⟨g4, 0, none⟩) 1 1, .row [signT gLp]), (.pointer (some ⟨g8, 0, none⟩), .ptr 39 (tcs (signT gRp)).toArray)]) := Lib.hid (HH.out.front 1 rfl)
  clear HH
  go_wp2_with fail
  try simp only [hi3]
  go_loopw [11, 12] (fun v11 v12 wr => ∃ (i : Nat) (A : Option Addr) (c : Nat) (L : List TokD), i ≤ m ∧ v12 = .int .i64 i ∧ v11 = .slice A L.length c ∧ Hid (L = rowL 1 i) ∧ Hid (L.length ≤ 2 + 5 * i) ∧ Hid (Hold w.heap.size wr [(.slice A L.length c, .row L), (.pointer (some ⟨g8, 0, none⟩), .ptr 39 (tcs (signT gRp)).toArray)]) ∧ Hid (Below w.heap.size w wr)) (fun _ v12 _ => m - (intOf v12).toNat)
  case atStart => exact ⟨0, _, 1, [signT gLp], Nat.zero_le _, rfl, rfl, Lib.hid rfl, Lib.hid (by decide), HH0, HB⟩
  case round =>
    obtain ⟨i, A, c, L, hi, rfl, rfl, HL, HlL, HH, HB⟩ := hrel
    clear HH0
    by_cases hlt : i < m
    · have hli : L.length ≤ 62 := by have := HlL.out; omega
      by_cases h0 : 0 < i
      · have hd0 : decide ((0 : Int) < (i : Int)) = true := by simp; exact h0
        have HM1 := Lib.hid True.intro
        have HM2 := Lib.hid True.intro
        go_wp2_with (first | (go_at_call 21; go_must (refine (sign_any _ _).mono ?_); rintro e w4 ⟨rfl, hb⟩; replace HH := Lib.hid (HH.out.bel hb); replace HB := Lib.hid (HB.out.trans (below_low hb HB.out.size)); clear hb) | (go_at_call 23; go_must (refine (num_any _ _).mono ?_); rintro e w4 ⟨rfl, hb⟩; replace HH := Lib.hid (HH.out.bel hb); replace HB := Lib.hid (HB.out.trans (below_low hb HB.out.size)); clear hb) | (go_at_call 26; go_must (refine (word4_any _ _).mono ?_); rintro e w4 ⟨rfl, hb⟩; replace HH := Lib.hid (HH.out.bel hb); replace HB := Lib.hid (HB.out.trans (below_low hb HB.out.size)); clear hb) | (at_builtin; go_must (first | (have hmk := HM1.out; clear HM1 hmk; refine wpList_appendT _ rfl _ _ rfl (.slice A L.length c) L rfl (HH.out.alloc _).own _ 1 1 [signT gComma] rfl (Rd.toks _ [signT gComma] _ 1 rfl rfl (by omega)) rfl (by (try have hbb := HlG1.out); (try have hbc := HlG2.out); omega) ?_; intro v6 w6 ho6 hg6 hn6; obtain ⟨hh, hb⟩ := HH.out.grow HB.out ho6 hg6 hn6; generalize hG : L ++ [signT gComma] = G1 at ho6 hh; obtain ⟨A1, c1, rfl, -, -⟩ := Own.rd ho6; have HG1 := Lib.hid hG; have HlG1 := Lib.hid (show G1.length = L.length + 1 from (by rw [← hG, List.length_append]; rfl)); replace HH := Lib.hid hh; replace HB := Lib.hid hb; clear hG ho6 hg6 hn6 hh hb) | (have hmk := HM2.out; clear HM2 hmk; refine wpList_appendT _ rfl _ _ rfl (.slice A1 G1.length c1) G1 rfl (HH.out.alloc _).own _ 1 1 [numT (i : Int)] rfl (Rd.toks _ [numT (i : Int)] _ 1 rfl rfl (by omega)) rfl (by (try have hbb := HlG1.out); (try have hbc := HlG2.out); omega) ?_; intro v6 w6 ho6 hg6 hn6; obtain ⟨hh, hb⟩ := HH.out.grow HB.out ho6 hg6 hn6; generalize hG : G1 ++ [numT (i : Int)] = G2 at ho6 hh; obtain ⟨A2, c2, rfl, -, -⟩ := Own.rd ho6; have HG2 := Lib.hid hG; have HlG2 := Lib.hid (show G2.length = G1.length + 1 from (by rw [← hG, List.length_append]; rfl)); replace HH := Lib.hid hh; replace HB := Lib.hid hb; clear hG ho6 hg6 hn6 hh hb))))
        go_round
        case rel => exact ⟨i + 1, A2, c2, G2, by omega, by go_num, rfl, Lib.hid (by rw [← HG2.out, ← HG1.out, HL.out]; simp [rowL, h0]), Lib.hid (by rw [HlG2.out, HlG1.out]; have := HlL.out; omega), HH, HB⟩
        case measure => simp [intOf]; omega
      · have hd0 : decide ((0 : Int) < (i : Int)) = false := by simp; omega
        have HM2 := Lib.hid True.intro
        go_wp2_with (first | (go_at_call 21; go_must (refine (sign_any _ _).mono ?_); rintro e w4 ⟨rfl, hb⟩; replace HH := Lib.hid (HH.out.bel hb); replace HB := Lib.hid (HB.out.trans (below_low hb HB.out.size)); clear hb) | (go_at_call 23; go_must (refine (num_any _ _).mono ?_); rintro e w4 ⟨rfl, hb⟩; replace HH := Lib.hid (HH.out.bel hb); replace HB := Lib.hid (HB.out.trans (below_low hb HB.out.size)); clear hb) | (go_at_call 26; go_must (refine (word4_any _ _).mono ?_); rintro e w4 ⟨rfl, hb⟩; replace HH := Lib.hid (HH.out.bel hb); replace HB := Lib.hid (HB.out.trans (below_low hb HB.out.size)); clear hb) | (at_builtin; go_must (first | (have hmk := HM2.out; clear HM2 hmk; refine wpList_appendT _ rfl _ _ rfl (.slice A L.length c) L rfl (HH.out.alloc _).own _ 1 1 [numT (i : Int)] rfl (Rd.toks _ [numT (i : Int)] _ 1 rfl rfl (by omega)) rfl (by (try have hbb := HlG1.out); (try have hbc := HlG2.out); omega) ?_; intro v6 w6 ho6 hg6 hn6; obtain ⟨hh, hb⟩ := HH.out.grow HB.out ho6 hg6 hn6; generalize hG : L ++ [numT (i : Int)] = G2 at ho6 hh; obtain ⟨A2, c2, rfl, -, -⟩ := Own.rd ho6; have HG2 := Lib.hid hG; have HlG2 := Lib.hid (show G2.length = L.length + 1 from (by rw [← hG, List.length_append]; rfl)); replace HH := Lib.hid hh; replace HB := Lib.hid hb; clear hG ho6 hg6 hn6 hh hb))))
        go_round
        case rel => exact ⟨i + 1, A2, c2, G2, by omega, by go_num, rfl, Lib.hid (by rw [← HG2.out, HL.out]; simp [rowL, h0]), Lib.hid (by rw [HlG2.out]; have := HlL.out; omega), HH, HB⟩
        case measure => simp [intOf]; omega
    · obtain rfl : i = m := by omega
      obtain ⟨hp, hcm, htw⟩ := row_ok (f := 1) (m := i) (by omega) hm13
      obtain ⟨r1, hr1, he1, hc1⟩ := rowPlain_run hp
      obtain ⟨r2, hr2, hc2⟩ := rowComma_run hcm
      obtain ⟨r3, hr3, he3, hc3⟩ := rowTwo_run htw
      have hLs : ∀ t ∈ L, t.s.size ≤ maxLen := by rw [HL.out]; exact rowL_small _ _
      rw [← HL.out] at hr1 hr2 hr3 hc2 hc3
      have HS1 : Hid (∀ t ∈ (([] ++ L) ++ [signT gRp]), t.s.size ≤ maxLen) := Lib.hid (smallA (smallA (fun t h => by cases h) hLs) (smallS _ (by decide)))
      have HS2 : Hid (∀ t ∈ (([] ++ L) ++ [signT gComma, signT gRp]), t.s.size ≤ maxLen) := Lib.hid (smallA (smallA (fun t h => by cases h) hLs) (smallA (a := [signT gComma]) (smallS _ (by decide)) (smallS _ (by decide))))
      have HS3 : Hid (∀ t ∈ (([] ++ L) ++ [signT gComma, signT gComma, signT gRp]), t.s.size ≤ maxLen) := Lib.hid (smallA (smallA (fun t h => by cases h) hLs) (smallA (a := [signT gComma]) (smallS _ (by decide)) (smallA (a := [signT gComma]) (smallS _ (by decide)) (smallS _ (by decide)))))
      obtain ⟨T1, hT1⟩ : ∃ T, treeOf r1.1.ns = T := ⟨_, rfl⟩
      obtain ⟨N1, hN1⟩ : ∃ N, nodeOf r1 = N := ⟨_, rfl⟩
      obtain ⟨U1, hU1⟩ : ∃ U, usedOf r1 = U := ⟨_, rfl⟩
      obtain ⟨E1, hE1⟩ : ∃ E, r1.1.e = E := ⟨_, rfl⟩
      obtain ⟨t1, ht1⟩ : ∃ t, T1.length = t := ⟨_, rfl⟩
      obtain ⟨T2, hT2⟩ : ∃ T, treeOf r2.1.ns = T := ⟨_, rfl⟩
      obtain ⟨N2, hN2⟩ : ∃ N, nodeOf r2 = N := ⟨_, rfl⟩
      obtain ⟨U2, hU2⟩ : ∃ U, usedOf r2 = U := ⟨_, rfl⟩
      obtain ⟨E2, hE2⟩ : ∃ E, r2.1.e = E := ⟨_, rfl⟩
      obtain ⟨t2, ht2⟩ : ∃ t, T2.length = t := ⟨_, rfl⟩
      obtain ⟨T3, hT3⟩ : ∃ T, treeOf r3.1.ns = T := ⟨_, rfl⟩
      obtain ⟨N3, hN3⟩ : ∃ N, nodeOf r3 = N := ⟨_, rfl⟩
      obtain ⟨U3, hU3⟩ : ∃ U, usedOf r3 = U := ⟨_, rfl⟩
      obtain ⟨E3, hE3⟩ : ∃ E, r3.1.e = E := ⟨_, rfl⟩
      obtain ⟨t3, ht3⟩ : ∃ t, T3.length = t := ⟨_, rfl⟩
      rw [hE1] at he1
      rw [hE3] at he3
      rw [hT1] at hc1
      rw [hT2, hU2, hE2] at hc2
      rw [hU3] at hc3
      have HR1 := Lib.hid hr1
      have HT1 := Lib.hid hT1
      have HN1 := Lib.hid hN1
      have HU1 := Lib.hid hU1
      have HE1 := Lib.hid hE1
      have HL1 := Lib.hid ht1
      clear hr1 hT1 hN1 hU1 hE1 ht1
      have HR2 := Lib.hid hr2
      have HT2 := Lib.hid hT2
      have HN2 := Lib.hid hN2
      have HU2 := Lib.hid hU2
      have HE2 := Lib.hid hE2
      have HL2 := Lib.hid ht2
      clear hr2 hT2 hN2 hU2 hE2 ht2
      have HR3 := Lib.hid hr3
      have HT3 := Lib.hid hT3
      have HN3 := Lib.hid hN3
      have HU3 := Lib.hid hU3
      have HE3 := Lib.hid hE3
      have HL3 := Lib.hid ht3
      clear hr3 hT3 hN3 hU3 hE3 ht3
      have HC := Lib.hid (And.intro hc1 (And.intro hc2 hc3))
      have hll : L.length ≤ 62 := by have := HlL.out; omega
      clear hc1 hc2 hc3 hp hcm htw hLs hlt
      subst he1 he3
      go_upto_region 19 with fail
      refine wp_items (by kernel_rfl) [⟨77, some 2, .row []⟩, ⟨78, none, .val (.slice A L.length c)⟩, ⟨79, some 5, .row ([] ++ L)⟩, ⟨80, none, .val (tokV (signT gRp))⟩, ⟨81, none, .row [signT gRp]⟩, ⟨82, none, .row (([] ++ L) ++ [signT gRp])⟩, ⟨83, none, .got N1 U1 0 T1⟩, ⟨13, some 8, .ptr 31 #[.int .i64 0, .int .i64 0, .int .i64 0, .slice none 0 0]⟩, ⟨13, none, .gotAt N1 U1 0 T1⟩, ⟨11, none, .row L⟩, ⟨8, none, .ptr 39 (tcs (signT gRp)).toArray⟩] [77, 78, 79, 80, 81, 82, 83, 13, 13, 11, 8] [some 2, none, some 5, none, none, none, none, some 8, none, none, none] rfl rfl 226 w.heap.size HB.out.size rfl (by kernel_rfl) [8, 9, 10] (by decide) (by decide) HH.out ?_ [some 77, some 78, some 79, some 80, some 81, some 82, some 83, some 13, none] rfl [(13, .gotAt N1 U1 0 T1), (11, .row L), (8, .ptr 39 (tcs (signT gRp)).toArray)] rfl rfl ?_
      · exact ⟨step_made0 rfl rfl (by simp), step_move rfl (Ev.base (by kernel_rfl) rfl) rfl (by simp), step_app 0 rfl (by kernel_rfl) rfl rfl rfl (EvRow.via 9 (Ev.item 1 (by kernel_rfl) (by kernel_rfl) rfl rfl) (Ev.base (by kernel_rfl) rfl) (by kernel_rfl) (by kernel_rfl) rfl) (by (try simp only [List.length_append, List.length_cons, List.length_nil]); omega) rfl (by simp), step_load rfl (Ev.base (by kernel_rfl) rfl) (fun a w S hA => run_loadTok (Ev.blk 10 (Ev.base (by kernel_rfl) rfl) (by kernel_rfl) (by kernel_rfl) rfl a w S hA)) rfl (by simp), step_made1 rfl (Ev.item 3 (by kernel_rfl) (by kernel_rfl) rfl rfl) rfl (by simp), step_app 2 rfl (by kernel_rfl) rfl rfl rfl (EvRow.item 4 (by kernel_rfl) (by kernel_rfl) rfl rfl) (by (try simp only [List.length_append, List.length_cons, List.length_nil]); omega) rfl (by simp), step_told rfl (EvOwn.item 5 (by kernel_rfl) (by kernel_rfl) rfl rfl) (by rw [List.nil_append]; exact HR1.out) HN1.out HU1.out HE1.out HT1.out (by simp only [List.length_append, List.length_cons, List.length_nil]; omega) HS1.out (fun w hb => HT.out.below (HB.out.trans hb)) rfl (by simp), step_alloc rfl rfl (by simp), step_store 7 6 rfl (by kernel_rfl) rfl rfl rfl rfl (by kernel_rfl) (by kernel_rfl) rfl rfl rfl rfl rfl, True.intro⟩
      intro xs w9 hxs hbel hgr hh
      replace hxs : xs.length = 9 := hxs
      obtain ⟨x0, ys0, rfl, hx0⟩ := len_succ hxs
      obtain ⟨x1, ys1, rfl, hx1⟩ := len_succ hx0
      obtain ⟨x2, ys2, rfl, hx2⟩ := len_succ hx1
      obtain ⟨x3, ys3, rfl, hx3⟩ := len_succ hx2
      obtain ⟨x4, ys4, rfl, hx4⟩ := len_succ hx3
      obtain ⟨x5, ys5, rfl, hx5⟩ := len_succ hx4
      obtain ⟨x6, ys6, rfl, hx6⟩ := len_succ hx5
      obtain ⟨x7, ys7, rfl, hx7⟩ := len_succ hx6
      obtain ⟨x8, ys8, rfl, hx8⟩ := len_succ hx7
      obtain rfl := len_zero hx8
      clear hxs hx0 hx1 hx2 hx3 hx4 hx5 hx6 hx7 hx8
      replace hh : Hold w.heap.size w9 [(x7, .gotAt N1 U1 0 T1), ((.slice A L.length c), .row L), ((.pointer (some ⟨g8, 0, none⟩)), .ptr 39 (tcs (signT gRp)).toArray)] := hh
      obtain ⟨g1, _, _, rfl, -, -, -⟩ := hh.head
      replace HB := Lib.hid (HB.out.trans hbel)
      clear HH
      have HH := Lib.hid hh
      clear hh hbel hgr
      simp only [List.zip_cons_cons, List.zip_nil_left, List.zip_nil_right, putAll, put_none9]
      go_simp
      go_upto_region 20 with fail
      refine wp_items (by kernel_rfl) [⟨84, some 2, .row []⟩, ⟨85, none, .val (.slice A L.length c)⟩, ⟨86, some 6, .row ([] ++ L)⟩, ⟨87, none, .val (tokV (signT ⟨#[44]⟩))⟩, ⟨88, none, .val (tokV (signT gRp))⟩, ⟨89, none, .row [signT ⟨#[44]⟩, signT gRp]⟩, ⟨90, none, .row (([] ++ L) ++ [signT ⟨#[44]⟩, signT gRp])⟩, ⟨91, none, .got N2 U2 E2 T2⟩, ⟨14, some 9, .ptr 31 #[.int .i64 0, .int .i64 0, .int .i64 0, .slice none 0 0]⟩, ⟨14, none, .gotAt N2 U2 E2 T2⟩, ⟨13, none, .gotAt N1 U1 0 T1⟩, ⟨11, none, .row L⟩, ⟨8, none, .ptr 39 (tcs (signT gRp)).toArray⟩] [84, 85, 86, 87, 88, 89, 90, 91, 14, 14, 13, 11, 8] [some 2, none, some 6, none, none, none, none, none, some 9, none, none, none, none] rfl rfl 226 w.heap.size HB.out.size rfl (by kernel_rfl) [9, 10, 11, 12] (by decide) (by decide) HH.out ?_ [some 84, some 85, some 86, some 87, some 88, some 89, some 90, some 91, some 14, none] rfl [(14, .gotAt N2 U2 E2 T2), (13, .gotAt N1 U1 0 T1), (11, .row L), (8, .ptr 39 (tcs (signT gRp)).toArray)] rfl rfl ?_
      · exact ⟨step_made0 rfl rfl (by simp), step_move rfl (Ev.base (by kernel_rfl) rfl) rfl (by simp), step_app 0 rfl (by kernel_rfl) rfl rfl rfl (EvRow.via 11 (Ev.item 1 (by kernel_rfl) (by kernel_rfl) rfl rfl) (Ev.base (by kernel_rfl) rfl) (by kernel_rfl) (by kernel_rfl) rfl) (by (try simp only [List.length_append, List.length_cons, List.length_nil]); omega) rfl (by simp), step_sign rfl (Ev.const _) rfl (by simp), step_load rfl (Ev.base (by kernel_rfl) rfl) (fun a w S hA => run_loadTok (Ev.blk 12 (Ev.base (by kernel_rfl) rfl) (by kernel_rfl) (by kernel_rfl) rfl a w S hA)) rfl (by simp), step_made2 rfl (Ev.item 3 (by kernel_rfl) (by kernel_rfl) rfl rfl) (Ev.item 4 (by kernel_rfl) (by kernel_rfl) rfl rfl) rfl (by simp), step_app 2 rfl (by kernel_rfl) rfl rfl rfl (EvRow.item 5 (by kernel_rfl) (by kernel_rfl) rfl rfl) (by (try simp only [List.length_append, List.length_cons, List.length_nil]); omega) rfl (by simp), step_told rfl (EvOwn.item 6 (by kernel_rfl) (by kernel_rfl) rfl rfl) (by rw [List.nil_append]; exact HR2.out) HN2.out HU2.out HE2.out HT2.out (by simp only [List.length_append, List.length_cons, List.length_nil]; omega) HS2.out (fun w hb => HT.out.below (HB.out.trans hb)) rfl (by simp), step_alloc rfl rfl (by simp), step_store 8 7 rfl (by kernel_rfl) rfl rfl rfl rfl (by kernel_rfl) (by kernel_rfl) rfl rfl rfl rfl rfl, True.intro⟩
      intro xs w10 hxs hbel hgr hh
      replace hxs : xs.length = 10 := hxs
      obtain ⟨x0, ys0, rfl, hx0⟩ := len_succ hxs
      obtain ⟨x1, ys1, rfl, hx1⟩ := len_succ hx0
      obtain ⟨x2, ys2, rfl, hx2⟩ := len_succ hx1
      obtain ⟨x3, ys3, rfl, hx3⟩ := len_succ hx2
      obtain ⟨x4, ys4, rfl, hx4⟩ := len_succ hx3
      obtain ⟨x5, ys5, rfl, hx5⟩ := len_succ hx4
      obtain ⟨x6, ys6, rfl, hx6⟩ := len_succ hx5
      obtain ⟨x7, ys7, rfl, hx7⟩ := len_succ hx6
      obtain ⟨x8, ys8, rfl, hx8⟩ := len_succ hx7
      obtain ⟨x9, ys9, rfl, hx9⟩ := len_succ hx8
      obtain rfl := len_zero hx9
      clear hxs hx0 hx1 hx2 hx3 hx4 hx5 hx6 hx7 hx8 hx9
      replace hh : Hold w.heap.size w10 [(x8, .gotAt N2 U2 E2 T2), ((.pointer (some ⟨g1, 0, none⟩)), .gotAt N1 U1 0 T1), ((.slice A L.length c), .row L), ((.pointer (some ⟨g8, 0, none⟩)), .ptr 39 (tcs (signT gRp)).toArray)] := hh
      obtain ⟨g2, _, _, rfl, -, -, -⟩ := hh.head
      replace HB := Lib.hid (HB.out.trans hbel)
      clear HH
      have HH := Lib.hid hh
      clear hh hbel hgr
      simp only [List.zip_cons_cons, List.zip_nil_left, List.zip_nil_right, putAll, put_none9]
      go_simp
      go_upto_region 21 with fail
      refine wp_items (by kernel_rfl) [⟨92, some 2, .row []⟩, ⟨93, none, .val (.slice A L.length c)⟩, ⟨94, some 7, .row ([] ++ L)⟩, ⟨95, none, .val (tokV (signT ⟨#[44]⟩))⟩, ⟨96, none, .val (tokV (signT ⟨#[44]⟩))⟩, ⟨97, none, .val (tokV (signT gRp))⟩, ⟨98, none, .row [signT ⟨#[44]⟩, signT ⟨#[44]⟩, signT gRp]⟩, ⟨99, none, .row (([] ++ L) ++ [signT ⟨#[44]⟩, signT ⟨#[44]⟩, signT gRp])⟩, ⟨100, none, .got N3 U3 30 T3⟩, ⟨15, some 10, .ptr 31 #[.int .i64 0, .int .i64 0, .int .i64 0, .slice none 0 0]⟩, ⟨15, none, .gotAt N3 U3 30 T3⟩, ⟨14, none, .gotAt N2 U2 E2 T2⟩, ⟨13, none, .gotAt N1 U1 0 T1⟩, ⟨11, none, .row L⟩, ⟨8, none, .ptr 39 (tcs (signT gRp)).toArray⟩] [92, 93, 94, 95, 96, 97, 98, 99, 100, 15, 15, 14, 13, 11, 8] [some 2, none, some 7, none, none, none, none, none, none, some 10, none, none, none, none, none] rfl rfl 226 w.heap.size HB.out.size rfl (by kernel_rfl) [10, 11, 12, 13, 14] (by decide) (by decide) HH.out ?_ [some 92, some 93, some 94, some 95, some 96, some 97, some 98, some 99, some 100, some 15, none] rfl [(15, .gotAt N3 U3 30 T3), (14, .gotAt N2 U2 E2 T2), (13, .gotAt N1 U1 0 T1), (11, .row L), (8, .ptr 39 (tcs (signT gRp)).toArray)] rfl rfl ?_
      · exact ⟨step_made0 rfl rfl (by simp), step_move rfl (Ev.base (by kernel_rfl) rfl) rfl (by simp), step_app 0 rfl (by kernel_rfl) rfl rfl rfl (EvRow.via 13 (Ev.item 1 (by kernel_rfl) (by kernel_rfl) rfl rfl) (Ev.base (by kernel_rfl) rfl) (by kernel_rfl) (by kernel_rfl) rfl) (by (try simp only [List.length_append, List.length_cons, List.length_nil]); omega) rfl (by simp), step_sign rfl (Ev.const _) rfl (by simp), step_sign rfl (Ev.const _) rfl (by simp), step_load rfl (Ev.base (by kernel_rfl) rfl) (fun a w S hA => run_loadTok (Ev.blk 14 (Ev.base (by kernel_rfl) rfl) (by kernel_rfl) (by kernel_rfl) rfl a w S hA)) rfl (by simp), step_made3 rfl (Ev.item 3 (by kernel_rfl) (by kernel_rfl) rfl rfl) (Ev.item 4 (by kernel_rfl) (by kernel_rfl) rfl rfl) (Ev.item 5 (by kernel_rfl) (by kernel_rfl) rfl rfl) rfl (by simp), step_app 2 rfl (by kernel_rfl) rfl rfl rfl (EvRow.item 6 (by kernel_rfl) (by kernel_rfl) rfl rfl) (by (try simp only [List.length_append, List.length_cons, List.length_nil]); omega) rfl (by simp), step_told rfl (EvOwn.item 7 (by kernel_rfl) (by kernel_rfl) rfl rfl) (by rw [List.nil_append]; exact HR3.out) HN3.out HU3.out HE3.out HT3.out (by simp only [List.length_append, List.length_cons, List.length_nil]; omega) HS3.out (fun w hb => HT.out.below (HB.out.trans hb)) rfl (by simp), step_alloc rfl rfl (by simp), step_store 9 8 rfl (by kernel_rfl) rfl rfl rfl rfl (by kernel_rfl) (by kernel_rfl) rfl rfl rfl rfl rfl, True.intro⟩
      intro xs w11 hxs hbel hgr hh
      replace hxs : xs.length = 11 := hxs
      obtain ⟨x0, ys0, rfl, hx0⟩ := len_succ hxs
      obtain ⟨x1, ys1, rfl, hx1⟩ := len_succ hx0
      obtain ⟨x2, ys2, rfl, hx2⟩ := len_succ hx1
      obtain ⟨x3, ys3, rfl, hx3⟩ := len_succ hx2
      obtain ⟨x4, ys4, rfl, hx4⟩ := len_succ hx3
      obtain ⟨x5, ys5, rfl, hx5⟩ := len_succ hx4
      obtain ⟨x6, ys6, rfl, hx6⟩ := len_succ hx5
      obtain ⟨x7, ys7, rfl, hx7⟩ := len_succ hx6
      obtain ⟨x8, ys8, rfl, hx8⟩ := len_succ hx7
      obtain ⟨x9, ys9, rfl, hx9⟩ := len_succ hx8
      obtain ⟨x10, ys10, rfl, hx10⟩ := len_succ hx9
      obtain rfl := len_zero hx10
      clear hxs hx0 hx1 hx2 hx3 hx4 hx5 hx6 hx7 hx8 hx9 hx10
      replace hh : Hold w.heap.size w11 [(x9, .gotAt N3 U3 30 T3), ((.pointer (some ⟨g2, 0, none⟩)), .gotAt N2 U2 E2 T2), ((.pointer (some ⟨g1, 0, none⟩)), .gotAt N1 U1 0 T1), ((.slice A L.length c), .row L), ((.pointer (some ⟨g8, 0, none⟩)), .ptr 39 (tcs (signT gRp)).toArray)] := hh
      obtain ⟨g3, _, _, rfl, -, -, -⟩ := hh.head
      replace HB := Lib.hid (HB.out.trans hbel)
      clear HH
      have HH := Lib.hid hh
      clear hh hbel hgr
      simp only [List.zip_cons_cons, List.zip_nil_left, List.zip_nil_right, putAll, put_none9]
      go_simp
      obtain ⟨Aq1, cq1, hk1, hn1⟩ := HH.out.tail.tail.gotOpen HL1.out
      obtain ⟨Aq2, cq2, hk2, hn2⟩ := HH.out.tail.gotOpen HL2.out
      obtain ⟨Aq3, cq3, hk3', hn3⟩ := HH.out.gotOpen HL3.out
      have HK1 := Lib.hid hk1
      have HK2 := Lib.hid hk2
      have HK3 := Lib.hid hk3'
      have HN1 := Lib.hid hn1
      have HN2 := Lib.hid hn2
      have HN3 := Lib.hid hn3
      clear hk1 hk2 hk3' hn1 hn2 hn3 HH HR1 HR2 HR3 HT1 HT2 HT3 HU1 HU2 HU3 HE1 HE2 HE3 HS1 HS2 HS3
      have k1 := HK1.out; have l1 := k1.lt; have k2 := HK2.out; have l2 := k2.lt; have k3 := HK3.out; have l3 := k3.lt; have y12 := k1.cell 2; have y13 := k1.cell 3; have y21 := k2.cell 1; have y22 := k2.cell 2; have y23 := k2.cell 3; have y31 := k3.cell 1; have y32 := k3.cell 2; simp only [List.getElem?_toArray, List.getElem?_cons_zero, List.getElem?_cons_succ] at y12 y13 y21 y22 y23 y31 y32; clear k1 k2 k3
      obtain ⟨hc1, hc2, hc3⟩ := HC.out
      clear HC
      have q0 := field_op 8
      have q4 := field_kids 8
      by_cases hi0 : i = 0
      · have hz : ((i : Int) == 0) = true := by simp [hi0]
        have ho : ((i : Int) == 1) = false := by simp [hi0]
        rcases hc2 with ⟨-, he2, hu2⟩ | ⟨hne, -⟩
        · rcases hc1 with ⟨-, h1, -⟩ | ⟨-, hl1⟩
          · omega
          · subst he2 hu2
            clear hc3
            obtain ⟨a1, s1, n1, ks1, hx1, hks1, hpos1⟩ := lastIs_at hl1
            have hkq1 : ((ks1.length : Int) == (i : Int)) = true := by rw [beq_iff_eq, hks1]; simp [rowKids]
            have HX1 : Hid (T1[T1.length - 1]? = some ⟨8, a1, s1, n1, ks1⟩) := Lib.hid hx1
            have HP1 : Hid (0 < t1) := Lib.hid (by have := HL1.out; omega)
            clear hx1 hks1 hpos1
            have hkz : ((ks1.length : Int) == 0) = true := by rw [beq_iff_eq] at hkq1 ⊢; omega
            go_wp2_with (go_at_call 28; go_must (first | refine (root_any HN1.out HL1.out HP1.out HX1.out).mono ?_); rintro e W5 ⟨B1, d1, rfl, hb⟩; replace HK1 := Lib.hid (HK1.out.bel hb); replace HN1 := Lib.hid (HN1.out.belw hb); replace HK2 := Lib.hid (HK2.out.bel hb); replace HN2 := Lib.hid (HN2.out.belw hb); replace HK3 := Lib.hid (HK3.out.bel hb); replace HN3 := Lib.hid (HN3.out.belw hb); replace HB := Lib.hid (HB.out.trans (below_low hb HB.out.size)); clear hb l1 l2 l3 y12 y13 y21 y22 y23 y31 y32; have k1 := HK1.out; have l1 := k1.lt; have k2 := HK2.out; have l2 := k2.lt; have k3 := HK3.out; have l3 := k3.lt; have y12 := k1.cell 2; have y13 := k1.cell 3; have y21 := k2.cell 1; have y22 := k2.cell 2; have y23 := k2.cell 3; have y31 := k3.cell 1; have y32 := k3.cell 2; simp only [List.getElem?_toArray, List.getElem?_cons_zero, List.getElem?_cons_succ] at y12 y13 y21 y22 y23 y31 y32; clear k1 k2 k3)
            go_ret
            exact ⟨rfl, HB.out⟩
        · exact absurd hi0 hne
      · have hz : ((i : Int) == 0) = false := by simp [hi0]
        have hu3 := hc3 hi0
        rcases hc2 with ⟨h0, -⟩ | ⟨-, he2, hu2, hl2⟩
        · exact absurd h0 hi0
        · subst he2 hu2 hu3
          clear hc3
          obtain ⟨a2, s2, n2, ks2, hx2, hks2, hpos2⟩ := lastIs_at hl2
          have hkq2 : ((ks2.length : Int) == (i : Int)) = true := by rw [beq_iff_eq, hks2]; simp [rowKids]
          have HX2 : Hid (T2[T2.length - 1]? = some ⟨8, a2, s2, n2, ks2⟩) := Lib.hid hx2
          have HP2 : Hid (0 < t2) := Lib.hid (by have := HL2.out; omega)
          clear hx2 hks2 hpos2
          by_cases hi1 : i = 1
          · have ho : ((i : Int) == 1) = true := by simp [hi1]
            rcases hc1 with ⟨-, -, hl1⟩ | ⟨hn, -⟩
            · have ht1 : ((t1 : Int) == 1) = true := by rw [beq_iff_eq]; have := HL1.out; omega
              have hkz2 : ((ks2.length : Int) == 1) = true := by rw [beq_iff_eq] at hkq2 ⊢; omega
              clear hl1
              clear HN1
              go_wp2_with (go_at_call 28; go_must (first | refine (root_any HN2.out HL2.out HP2.out HX2.out).mono ?_); rintro e W5 ⟨B1, d1, rfl, hb⟩; replace HK1 := Lib.hid (HK1.out.bel hb); skip; replace HK2 := Lib.hid (HK2.out.bel hb); replace HN2 := Lib.hid (HN2.out.belw hb); replace HK3 := Lib.hid (HK3.out.bel hb); replace HN3 := Lib.hid (HN3.out.belw hb); replace HB := Lib.hid (HB.out.trans (below_low hb HB.out.size)); clear hb l1 l2 l3 y12 y13 y21 y22 y23 y31 y32; have k1 := HK1.out; have l1 := k1.lt; have k2 := HK2.out; have l2 := k2.lt; have k3 := HK3.out; have l3 := k3.lt; have y12 := k1.cell 2; have y13 := k1.cell 3; have y21 := k2.cell 1; have y22 := k2.cell 2; have y23 := k2.cell 3; have y31 := k3.cell 1; have y32 := k3.cell 2; simp only [List.getElem?_toArray, List.getElem?_cons_zero, List.getElem?_cons_succ] at y12 y13 y21 y22 y23 y31 y32; clear k1 k2 k3)
              go_ret
              exact ⟨rfl, HB.out⟩
            · exact absurd ⟨rfl, hi1⟩ hn
          · have ho : ((i : Int) == 1) = false := by rw [beq_eq_false_iff_ne]; omega
            rcases hc1 with ⟨-, h1, -⟩ | ⟨-, hl1⟩
            · exact absurd h1 hi1
            · skip
              obtain ⟨a1, s1, n1, ks1, hx1, hks1, hpos1⟩ := lastIs_at hl1
              have hkq1 : ((ks1.length : Int) == (i : Int)) = true := by rw [beq_iff_eq, hks1]; simp [rowKids]
              have HX1 : Hid (T1[T1.length - 1]? = some ⟨8, a1, s1, n1, ks1⟩) := Lib.hid hx1
              have HP1 : Hid (0 < t1) := Lib.hid (by have := HL1.out; omega)
              clear hx1 hks1 hpos1
              go_upto_region 33 with (go_at_call 28; go_must (first | refine (root_any HN1.out HL1.out HP1.out HX1.out).mono ?_); rintro e W5 ⟨B1, d1, rfl, hb⟩; replace HK1 := Lib.hid (HK1.out.bel hb); replace HN1 := Lib.hid (HN1.out.belw hb); replace HK2 := Lib.hid (HK2.out.bel hb); replace HN2 := Lib.hid (HN2.out.belw hb); replace HK3 := Lib.hid (HK3.out.bel hb); replace HN3 := Lib.hid (HN3.out.belw hb); replace HB := Lib.hid (HB.out.trans (below_low hb HB.out.size)); clear hb l1 l2 l3 y12 y13 y21 y22 y23 y31 y32; have k1 := HK1.out; have l1 := k1.lt; have k2 := HK2.out; have l2 := k2.lt; have k3 := HK3.out; have l3 := k3.lt; have y12 := k1.cell 2; have y13 := k1.cell 3; have y21 := k2.cell 1; have y22 := k2.cell 2; have y23 := k2.cell 3; have y31 := k3.cell 1; have y32 := k3.cell 2; simp only [List.getElem?_toArray, List.getElem?_cons_zero, List.getElem?_cons_succ] at y12 y13 y21 y22 y23 y31 y32; clear k1 k2 k3)
              clear HN1 HX1 HP1
              go_wp2_with (go_at_call 28; go_must (first | refine (root_any HN2.out HL2.out HP2.out HX2.out).mono ?_); rintro e W5 ⟨B1, d1, rfl, hb⟩; replace HK1 := Lib.hid (HK1.out.bel hb); skip; replace HK2 := Lib.hid (HK2.out.bel hb); replace HN2 := Lib.hid (HN2.out.belw hb); replace HK3 := Lib.hid (HK3.out.bel hb); replace HN3 := Lib.hid (HN3.out.belw hb); replace HB := Lib.hid (HB.out.trans (below_low hb HB.out.size)); clear hb l1 l2 l3 y12 y13 y21 y22 y23 y31 y32; have k1 := HK1.out; have l1 := k1.lt; have k2 := HK2.out; have l2 := k2.lt; have k3 := HK3.out; have l3 := k3.lt; have y12 := k1.cell 2; have y13 := k1.cell 3; have y21 := k2.cell 1; have y22 := k2.cell 2; have y23 := k2.cell 3; have y31 := k3.cell 1; have y32 := k3.cell 2; simp only [List.getElem?_toArray, List.getElem?_cons_zero, List.getElem?_cons_succ] at y12 y13 y21 y22 y23 y31 y32; clear k1 k2 k3)
              go_ret
              exact ⟨rfl, HB.out⟩
set_option maxRecDepth 100000 in
set_option maxHeartbeats 40000000 in
theorem rows_walk2 (n kd : Nat) (hn : n < 256) (hk : kd < 256) (hk3 : kd % 3 = 2) (hk4 : kd % 4 ≠ 3) (w : World) (htab : Asp w) : Calls Tryd.prog 11 #[.int .u8 n, .int .u8 kd] w fun e w' => e = .returned (.bool true) ∧ Below w.heap.size w w' := by
  have HT := Lib.hid htab
  have hi3 : ((kd : Int) % 3) = 2 := by omega
  have hi4 : (((kd : Int) % 4) == 3) = false := by rw [beq_eq_false_iff_ne]; omega
  have hi5 : ¬ ((kd : Int) % 4) = 3 := by omega
  have hxo : ∀ w : World, (Instr.index 60 (.agg #[.int .i64 4, .int .i64 0, .string ⟨#[91]⟩, .int .i64 0, .int .i64 4, .int .i64 0, .string ⟨#[40]⟩, .int .i64 0, .int .i64 4, .int .i64 0, .string ⟨#[123]⟩, .int .i64 0]) (.int .u8 2)).run Tryd.prog w = .ok (.agg #[.int .i64 4, .int .i64 0, .string ⟨#[123]⟩, .int .i64 0]) w := fun w => by kernel_rfl
  have hxe : ∀ w : World, (Instr.index 60 (.agg #[.int .i64 4, .int .i64 0, .string ⟨#[93]⟩, .int .i64 0, .int .i64 4, .int .i64 0, .string ⟨#[41]⟩, .int .i64 0, .int .i64 4, .int .i64 0, .string ⟨#[125]⟩, .int .i64 0]) (.int .u8 2)).run Tryd.prog w = .ok (.agg #[.int .i64 4, .int .i64 0, .string ⟨#[125]⟩, .int .i64 0]) w := fun w => by kernel_rfl
  have hxk : ∀ w : World, (Instr.index 61 (.agg #[.int .i64 7, .int .i64 8, .int .i64 9]) (.int .u8 2)).run Tryd.prog w = .ok (.int .i64 9) w := fun w => by kernel_rfl
  clear htab
  go_enter Tryd.func11, Tryd.ntmps11
  go_upto_region 3 with (go_at_call 14; go_must (refine (shown_any _ HT.out).mono ?_); rintro e w1 ⟨rfl, hb⟩; have HB : Hid (Below w.heap.size w w1) := Lib.hid hb; clear hb)
  obtain ⟨m, hm⟩ : ∃ m, m = n % 13 := ⟨_, rfl⟩
  rw [show ((n : Int) % 13) = (m : Int) from by omega]
  have hm13 : m < 13 := by omega
  clear hm
  go_upto_region 4 with (go_at_call 21; go_must (refine (sign_any _ _).mono ?_); rintro e w4 ⟨rfl, hb⟩; replace HB := Lib.hid (HB.out.trans (below_low hb HB.out.size)); clear hb)
  have HH := Lib.hid ((Hold.nil w.heap.size w4).made HB.out.size [signT gLc] _ 1 rfl rfl (by omega))
  have hb5 := Below.alloc HB.out HB.out.size (.cells #[.int .i64 4, .int .i64 0, .string ⟨#[123]⟩, .int .i64 0] 39)
  have HH2 : Hid (Hold w.heap.size (w4.alloc (.cells #[.int .i64 4, .int .i64 0, .string ⟨#[123]⟩, .int .i64 0] 39)) [(.slice (some ⟨w4.heap.size, 0, none⟩) 1 1, .row [signT gLc])]) := HH
  generalize w4.alloc (.cells #[.int .i64 4, .int .i64 0, .string ⟨#[123]⟩, .int .i64 0] 39) = w5 at HH2 hb5 ⊢
  generalize hG4 : w4.heap.size = g4 at HH2 ⊢
  clear HH HB hG4
  have HH := HH2
  have HB := Lib.hid hb5
  clear HH2 hb5
  go_upto_region 5 with (go_at_call 21; go_must (refine (sign_any _ _).mono ?_); rintro e w6 ⟨rfl, hb⟩; replace HH := Lib.hid (HH.out.bel hb); replace HB := Lib.hid (HB.out.trans (below_low hb HB.out.size)); clear hb)
  have HH2 : Hid (Hold w.heap.size (w6.alloc (.cells #[.int .i64 4, .int .i64 0, .string ⟨#[125]⟩, .int .i64 0] 39)) [(.pointer (some ⟨w6.heap.size, 0, none⟩), .ptr 39 (tcs (signT gRc)).toArray), (.slice (some ⟨g4, 0, none⟩) 1 1, .row [signT gLc])]) := Lib.hid (HH.out.ptrNew HB.out.size 39 _)
  have hb5 := Below.alloc HB.out HB.out.size (.cells #[.int .i64 4, .int .i64 0, .string ⟨#[125]⟩, .int .i64 0] 39)
  generalize w6.alloc (.cells #[.int .i64 4, .int .i64 0, .string ⟨#[125]⟩, .int .i64 0] 39) = w7 at HH2 hb5 ⊢
  generalize hG8 : w6.heap.size = g8 at HH2 ⊢
  clear HH HB hG8
  have HH := HH2
  have HB := Lib.hid hb5
  clear HH2 hb5
  have HH0 : Hid (Hold w.heap.size w7 [(.slice (some ⟨g4, 0, none⟩) 1 1, .row [signT gLc]), (.pointer (some ⟨g8, 0, none⟩), .ptr 39 (tcs (signT gRc)).toArray)]) := Lib.hid (HH.out.front 1 rfl)
  clear HH
  go_wp2_with fail
  try simp only [hi3]
  go_loopw [11, 12] (fun v11 v12 wr => ∃ (i : Nat) (A : Option Addr) (c : Nat) (L : List TokD), i ≤ m ∧ v12 = .int .i64 i ∧ v11 = .slice A L.length c ∧ Hid (L = rowL 2 i) ∧ Hid (L.length ≤ 2 + 5 * i) ∧ Hid (Hold w.heap.size wr [(.slice A L.length c, .row L), (.pointer (some ⟨g8, 0, none⟩), .ptr 39 (tcs (signT gRc)).toArray)]) ∧ Hid (Below w.heap.size w wr)) (fun _ v12 _ => m - (intOf v12).toNat)
  case atStart => exact ⟨0, _, 1, [signT gLc], Nat.zero_le _, rfl, rfl, Lib.hid rfl, Lib.hid (by decide), HH0, HB⟩
  case round =>
    obtain ⟨i, A, c, L, hi, rfl, rfl, HL, HlL, HH, HB⟩ := hrel
    clear HH0
    by_cases hlt : i < m
    · have hli : L.length ≤ 62 := by have := HlL.out; omega
      by_cases h0 : 0 < i
      · have hd0 : decide ((0 : Int) < (i : Int)) = true := by simp; exact h0
        have HM1 := Lib.hid True.intro
        have HM2 := Lib.hid True.intro
        go_wp2_with (first | (go_at_call 21; go_must (refine (sign_any _ _).mono ?_); rintro e w4 ⟨rfl, hb⟩; replace HH := Lib.hid (HH.out.bel hb); replace HB := Lib.hid (HB.out.trans (below_low hb HB.out.size)); clear hb) | (go_at_call 23; go_must (refine (num_any _ _).mono ?_); rintro e w4 ⟨rfl, hb⟩; replace HH := Lib.hid (HH.out.bel hb); replace HB := Lib.hid (HB.out.trans (below_low hb HB.out.size)); clear hb) | (go_at_call 26; go_must (refine (word4_any _ _).mono ?_); rintro e w4 ⟨rfl, hb⟩; replace HH := Lib.hid (HH.out.bel hb); replace HB := Lib.hid (HB.out.trans (below_low hb HB.out.size)); clear hb) | (at_builtin; go_must (first | (have hmk := HM1.out; clear HM1 hmk; refine wpList_appendT _ rfl _ _ rfl (.slice A L.length c) L rfl (HH.out.alloc _).own _ 1 1 [signT gComma] rfl (Rd.toks _ [signT gComma] _ 1 rfl rfl (by omega)) rfl (by (try have hbb := HlG1.out); (try have hbc := HlG2.out); omega) ?_; intro v6 w6 ho6 hg6 hn6; obtain ⟨hh, hb⟩ := HH.out.grow HB.out ho6 hg6 hn6; generalize hG : L ++ [signT gComma] = G1 at ho6 hh; obtain ⟨A1, c1, rfl, -, -⟩ := Own.rd ho6; have HG1 := Lib.hid hG; have HlG1 := Lib.hid (show G1.length = L.length + 1 from (by rw [← hG, List.length_append]; rfl)); replace HH := Lib.hid hh; replace HB := Lib.hid hb; clear hG ho6 hg6 hn6 hh hb) | (have hmk := HM2.out; clear HM2 hmk; refine wpList_appendT _ rfl _ _ rfl (.slice A1 G1.length c1) G1 rfl (HH.out.alloc _).own _ 1 1 [numT (i : Int)] rfl (Rd.toks _ [numT (i : Int)] _ 1 rfl rfl (by omega)) rfl (by (try have hbb := HlG1.out); (try have hbc := HlG2.out); omega) ?_; intro v6 w6 ho6 hg6 hn6; obtain ⟨hh, hb⟩ := HH.out.grow HB.out ho6 hg6 hn6; generalize hG : G1 ++ [numT (i : Int)] = G2 at ho6 hh; obtain ⟨A2, c2, rfl, -, -⟩ := Own.rd ho6; have HG2 := Lib.hid hG; have HlG2 := Lib.hid (show G2.length = G1.length + 1 from (by rw [← hG, List.length_append]; rfl)); replace HH := Lib.hid hh; replace HB := Lib.hid hb; clear hG ho6 hg6 hn6 hh hb) | (refine wpList_appendT _ rfl _ _ rfl (.slice A2 G2.length c2) G2 rfl (HH.out.alloc _).own _ 2 2 [signT gColon, wordT kX] rfl (Rd.toks _ [signT gColon, wordT kX] _ 2 rfl rfl (by omega)) rfl (by (try have hbb := HlG1.out); (try have hbc := HlG2.out); omega) ?_; intro v6 w6 ho6 hg6 hn6; obtain ⟨hh, hb⟩ := HH.out.grow HB.out ho6 hg6 hn6; generalize hG : G2 ++ [signT gColon, wordT kX] = G3 at ho6 hh; obtain ⟨A3, c3, rfl, -, -⟩ := Own.rd ho6; have HG3 := Lib.hid hG; have HlG3 := Lib.hid (show G3.length = G2.length + 2 from (by rw [← hG, List.length_append]; rfl)); replace HH := Lib.hid hh; replace HB := Lib.hid hb; clear hG ho6 hg6 hn6 hh hb))))
        go_round
        case rel => exact ⟨i + 1, A3, c3, G3, by omega, by go_num, rfl, Lib.hid (by rw [← HG3.out, ← HG2.out, ← HG1.out, HL.out]; simp [rowL, h0]), Lib.hid (by rw [HlG3.out, HlG2.out, HlG1.out]; have := HlL.out; omega), HH, HB⟩
        case measure => simp [intOf]; omega
      · have hd0 : decide ((0 : Int) < (i : Int)) = false := by simp; omega
        have HM2 := Lib.hid True.intro
        go_wp2_with (first | (go_at_call 21; go_must (refine (sign_any _ _).mono ?_); rintro e w4 ⟨rfl, hb⟩; replace HH := Lib.hid (HH.out.bel hb); replace HB := Lib.hid (HB.out.trans (below_low hb HB.out.size)); clear hb) | (go_at_call 23; go_must (refine (num_any _ _).mono ?_); rintro e w4 ⟨rfl, hb⟩; replace HH := Lib.hid (HH.out.bel hb); replace HB := Lib.hid (HB.out.trans (below_low hb HB.out.size)); clear hb) | (go_at_call 26; go_must (refine (word4_any _ _).mono ?_); rintro e w4 ⟨rfl, hb⟩; replace HH := Lib.hid (HH.out.bel hb); replace HB := Lib.hid (HB.out.trans (below_low hb HB.out.size)); clear hb) | (at_builtin; go_must (first | (have hmk := HM2.out; clear HM2 hmk; refine wpList_appendT _ rfl _ _ rfl (.slice A L.length c) L rfl (HH.out.alloc _).own _ 1 1 [numT (i : Int)] rfl (Rd.toks _ [numT (i : Int)] _ 1 rfl rfl (by omega)) rfl (by (try have hbb := HlG1.out); (try have hbc := HlG2.out); omega) ?_; intro v6 w6 ho6 hg6 hn6; obtain ⟨hh, hb⟩ := HH.out.grow HB.out ho6 hg6 hn6; generalize hG : L ++ [numT (i : Int)] = G2 at ho6 hh; obtain ⟨A2, c2, rfl, -, -⟩ := Own.rd ho6; have HG2 := Lib.hid hG; have HlG2 := Lib.hid (show G2.length = L.length + 1 from (by rw [← hG, List.length_append]; rfl)); replace HH := Lib.hid hh; replace HB := Lib.hid hb; clear hG ho6 hg6 hn6 hh hb) | (refine wpList_appendT _ rfl _ _ rfl (.slice A2 G2.length c2) G2 rfl (HH.out.alloc _).own _ 2 2 [signT gColon, wordT kX] rfl (Rd.toks _ [signT gColon, wordT kX] _ 2 rfl rfl (by omega)) rfl (by (try have hbb := HlG1.out); (try have hbc := HlG2.out); omega) ?_; intro v6 w6 ho6 hg6 hn6; obtain ⟨hh, hb⟩ := HH.out.grow HB.out ho6 hg6 hn6; generalize hG : G2 ++ [signT gColon, wordT kX] = G3 at ho6 hh; obtain ⟨A3, c3, rfl, -, -⟩ := Own.rd ho6; have HG3 := Lib.hid hG; have HlG3 := Lib.hid (show G3.length = G2.length + 2 from (by rw [← hG, List.length_append]; rfl)); replace HH := Lib.hid hh; replace HB := Lib.hid hb; clear hG ho6 hg6 hn6 hh hb))))
        go_round
        case rel => exact ⟨i + 1, A3, c3, G3, by omega, by go_num, rfl, Lib.hid (by rw [← HG3.out, ← HG2.out, HL.out]; simp [rowL, h0]), Lib.hid (by rw [HlG3.out, HlG2.out]; have := HlL.out; omega), HH, HB⟩
        case measure => simp [intOf]; omega
    · obtain rfl : i = m := by omega
      obtain ⟨hp, hcm, htw⟩ := row_ok (f := 2) (m := i) (by omega) hm13
      obtain ⟨r1, hr1, he1, hc1⟩ := rowPlain_run hp
      obtain ⟨r2, hr2, hc2⟩ := rowComma_run hcm
      obtain ⟨r3, hr3, he3, hc3⟩ := rowTwo_run htw
      have hLs : ∀ t ∈ L, t.s.size ≤ maxLen := by rw [HL.out]; exact rowL_small _ _
      rw [← HL.out] at hr1 hr2 hr3 hc2 hc3
      have HS1 : Hid (∀ t ∈ (([] ++ L) ++ [signT gRc]), t.s.size ≤ maxLen) := Lib.hid (smallA (smallA (fun t h => by cases h) hLs) (smallS _ (by decide)))
      have HS2 : Hid (∀ t ∈ (([] ++ L) ++ [signT gComma, signT gRc]), t.s.size ≤ maxLen) := Lib.hid (smallA (smallA (fun t h => by cases h) hLs) (smallA (a := [signT gComma]) (smallS _ (by decide)) (smallS _ (by decide))))
      have HS3 : Hid (∀ t ∈ (([] ++ L) ++ [signT gComma, signT gComma, signT gRc]), t.s.size ≤ maxLen) := Lib.hid (smallA (smallA (fun t h => by cases h) hLs) (smallA (a := [signT gComma]) (smallS _ (by decide)) (smallA (a := [signT gComma]) (smallS _ (by decide)) (smallS _ (by decide)))))
      obtain ⟨T1, hT1⟩ : ∃ T, treeOf r1.1.ns = T := ⟨_, rfl⟩
      obtain ⟨N1, hN1⟩ : ∃ N, nodeOf r1 = N := ⟨_, rfl⟩
      obtain ⟨U1, hU1⟩ : ∃ U, usedOf r1 = U := ⟨_, rfl⟩
      obtain ⟨E1, hE1⟩ : ∃ E, r1.1.e = E := ⟨_, rfl⟩
      obtain ⟨t1, ht1⟩ : ∃ t, T1.length = t := ⟨_, rfl⟩
      obtain ⟨T2, hT2⟩ : ∃ T, treeOf r2.1.ns = T := ⟨_, rfl⟩
      obtain ⟨N2, hN2⟩ : ∃ N, nodeOf r2 = N := ⟨_, rfl⟩
      obtain ⟨U2, hU2⟩ : ∃ U, usedOf r2 = U := ⟨_, rfl⟩
      obtain ⟨E2, hE2⟩ : ∃ E, r2.1.e = E := ⟨_, rfl⟩
      obtain ⟨t2, ht2⟩ : ∃ t, T2.length = t := ⟨_, rfl⟩
      obtain ⟨T3, hT3⟩ : ∃ T, treeOf r3.1.ns = T := ⟨_, rfl⟩
      obtain ⟨N3, hN3⟩ : ∃ N, nodeOf r3 = N := ⟨_, rfl⟩
      obtain ⟨U3, hU3⟩ : ∃ U, usedOf r3 = U := ⟨_, rfl⟩
      obtain ⟨E3, hE3⟩ : ∃ E, r3.1.e = E := ⟨_, rfl⟩
      obtain ⟨t3, ht3⟩ : ∃ t, T3.length = t := ⟨_, rfl⟩
      rw [hE1] at he1
      rw [hE3] at he3
      rw [hT1] at hc1
      rw [hT2, hU2, hE2] at hc2
      rw [hU3] at hc3
      have HR1 := Lib.hid hr1
      have HT1 := Lib.hid hT1
      have HN1 := Lib.hid hN1
      have HU1 := Lib.hid hU1
      have HE1 := Lib.hid hE1
      have HL1 := Lib.hid ht1
      clear hr1 hT1 hN1 hU1 hE1 ht1
      have HR2 := Lib.hid hr2
      have HT2 := Lib.hid hT2
      have HN2 := Lib.hid hN2
      have HU2 := Lib.hid hU2
      have HE2 := Lib.hid hE2
      have HL2 := Lib.hid ht2
      clear hr2 hT2 hN2 hU2 hE2 ht2
      have HR3 := Lib.hid hr3
      have HT3 := Lib.hid hT3
      have HN3 := Lib.hid hN3
      have HU3 := Lib.hid hU3
      have HE3 := Lib.hid hE3
      have HL3 := Lib.hid ht3
      clear hr3 hT3 hN3 hU3 hE3 ht3
      have HC := Lib.hid (And.intro hc1 (And.intro hc2 hc3))
      have hll : L.length ≤ 62 := by have := HlL.out; omega
      clear hc1 hc2 hc3 hp hcm htw hLs hlt
      subst he1 he3
      go_upto_region 19 with fail
      refine wp_items (by kernel_rfl) [⟨77, some 2, .row []⟩, ⟨78, none, .val (.slice A L.length c)⟩, ⟨79, some 5, .row ([] ++ L)⟩, ⟨80, none, .val (tokV (signT gRc))⟩, ⟨81, none, .row [signT gRc]⟩, ⟨82, none, .row (([] ++ L) ++ [signT gRc])⟩, ⟨83, none, .got N1 U1 0 T1⟩, ⟨13, some 8, .ptr 31 #[.int .i64 0, .int .i64 0, .int .i64 0, .slice none 0 0]⟩, ⟨13, none, .gotAt N1 U1 0 T1⟩, ⟨11, none, .row L⟩, ⟨8, none, .ptr 39 (tcs (signT gRc)).toArray⟩] [77, 78, 79, 80, 81, 82, 83, 13, 13, 11, 8] [some 2, none, some 5, none, none, none, none, some 8, none, none, none] rfl rfl 226 w.heap.size HB.out.size rfl (by kernel_rfl) [8, 9, 10] (by decide) (by decide) HH.out ?_ [some 77, some 78, some 79, some 80, some 81, some 82, some 83, some 13, none] rfl [(13, .gotAt N1 U1 0 T1), (11, .row L), (8, .ptr 39 (tcs (signT gRc)).toArray)] rfl rfl ?_
      · exact ⟨step_made0 rfl rfl (by simp), step_move rfl (Ev.base (by kernel_rfl) rfl) rfl (by simp), step_app 0 rfl (by kernel_rfl) rfl rfl rfl (EvRow.via 9 (Ev.item 1 (by kernel_rfl) (by kernel_rfl) rfl rfl) (Ev.base (by kernel_rfl) rfl) (by kernel_rfl) (by kernel_rfl) rfl) (by (try simp only [List.length_append, List.length_cons, List.length_nil]); omega) rfl (by simp), step_load rfl (Ev.base (by kernel_rfl) rfl) (fun a w S hA => run_loadTok (Ev.blk 10 (Ev.base (by kernel_rfl) rfl) (by kernel_rfl) (by kernel_rfl) rfl a w S hA)) rfl (by simp), step_made1 rfl (Ev.item 3 (by kernel_rfl) (by kernel_rfl) rfl rfl) rfl (by simp), step_app 2 rfl (by kernel_rfl) rfl rfl rfl (EvRow.item 4 (by kernel_rfl) (by kernel_rfl) rfl rfl) (by (try simp only [List.length_append, List.length_cons, List.length_nil]); omega) rfl (by simp), step_told rfl (EvOwn.item 5 (by kernel_rfl) (by kernel_rfl) rfl rfl) (by rw [List.nil_append]; exact HR1.out) HN1.out HU1.out HE1.out HT1.out (by simp only [List.length_append, List.length_cons, List.length_nil]; omega) HS1.out (fun w hb => HT.out.below (HB.out.trans hb)) rfl (by simp), step_alloc rfl rfl (by simp), step_store 7 6 rfl (by kernel_rfl) rfl rfl rfl rfl (by kernel_rfl) (by kernel_rfl) rfl rfl rfl rfl rfl, True.intro⟩
      intro xs w9 hxs hbel hgr hh
      replace hxs : xs.length = 9 := hxs
      obtain ⟨x0, ys0, rfl, hx0⟩ := len_succ hxs
      obtain ⟨x1, ys1, rfl, hx1⟩ := len_succ hx0
      obtain ⟨x2, ys2, rfl, hx2⟩ := len_succ hx1
      obtain ⟨x3, ys3, rfl, hx3⟩ := len_succ hx2
      obtain ⟨x4, ys4, rfl, hx4⟩ := len_succ hx3
      obtain ⟨x5, ys5, rfl, hx5⟩ := len_succ hx4
      obtain ⟨x6, ys6, rfl, hx6⟩ := len_succ hx5
      obtain ⟨x7, ys7, rfl, hx7⟩ := len_succ hx6
      obtain ⟨x8, ys8, rfl, hx8⟩ := len_succ hx7
      obtain rfl := len_zero hx8
      clear hxs hx0 hx1 hx2 hx3 hx4 hx5 hx6 hx7 hx8
      replace hh : Hold w.heap.size w9 [(x7, .gotAt N1 U1 0 T1), ((.slice A L.length c), .row L), ((.pointer (some ⟨g8, 0, none⟩)), .ptr 39 (tcs (signT gRc)).toArray)] := hh
      obtain ⟨g1, _, _, rfl, -, -, -⟩ := hh.head
      replace HB := Lib.hid (HB.out.trans hbel)
      clear HH
      have HH := Lib.hid hh
      clear hh hbel hgr
      simp only [List.zip_cons_cons, List.zip_nil_left, List.zip_nil_right, putAll, put_none9]
      go_simp
      go_upto_region 20 with fail
      refine wp_items (by kernel_rfl) [⟨84, some 2, .row []⟩, ⟨85, none, .val (.slice A L.length c)⟩, ⟨86, some 6, .row ([] ++ L)⟩, ⟨87, none, .val (tokV (signT ⟨#[44]⟩))⟩, ⟨88, none, .val (tokV (signT gRc))⟩, ⟨89, none, .row [signT ⟨#[44]⟩, signT gRc]⟩, ⟨90, none, .row (([] ++ L) ++ [signT ⟨#[44]⟩, signT gRc])⟩, ⟨91, none, .got N2 U2 E2 T2⟩, ⟨14, some 9, .ptr 31 #[.int .i64 0, .int .i64 0, .int .i64 0, .slice none 0 0]⟩, ⟨14, none, .gotAt N2 U2 E2 T2⟩, ⟨13, none, .gotAt N1 U1 0 T1⟩, ⟨11, none, .row L⟩, ⟨8, none, .ptr 39 (tcs (signT gRc)).toArray⟩] [84, 85, 86, 87, 88, 89, 90, 91, 14, 14, 13, 11, 8] [some 2, none, some 6, none, none, none, none, none, some 9, none, none, none, none] rfl rfl 226 w.heap.size HB.out.size rfl (by kernel_rfl) [9, 10, 11, 12] (by decide) (by decide) HH.out ?_ [some 84, some 85, some 86, some 87, some 88, some 89, some 90, some 91, some 14, none] rfl [(14, .gotAt N2 U2 E2 T2), (13, .gotAt N1 U1 0 T1), (11, .row L), (8, .ptr 39 (tcs (signT gRc)).toArray)] rfl rfl ?_
      · exact ⟨step_made0 rfl rfl (by simp), step_move rfl (Ev.base (by kernel_rfl) rfl) rfl (by simp), step_app 0 rfl (by kernel_rfl) rfl rfl rfl (EvRow.via 11 (Ev.item 1 (by kernel_rfl) (by kernel_rfl) rfl rfl) (Ev.base (by kernel_rfl) rfl) (by kernel_rfl) (by kernel_rfl) rfl) (by (try simp only [List.length_append, List.length_cons, List.length_nil]); omega) rfl (by simp), step_sign rfl (Ev.const _) rfl (by simp), step_load rfl (Ev.base (by kernel_rfl) rfl) (fun a w S hA => run_loadTok (Ev.blk 12 (Ev.base (by kernel_rfl) rfl) (by kernel_rfl) (by kernel_rfl) rfl a w S hA)) rfl (by simp), step_made2 rfl (Ev.item 3 (by kernel_rfl) (by kernel_rfl) rfl rfl) (Ev.item 4 (by kernel_rfl) (by kernel_rfl) rfl rfl) rfl (by simp), step_app 2 rfl (by kernel_rfl) rfl rfl rfl (EvRow.item 5 (by kernel_rfl) (by kernel_rfl) rfl rfl) (by (try simp only [List.length_append, List.length_cons, List.length_nil]); omega) rfl (by simp), step_told rfl (EvOwn.item 6 (by kernel_rfl) (by kernel_rfl) rfl rfl) (by rw [List.nil_append]; exact HR2.out) HN2.out HU2.out HE2.out HT2.out (by simp only [List.length_append, List.length_cons, List.length_nil]; omega) HS2.out (fun w hb => HT.out.below (HB.out.trans hb)) rfl (by simp), step_alloc rfl rfl (by simp), step_store 8 7 rfl (by kernel_rfl) rfl rfl rfl rfl (by kernel_rfl) (by kernel_rfl) rfl rfl rfl rfl rfl, True.intro⟩
      intro xs w10 hxs hbel hgr hh
      replace hxs : xs.length = 10 := hxs
      obtain ⟨x0, ys0, rfl, hx0⟩ := len_succ hxs
      obtain ⟨x1, ys1, rfl, hx1⟩ := len_succ hx0
      obtain ⟨x2, ys2, rfl, hx2⟩ := len_succ hx1
      obtain ⟨x3, ys3, rfl, hx3⟩ := len_succ hx2
      obtain ⟨x4, ys4, rfl, hx4⟩ := len_succ hx3
      obtain ⟨x5, ys5, rfl, hx5⟩ := len_succ hx4
      obtain ⟨x6, ys6, rfl, hx6⟩ := len_succ hx5
      obtain ⟨x7, ys7, rfl, hx7⟩ := len_succ hx6
      obtain ⟨x8, ys8, rfl, hx8⟩ := len_succ hx7
      obtain ⟨x9, ys9, rfl, hx9⟩ := len_succ hx8
      obtain rfl := len_zero hx9
      clear hxs hx0 hx1 hx2 hx3 hx4 hx5 hx6 hx7 hx8 hx9
      replace hh : Hold w.heap.size w10 [(x8, .gotAt N2 U2 E2 T2), ((.pointer (some ⟨g1, 0, none⟩)), .gotAt N1 U1 0 T1), ((.slice A L.length c), .row L), ((.pointer (some ⟨g8, 0, none⟩)), .ptr 39 (tcs (signT gRc)).toArray)] := hh
      obtain ⟨g2, _, _, rfl, -, -, -⟩ := hh.head
      replace HB := Lib.hid (HB.out.trans hbel)
      clear HH
      have HH := Lib.hid hh
      clear hh hbel hgr
      simp only [List.zip_cons_cons, List.zip_nil_left, List.zip_nil_right, putAll, put_none9]
      go_simp
      go_upto_region 21 with fail
      refine wp_items (by kernel_rfl) [⟨92, some 2, .row []⟩, ⟨93, none, .val (.slice A L.length c)⟩, ⟨94, some 7, .row ([] ++ L)⟩, ⟨95, none, .val (tokV (signT ⟨#[44]⟩))⟩, ⟨96, none, .val (tokV (signT ⟨#[44]⟩))⟩, ⟨97, none, .val (tokV (signT gRc))⟩, ⟨98, none, .row [signT ⟨#[44]⟩, signT ⟨#[44]⟩, signT gRc]⟩, ⟨99, none, .row (([] ++ L) ++ [signT ⟨#[44]⟩, signT ⟨#[44]⟩, signT gRc])⟩, ⟨100, none, .got N3 U3 30 T3⟩, ⟨15, some 10, .ptr 31 #[.int .i64 0, .int .i64 0, .int .i64 0, .slice none 0 0]⟩, ⟨15, none, .gotAt N3 U3 30 T3⟩, ⟨14, none, .gotAt N2 U2 E2 T2⟩, ⟨13, none, .gotAt N1 U1 0 T1⟩, ⟨11, none, .row L⟩, ⟨8, none, .ptr 39 (tcs (signT gRc)).toArray⟩] [92, 93, 94, 95, 96, 97, 98, 99, 100, 15, 15, 14, 13, 11, 8] [some 2, none, some 7, none, none, none, none, none, none, some 10, none, none, none, none, none] rfl rfl 226 w.heap.size HB.out.size rfl (by kernel_rfl) [10, 11, 12, 13, 14] (by decide) (by decide) HH.out ?_ [some 92, some 93, some 94, some 95, some 96, some 97, some 98, some 99, some 100, some 15, none] rfl [(15, .gotAt N3 U3 30 T3), (14, .gotAt N2 U2 E2 T2), (13, .gotAt N1 U1 0 T1), (11, .row L), (8, .ptr 39 (tcs (signT gRc)).toArray)] rfl rfl ?_
      · exact ⟨step_made0 rfl rfl (by simp), step_move rfl (Ev.base (by kernel_rfl) rfl) rfl (by simp), step_app 0 rfl (by kernel_rfl) rfl rfl rfl (EvRow.via 13 (Ev.item 1 (by kernel_rfl) (by kernel_rfl) rfl rfl) (Ev.base (by kernel_rfl) rfl) (by kernel_rfl) (by kernel_rfl) rfl) (by (try simp only [List.length_append, List.length_cons, List.length_nil]); omega) rfl (by simp), step_sign rfl (Ev.const _) rfl (by simp), step_sign rfl (Ev.const _) rfl (by simp), step_load rfl (Ev.base (by kernel_rfl) rfl) (fun a w S hA => run_loadTok (Ev.blk 14 (Ev.base (by kernel_rfl) rfl) (by kernel_rfl) (by kernel_rfl) rfl a w S hA)) rfl (by simp), step_made3 rfl (Ev.item 3 (by kernel_rfl) (by kernel_rfl) rfl rfl) (Ev.item 4 (by kernel_rfl) (by kernel_rfl) rfl rfl) (Ev.item 5 (by kernel_rfl) (by kernel_rfl) rfl rfl) rfl (by simp), step_app 2 rfl (by kernel_rfl) rfl rfl rfl (EvRow.item 6 (by kernel_rfl) (by kernel_rfl) rfl rfl) (by (try simp only [List.length_append, List.length_cons, List.length_nil]); omega) rfl (by simp), step_told rfl (EvOwn.item 7 (by kernel_rfl) (by kernel_rfl) rfl rfl) (by rw [List.nil_append]; exact HR3.out) HN3.out HU3.out HE3.out HT3.out (by simp only [List.length_append, List.length_cons, List.length_nil]; omega) HS3.out (fun w hb => HT.out.below (HB.out.trans hb)) rfl (by simp), step_alloc rfl rfl (by simp), step_store 9 8 rfl (by kernel_rfl) rfl rfl rfl rfl (by kernel_rfl) (by kernel_rfl) rfl rfl rfl rfl rfl, True.intro⟩
      intro xs w11 hxs hbel hgr hh
      replace hxs : xs.length = 11 := hxs
      obtain ⟨x0, ys0, rfl, hx0⟩ := len_succ hxs
      obtain ⟨x1, ys1, rfl, hx1⟩ := len_succ hx0
      obtain ⟨x2, ys2, rfl, hx2⟩ := len_succ hx1
      obtain ⟨x3, ys3, rfl, hx3⟩ := len_succ hx2
      obtain ⟨x4, ys4, rfl, hx4⟩ := len_succ hx3
      obtain ⟨x5, ys5, rfl, hx5⟩ := len_succ hx4
      obtain ⟨x6, ys6, rfl, hx6⟩ := len_succ hx5
      obtain ⟨x7, ys7, rfl, hx7⟩ := len_succ hx6
      obtain ⟨x8, ys8, rfl, hx8⟩ := len_succ hx7
      obtain ⟨x9, ys9, rfl, hx9⟩ := len_succ hx8
      obtain ⟨x10, ys10, rfl, hx10⟩ := len_succ hx9
      obtain rfl := len_zero hx10
      clear hxs hx0 hx1 hx2 hx3 hx4 hx5 hx6 hx7 hx8 hx9 hx10
      replace hh : Hold w.heap.size w11 [(x9, .gotAt N3 U3 30 T3), ((.pointer (some ⟨g2, 0, none⟩)), .gotAt N2 U2 E2 T2), ((.pointer (some ⟨g1, 0, none⟩)), .gotAt N1 U1 0 T1), ((.slice A L.length c), .row L), ((.pointer (some ⟨g8, 0, none⟩)), .ptr 39 (tcs (signT gRc)).toArray)] := hh
      obtain ⟨g3, _, _, rfl, -, -, -⟩ := hh.head
      replace HB := Lib.hid (HB.out.trans hbel)
      clear HH
      have HH := Lib.hid hh
      clear hh hbel hgr
      simp only [List.zip_cons_cons, List.zip_nil_left, List.zip_nil_right, putAll, put_none9]
      go_simp
      obtain ⟨Aq1, cq1, hk1, hn1⟩ := HH.out.tail.tail.gotOpen HL1.out
      obtain ⟨Aq2, cq2, hk2, hn2⟩ := HH.out.tail.gotOpen HL2.out
      obtain ⟨Aq3, cq3, hk3', hn3⟩ := HH.out.gotOpen HL3.out
      have HK1 := Lib.hid hk1
      have HK2 := Lib.hid hk2
      have HK3 := Lib.hid hk3'
      have HN1 := Lib.hid hn1
      have HN2 := Lib.hid hn2
      have HN3 := Lib.hid hn3
      clear hk1 hk2 hk3' hn1 hn2 hn3 HH HR1 HR2 HR3 HT1 HT2 HT3 HU1 HU2 HU3 HE1 HE2 HE3 HS1 HS2 HS3
      have k1 := HK1.out; have l1 := k1.lt; have k2 := HK2.out; have l2 := k2.lt; have k3 := HK3.out; have l3 := k3.lt; have y12 := k1.cell 2; have y13 := k1.cell 3; have y21 := k2.cell 1; have y22 := k2.cell 2; have y23 := k2.cell 3; have y31 := k3.cell 1; have y32 := k3.cell 2; simp only [List.getElem?_toArray, List.getElem?_cons_zero, List.getElem?_cons_succ] at y12 y13 y21 y22 y23 y31 y32; clear k1 k2 k3
      obtain ⟨hc1, hc2, hc3⟩ := HC.out
      clear HC
      have q0 := field_op 9
      have q4 := field_kids 9
      by_cases hi0 : i = 0
      · have hz : ((i : Int) == 0) = true := by simp [hi0]
        have ho : ((i : Int) == 1) = false := by simp [hi0]
        rcases hc2 with ⟨-, he2, hu2⟩ | ⟨hne, -⟩
        · rcases hc1 with ⟨-, h1, -⟩ | ⟨-, hl1⟩
          · omega
          · subst he2 hu2
            clear hc3
            obtain ⟨a1, s1, n1, ks1, hx1, hks1, hpos1⟩ := lastIs_at hl1
            have hkq1 : ((ks1.length : Int) == 2 * (i : Int)) = true := by rw [beq_iff_eq, hks1]; simp [rowKids]
            have HX1 : Hid (T1[T1.length - 1]? = some ⟨9, a1, s1, n1, ks1⟩) := Lib.hid hx1
            have HP1 : Hid (0 < t1) := Lib.hid (by have := HL1.out; omega)
            clear hx1 hks1 hpos1
            have hkz : ((ks1.length : Int) == 0) = true := by rw [beq_iff_eq] at hkq1 ⊢; omega
            go_wp2_with (go_at_call 28; go_must (first | refine (root_any HN1.out HL1.out HP1.out HX1.out).mono ?_); rintro e W5 ⟨B1, d1, rfl, hb⟩; replace HK1 := Lib.hid (HK1.out.bel hb); replace HN1 := Lib.hid (HN1.out.belw hb); replace HK2 := Lib.hid (HK2.out.bel hb); replace HN2 := Lib.hid (HN2.out.belw hb); replace HK3 := Lib.hid (HK3.out.bel hb); replace HN3 := Lib.hid (HN3.out.belw hb); replace HB := Lib.hid (HB.out.trans (below_low hb HB.out.size)); clear hb l1 l2 l3 y12 y13 y21 y22 y23 y31 y32; have k1 := HK1.out; have l1 := k1.lt; have k2 := HK2.out; have l2 := k2.lt; have k3 := HK3.out; have l3 := k3.lt; have y12 := k1.cell 2; have y13 := k1.cell 3; have y21 := k2.cell 1; have y22 := k2.cell 2; have y23 := k2.cell 3; have y31 := k3.cell 1; have y32 := k3.cell 2; simp only [List.getElem?_toArray, List.getElem?_cons_zero, List.getElem?_cons_succ] at y12 y13 y21 y22 y23 y31 y32; clear k1 k2 k3)
            go_ret
            exact ⟨rfl, HB.out⟩
        · exact absurd hi0 hne
      · have hz : ((i : Int) == 0) = false := by simp [hi0]
        have hu3 := hc3 hi0
        rcases hc2 with ⟨h0, -⟩ | ⟨-, he2, hu2, hl2⟩
        · exact absurd h0 hi0
        · subst he2 hu2 hu3
          clear hc3
          obtain ⟨a2, s2, n2, ks2, hx2, hks2, hpos2⟩ := lastIs_at hl2
          have hkq2 : ((ks2.length : Int) == 2 * (i : Int)) = true := by rw [beq_iff_eq, hks2]; simp [rowKids]
          have HX2 : Hid (T2[T2.length - 1]? = some ⟨9, a2, s2, n2, ks2⟩) := Lib.hid hx2
          have HP2 : Hid (0 < t2) := Lib.hid (by have := HL2.out; omega)
          clear hx2 hks2 hpos2
          rcases hc1 with ⟨h1, -⟩ | ⟨-, hl1⟩
          · omega
          · skip
            obtain ⟨a1, s1, n1, ks1, hx1, hks1, hpos1⟩ := lastIs_at hl1
            have hkq1 : ((ks1.length : Int) == 2 * (i : Int)) = true := by rw [beq_iff_eq, hks1]; simp [rowKids]
            have HX1 : Hid (T1[T1.length - 1]? = some ⟨9, a1, s1, n1, ks1⟩) := Lib.hid hx1
            have HP1 : Hid (0 < t1) := Lib.hid (by have := HL1.out; omega)
            clear hx1 hks1 hpos1
            go_upto_region 33 with (go_at_call 28; go_must (first | refine (root_any HN1.out HL1.out HP1.out HX1.out).mono ?_); rintro e W5 ⟨B1, d1, rfl, hb⟩; replace HK1 := Lib.hid (HK1.out.bel hb); replace HN1 := Lib.hid (HN1.out.belw hb); replace HK2 := Lib.hid (HK2.out.bel hb); replace HN2 := Lib.hid (HN2.out.belw hb); replace HK3 := Lib.hid (HK3.out.bel hb); replace HN3 := Lib.hid (HN3.out.belw hb); replace HB := Lib.hid (HB.out.trans (below_low hb HB.out.size)); clear hb l1 l2 l3 y12 y13 y21 y22 y23 y31 y32; have k1 := HK1.out; have l1 := k1.lt; have k2 := HK2.out; have l2 := k2.lt; have k3 := HK3.out; have l3 := k3.lt; have y12 := k1.cell 2; have y13 := k1.cell 3; have y21 := k2.cell 1; have y22 := k2.cell 2; have y23 := k2.cell 3; have y31 := k3.cell 1; have y32 := k3.cell 2; simp only [List.getElem?_toArray, List.getElem?_cons_zero, List.getElem?_cons_succ] at y12 y13 y21 y22 y23 y31 y32; clear k1 k2 k3)
            clear HN1 HX1 HP1
            go_wp2_with (go_at_call 28; go_must (first | refine (root_any HN2.out HL2.out HP2.out HX2.out).mono ?_); rintro e W5 ⟨B1, d1, rfl, hb⟩; replace HK1 := Lib.hid (HK1.out.bel hb); skip; replace HK2 := Lib.hid (HK2.out.bel hb); replace HN2 := Lib.hid (HN2.out.belw hb); replace HK3 := Lib.hid (HK3.out.bel hb); replace HN3 := Lib.hid (HN3.out.belw hb); replace HB := Lib.hid (HB.out.trans (below_low hb HB.out.size)); clear hb l1 l2 l3 y12 y13 y21 y22 y23 y31 y32; have k1 := HK1.out; have l1 := k1.lt; have k2 := HK2.out; have l2 := k2.lt; have k3 := HK3.out; have l3 := k3.lt; have y12 := k1.cell 2; have y13 := k1.cell 3; have y21 := k2.cell 1; have y22 := k2.cell 2; have y23 := k2.cell 3; have y31 := k3.cell 1; have y32 := k3.cell 2; simp only [List.getElem?_toArray, List.getElem?_cons_zero, List.getElem?_cons_succ] at y12 y13 y21 y22 y23 y31 y32; clear k1 k2 k3)
            go_ret
            exact ⟨rfl, HB.out⟩
end Go.Proofs.YtjdcicopjipmnaaDoor
