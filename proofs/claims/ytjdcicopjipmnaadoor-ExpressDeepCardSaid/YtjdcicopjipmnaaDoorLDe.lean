/- ExpressDeep: the walk. -/
import Derived.Test.YtjdcicopjipmnaaDoorTwo
namespace Go.Proofs.YtjdcicopjipmnaaDoor
open Go.RowKit
set_option linter.unusedVariables false
set_option linter.unusedSimpArgs false
theorem signs_small (t : ByteArray) (h : t.size ≤ 100) : ∀ x ∈ [signT t], x.s.size ≤ maxLen := fun x hx => by rw [List.mem_singleton.1 hx]; exact sml h
theorem dF_small (k : Nat) : ∀ t ∈ dF k, t.s.size ≤ maxLen := by
  intro t ht
  unfold dF at ht
  split at ht
  · rw [List.mem_singleton.1 ht]; exact sml (by decide)
  · rw [List.mem_singleton.1 ht]; exact sml (by decide)
  · rw [List.mem_singleton.1 ht]; exact sml (by decide)
  · cases ht
theorem dB_small (k : Nat) : ∀ t ∈ dB k, t.s.size ≤ maxLen := by
  intro t ht
  unfold dB at ht
  split at ht <;> simp only [List.mem_cons, List.not_mem_nil, or_false] at ht
  · rcases ht with rfl | rfl
    · exact sml (by decide)
    · exact Nat.zero_le _
  · rw [ht]; exact sml (by decide)
  · rcases ht with rfl | rfl <;> exact sml (by decide)
  · rcases ht with rfl | rfl <;> exact sml (by decide)
theorem num_small (n : Int) : ∀ t ∈ [numT n], t.s.size ≤ maxLen := fun t ht => by rw [List.mem_singleton.1 ht]; exact Nat.zero_le _
theorem small_app {a b : List TokD} (ha : ∀ t ∈ a, t.s.size ≤ maxLen) (hb : ∀ t ∈ b, t.s.size ≤ maxLen) : ∀ t ∈ a ++ b, t.s.size ≤ maxLen := fun t ht => (List.mem_append.1 ht).elim (ha t) (hb t)
set_option maxRecDepth 100000 in
set_option maxHeartbeats 4000000 in
theorem deep_walk (n kd : Nat) (hn : n < 256) (hk : kd < 256) (hd : ∀ k m, k < 6 → 1 ≤ m → m ≤ 80 → deepOk k m = true) (hr : ∀ m, 1 ≤ m → m ≤ 80 → roundOk m = true) (w : World) (htab : Asp w) : Calls Tryd.prog 10 #[.int .u8 n, .int .u8 kd] w fun e w' => e = .returned (.bool true) ∧ Below w.heap.size w w' := by
  have HT := Lib.hid htab
  have HD := Lib.hid hd
  have HRD := Lib.hid hr
  clear htab hd hr
  go_enter Tryd.func10, Tryd.ntmps10
  go_wp2_with (go_at_call 14; go_must (refine (shown_any _ HT.out).mono ?_); rintro e w1 ⟨rfl, hb1⟩; have HB := Lib.hid hb1; have hsz := hb1.size; clear hb1)
  obtain ⟨m, hm⟩ : ∃ m, m = n % 80 + 1 := ⟨_, rfl⟩
  rw [show ((1 : Int) + (n : Int) % 80) = (m : Int) from by omega]
  have hm1 : 1 ≤ m := by omega
  have hm2 : m ≤ 80 := by omega
  have HM := Lib.hid hm
  obtain ⟨k, hk'⟩ : ∃ k, k = kd % 6 := ⟨_, rfl⟩
  have hk6 : k = 0 ∨ k = 1 ∨ k = 2 ∨ k = 3 ∨ k = 4 ∨ k = 5 := by omega
  have HK := Lib.hid hk'
  have H0 := NewT.empty HB.out
  have H00 : Hid (TwoT w _ _ [] _ []) := Lib.hid (H0.two (OwnT.made _ [] #[] 0 rfl rfl (by omega)) (Below.alloc (Below.refl _ _) (Nat.le_refl _) _) (fun b e => by have e2 : _ = b := (by simpa [Value.ownBlock] using e); rw [← e2]; simp))
  clear hm hk' H0 HB hsz
  go_loopw [7, 8, 9] (fun v7 v8 v9 wr => ∃ (i : Nat) (A : Option Addr) (c : Nat) (L : List TokD) (B : Option Addr) (d : Nat) (R : List TokD), i ≤ m ∧ v9 = .int .i64 i ∧ v7 = .slice A L.length c ∧ v8 = .slice B R.length d ∧ Hid (L = rep (dF k) i) ∧ Hid (R = rep (dB k) i) ∧ Hid (L.length ≤ 2 * i) ∧ Hid (R.length ≤ 2 * i) ∧ Hid (TwoT w wr (.slice A L.length c) L (.slice B R.length d) R)) (fun _ _ v9 _ => m - (intOf v9).toNat)
  case atStart => exact ⟨0, _, 0, [], _, 0, [], Nat.zero_le _, rfl, rfl, rfl, Lib.hid rfl, Lib.hid rfl, Lib.hid (Nat.zero_le _), Lib.hid (Nat.zero_le _), by simpa using H00⟩
  case round =>
    obtain ⟨i, A, c, L, B, d, R, hi, rfl, rfl, rfl, HL, HR, HlL, HlR, HN⟩ := hrel
    clear H00
    by_cases hlt : i < m
    · skip
      rcases hk6 with rfl | rfl | rfl | rfl | rfl | rfl
      · have hki : ((kd : Int) % 6) = 0 := (by have := HK.out; omega)
        go_wp2_with (first | (go_at_call 21; go_must (refine (sign_any _ _).mono ?_); rintro e w3 ⟨rfl, hb3⟩; replace HN := Lib.hid (HN.out.move hb3); clear hb3) | (go_at_call 26; go_must (refine (word4_any _ _).mono ?_); rintro e w3 ⟨rfl, hb3⟩; replace HN := Lib.hid (HN.out.move hb3); clear hb3) | (go_at_call 23; go_must (refine (num_any _ _).mono ?_); rintro e w3 ⟨rfl, hb3⟩; replace HN := Lib.hid (HN.out.move hb3); clear hb3) | (at_builtin; go_must (first | (refine wpList_appendT _ rfl _ _ rfl (.slice A L.length c) L rfl (Own.new HN.out.own (Below.alloc (Below.refl _ _) (Nat.le_refl _) _)) _ 1 1 [signT gMinus] rfl (Rd.toks _ [signT gMinus] _ 1 rfl rfl (by omega)) rfl (by (try have hbl := HlL.out); omega) ?_; intro v6 w6 ho6 hg6 hn6; generalize hG : L ++ [signT gMinus] = G at ho6; obtain ⟨A2, c2, rfl, -, -⟩ := Own.rd ho6; have HG := Lib.hid hG; have HlG := Lib.hid (show G.length = L.length + 1 from (by rw [← hG, List.length_append]; rfl)); replace HN := Lib.hid (HN.out.app (Below.alloc (Below.refl _ _) (Nat.le_refl _) _) ho6 hg6 hn6); clear hG ho6 hg6 hn6))))
        go_round
        case rel => exact ⟨i + 1, A2, c2, G, B, d, R, by omega, by go_num, rfl, rfl, Lib.hid (by rw [← HG.out, HL.out]; exact rep_next _ _), Lib.hid (HR.out), Lib.hid (by rw [HlG.out]; have := HlL.out; omega), Lib.hid (by have := HlR.out; omega), HN⟩
        case measure => simp [intOf]; omega
      · have hki : ((kd : Int) % 6) = 1 := (by have := HK.out; omega)
        go_wp2_with (first | (go_at_call 21; go_must (refine (sign_any _ _).mono ?_); rintro e w3 ⟨rfl, hb3⟩; replace HN := Lib.hid (HN.out.move hb3); clear hb3) | (go_at_call 26; go_must (refine (word4_any _ _).mono ?_); rintro e w3 ⟨rfl, hb3⟩; replace HN := Lib.hid (HN.out.move hb3); clear hb3) | (go_at_call 23; go_must (refine (num_any _ _).mono ?_); rintro e w3 ⟨rfl, hb3⟩; replace HN := Lib.hid (HN.out.move hb3); clear hb3) | (at_builtin; go_must (first | (refine wpList_appendT _ rfl _ _ rfl (.slice A L.length c) L rfl (Own.new HN.out.own (Below.alloc (Below.refl _ _) (Nat.le_refl _) _)) _ 1 1 [wordT kNot] rfl (Rd.toks _ [wordT kNot] _ 1 rfl rfl (by omega)) rfl (by (try have hbl := HlL.out); omega) ?_; intro v6 w6 ho6 hg6 hn6; generalize hG : L ++ [wordT kNot] = G at ho6; obtain ⟨A2, c2, rfl, -, -⟩ := Own.rd ho6; have HG := Lib.hid hG; have HlG := Lib.hid (show G.length = L.length + 1 from (by rw [← hG, List.length_append]; rfl)); replace HN := Lib.hid (HN.out.app (Below.alloc (Below.refl _ _) (Nat.le_refl _) _) ho6 hg6 hn6); clear hG ho6 hg6 hn6))))
        go_round
        case rel => exact ⟨i + 1, A2, c2, G, B, d, R, by omega, by go_num, rfl, rfl, Lib.hid (by rw [← HG.out, HL.out]; exact rep_next _ _), Lib.hid (HR.out), Lib.hid (by rw [HlG.out]; have := HlL.out; omega), Lib.hid (by have := HlR.out; omega), HN⟩
        case measure => simp [intOf]; omega
      · have hki : ((kd : Int) % 6) = 2 := (by have := HK.out; omega)
        go_wp2_with (first | (go_at_call 21; go_must (refine (sign_any _ _).mono ?_); rintro e w3 ⟨rfl, hb3⟩; replace HN := Lib.hid (HN.out.move hb3); clear hb3) | (go_at_call 26; go_must (refine (word4_any _ _).mono ?_); rintro e w3 ⟨rfl, hb3⟩; replace HN := Lib.hid (HN.out.move hb3); clear hb3) | (go_at_call 23; go_must (refine (num_any _ _).mono ?_); rintro e w3 ⟨rfl, hb3⟩; replace HN := Lib.hid (HN.out.move hb3); clear hb3) | (at_builtin; go_must (first | (refine wpList_appendT _ rfl _ _ rfl (.slice B R.length d) R rfl (Own.new HN.out.own2 (Below.alloc (Below.refl _ _) (Nat.le_refl _) _)) _ 2 2 [signT gPlus, numT 2] rfl (Rd.toks _ [signT gPlus, numT 2] _ 2 rfl rfl (by omega)) rfl (by (try have hbl := HlR.out); omega) ?_; intro v6 w6 ho6 hg6 hn6; generalize hG : R ++ [signT gPlus, numT 2] = H at ho6; obtain ⟨B2, d2, rfl, -, -⟩ := Own.rd ho6; have HH := Lib.hid hG; have HlH := Lib.hid (show H.length = R.length + 2 from (by rw [← hG, List.length_append]; rfl)); replace HN := Lib.hid (HN.out.swap.app (Below.alloc (Below.refl _ _) (Nat.le_refl _) _) ho6 hg6 hn6).swap; clear hG ho6 hg6 hn6))))
        go_round
        case rel => exact ⟨i + 1, A, c, L, B2, d2, H, by omega, by go_num, rfl, rfl, Lib.hid (HL.out), Lib.hid (by rw [← HH.out, HR.out]; exact rep_next _ _), Lib.hid (by have := HlL.out; omega), Lib.hid (by rw [HlH.out]; have := HlR.out; omega), HN⟩
        case measure => simp [intOf]; omega
      · have hki : ((kd : Int) % 6) = 3 := (by have := HK.out; omega)
        have HM1 := Lib.hid True.intro
        go_wp2_with (first | (go_at_call 21; go_must (refine (sign_any _ _).mono ?_); rintro e w3 ⟨rfl, hb3⟩; replace HN := Lib.hid (HN.out.move hb3); clear hb3) | (go_at_call 26; go_must (refine (word4_any _ _).mono ?_); rintro e w3 ⟨rfl, hb3⟩; replace HN := Lib.hid (HN.out.move hb3); clear hb3) | (go_at_call 23; go_must (refine (num_any _ _).mono ?_); rintro e w3 ⟨rfl, hb3⟩; replace HN := Lib.hid (HN.out.move hb3); clear hb3) | (at_builtin; go_must (first | (have hmk := HM1.out; clear HM1 hmk; refine wpList_appendT _ rfl _ _ rfl (.slice A L.length c) L rfl (Own.new HN.out.own (Below.alloc (Below.refl _ _) (Nat.le_refl _) _)) _ 1 1 [signT gLb] rfl (Rd.toks _ [signT gLb] _ 1 rfl rfl (by omega)) rfl (by (try have hbl := HlL.out); omega) ?_; intro v6 w6 ho6 hg6 hn6; generalize hG : L ++ [signT gLb] = G at ho6; obtain ⟨A2, c2, rfl, -, -⟩ := Own.rd ho6; have HG := Lib.hid hG; have HlG := Lib.hid (show G.length = L.length + 1 from (by rw [← hG, List.length_append]; rfl)); replace HN := Lib.hid (HN.out.app (Below.alloc (Below.refl _ _) (Nat.le_refl _) _) ho6 hg6 hn6); clear hG ho6 hg6 hn6) | (refine wpList_appendT _ rfl _ _ rfl (.slice B R.length d) R rfl (Own.new HN.out.own2 (Below.alloc (Below.refl _ _) (Nat.le_refl _) _)) _ 1 1 [signT gRb] rfl (Rd.toks _ [signT gRb] _ 1 rfl rfl (by omega)) rfl (by (try have hbl := HlR.out); omega) ?_; intro v6 w6 ho6 hg6 hn6; generalize hG : R ++ [signT gRb] = H at ho6; obtain ⟨B2, d2, rfl, -, -⟩ := Own.rd ho6; have HH := Lib.hid hG; have HlH := Lib.hid (show H.length = R.length + 1 from (by rw [← hG, List.length_append]; rfl)); replace HN := Lib.hid (HN.out.swap.app (Below.alloc (Below.refl _ _) (Nat.le_refl _) _) ho6 hg6 hn6).swap; clear hG ho6 hg6 hn6))))
        go_round
        case rel => exact ⟨i + 1, A2, c2, G, B2, d2, H, by omega, by go_num, rfl, rfl, Lib.hid (by rw [← HG.out, HL.out]; exact rep_next _ _), Lib.hid (by rw [← HH.out, HR.out]; exact rep_next _ _), Lib.hid (by rw [HlG.out]; have := HlL.out; omega), Lib.hid (by rw [HlH.out]; have := HlR.out; omega), HN⟩
        case measure => simp [intOf]; omega
      · have hki : ((kd : Int) % 6) = 4 := (by have := HK.out; omega)
        go_wp2_with (first | (go_at_call 21; go_must (refine (sign_any _ _).mono ?_); rintro e w3 ⟨rfl, hb3⟩; replace HN := Lib.hid (HN.out.move hb3); clear hb3) | (go_at_call 26; go_must (refine (word4_any _ _).mono ?_); rintro e w3 ⟨rfl, hb3⟩; replace HN := Lib.hid (HN.out.move hb3); clear hb3) | (go_at_call 23; go_must (refine (num_any _ _).mono ?_); rintro e w3 ⟨rfl, hb3⟩; replace HN := Lib.hid (HN.out.move hb3); clear hb3) | (at_builtin; go_must (first | (refine wpList_appendT _ rfl _ _ rfl (.slice B R.length d) R rfl (Own.new HN.out.own2 (Below.alloc (Below.refl _ _) (Nat.le_refl _) _)) _ 2 2 [signT gDot, wordT kA] rfl (Rd.toks _ [signT gDot, wordT kA] _ 2 rfl rfl (by omega)) rfl (by (try have hbl := HlR.out); omega) ?_; intro v6 w6 ho6 hg6 hn6; generalize hG : R ++ [signT gDot, wordT kA] = H at ho6; obtain ⟨B2, d2, rfl, -, -⟩ := Own.rd ho6; have HH := Lib.hid hG; have HlH := Lib.hid (show H.length = R.length + 2 from (by rw [← hG, List.length_append]; rfl)); replace HN := Lib.hid (HN.out.swap.app (Below.alloc (Below.refl _ _) (Nat.le_refl _) _) ho6 hg6 hn6).swap; clear hG ho6 hg6 hn6))))
        go_round
        case rel => exact ⟨i + 1, A, c, L, B2, d2, H, by omega, by go_num, rfl, rfl, Lib.hid (HL.out), Lib.hid (by rw [← HH.out, HR.out]; exact rep_next _ _), Lib.hid (by have := HlL.out; omega), Lib.hid (by rw [HlH.out]; have := HlR.out; omega), HN⟩
        case measure => simp [intOf]; omega
      · have hki : ((kd : Int) % 6) = 5 := (by have := HK.out; omega)
        go_wp2_with (first | (go_at_call 21; go_must (refine (sign_any _ _).mono ?_); rintro e w3 ⟨rfl, hb3⟩; replace HN := Lib.hid (HN.out.move hb3); clear hb3) | (go_at_call 26; go_must (refine (word4_any _ _).mono ?_); rintro e w3 ⟨rfl, hb3⟩; replace HN := Lib.hid (HN.out.move hb3); clear hb3) | (go_at_call 23; go_must (refine (num_any _ _).mono ?_); rintro e w3 ⟨rfl, hb3⟩; replace HN := Lib.hid (HN.out.move hb3); clear hb3) | (at_builtin; go_must (first | (refine wpList_appendT _ rfl _ _ rfl (.slice B R.length d) R rfl (Own.new HN.out.own2 (Below.alloc (Below.refl _ _) (Nat.le_refl _) _)) _ 2 2 [signT gLp, signT gRp] rfl (Rd.toks _ [signT gLp, signT gRp] _ 2 rfl rfl (by omega)) rfl (by (try have hbl := HlR.out); omega) ?_; intro v6 w6 ho6 hg6 hn6; generalize hG : R ++ [signT gLp, signT gRp] = H at ho6; obtain ⟨B2, d2, rfl, -, -⟩ := Own.rd ho6; have HH := Lib.hid hG; have HlH := Lib.hid (show H.length = R.length + 2 from (by rw [← hG, List.length_append]; rfl)); replace HN := Lib.hid (HN.out.swap.app (Below.alloc (Below.refl _ _) (Nat.le_refl _) _) ho6 hg6 hn6).swap; clear hG ho6 hg6 hn6))))
        go_round
        case rel => exact ⟨i + 1, A, c, L, B2, d2, H, by omega, by go_num, rfl, rfl, Lib.hid (HL.out), Lib.hid (by rw [← HH.out, HR.out]; exact rep_next _ _), Lib.hid (by have := HlL.out; omega), Lib.hid (by rw [HlH.out]; have := HlR.out; omega), HN⟩
        case measure => simp [intOf]; omega
    · obtain rfl : i = m := by omega
      obtain ⟨r, hr⟩ := exprE_start (deepL k i)
      have hok := HD.out k i (by omega) hm1 hm2
      unfold deepOk at hok
      rw [show parsed (deepL k i) = some r from hr] at hok
      simp only at hok
      obtain ⟨r2, hr2⟩ := exprE_start (roundL i)
      have hok2 := HRD.out i hm1 hm2
      unfold roundOk at hok2
      rw [show parsed (roundL i) = some r2 from hr2] at hok2
      simp only [Bool.and_eq_true, decide_eq_true_eq] at hok2
      obtain ⟨⟨h21, h22⟩, h23⟩ := hok2
      have hDL : deepL k i = L ++ [numT 1] ++ R := by unfold deepL; rw [HL.out, HR.out]
      have HR1 : Hid (parsed (L ++ [numT 1] ++ R) = some r) := Lib.hid (by rw [← hDL]; exact hr)
      have HSM : Hid (∀ t ∈ L ++ [numT 1] ++ R, t.s.size ≤ maxLen) := Lib.hid (by rw [HL.out, HR.out]; exact small_app (small_app (rep_all (dF_small k) i) (num_small 1)) (rep_all (dB_small k) i))
      have HR2 : Hid (parsed (roundL i) = some r2) := Lib.hid hr2
      rw [hDL] at hok
      obtain ⟨N, hN⟩ : ∃ N, nodeOf r = N := ⟨_, rfl⟩
      obtain ⟨U, hU⟩ : ∃ U, usedOf r = U := ⟨_, rfl⟩
      obtain ⟨E, hE⟩ : ∃ E, r.1.e = E := ⟨_, rfl⟩
      obtain ⟨tl, htl⟩ : ∃ tl, (treeOf r.1.ns).length = tl := ⟨_, rfl⟩
      obtain ⟨N2, hN2⟩ : ∃ N, nodeOf r2 = N := ⟨_, rfl⟩
      rw [hN, hU, hE, htl] at hok
      have HNo := Lib.hid hN
      have HUo := Lib.hid hU
      have HEo := Lib.hid hE
      have HTL := Lib.hid htl
      have HN2 := Lib.hid hN2
      have HE2 := Lib.hid h21
      have HU2 := Lib.hid h22
      have HT2 := Lib.hid h23
      have HOK := Lib.hid hok
      have HM1 := Lib.hid True.intro
      clear hr hr2 hok h21 h22 h23 hDL hN hU hE htl hN2
      go_upto_region 23 with (first | (go_at_call 21; go_must (refine (sign_any _ _).mono ?_); rintro e w3 ⟨rfl, hb3⟩; replace HN := Lib.hid (HN.out.move hb3); clear hb3) | (go_at_call 26; go_must (refine (word4_any _ _).mono ?_); rintro e w3 ⟨rfl, hb3⟩; replace HN := Lib.hid (HN.out.move hb3); clear hb3) | (go_at_call 23; go_must (refine (num_any _ _).mono ?_); rintro e w3 ⟨rfl, hb3⟩; replace HN := Lib.hid (HN.out.move hb3); clear hb3) | (at_builtin; go_must (first | (have hmk := HM1.out; clear HM1 hmk; refine wpList_appendT _ rfl _ _ rfl (.slice A L.length c) L rfl (Own.new HN.out.own (Below.alloc (Below.refl _ _) (Nat.le_refl _) _)) _ 1 1 [numT 1] rfl (Rd.toks _ [numT 1] _ 1 rfl rfl (by omega)) rfl (by (try have hbl := HlL.out); omega) ?_; intro v6 w6 ho6 hg6 hn6; generalize hG : L ++ [numT 1] = G at ho6; obtain ⟨A2, c2, rfl, -, -⟩ := Own.rd ho6; have HG := Lib.hid hG; have HlG := Lib.hid (show G.length = L.length + 1 from (by rw [← hG, List.length_append]; rfl)); replace HN := Lib.hid (HN.out.app (Below.alloc (Below.refl _ _) (Nat.le_refl _) _) ho6 hg6 hn6); clear hG ho6 hg6 hn6) | (refine wpList_appendT _ rfl _ _ rfl (.slice A2 G.length c2) G rfl HN.out.own _ R.length _ R rfl (OwnT.rd_ HN.out.own2) rfl (by have h1 := HlG.out; have h2 := HlL.out; have h3 := HlR.out; omega) ?_; intro v6 w6 ho6 hg6 hn6; generalize hG : G ++ R = D at ho6; obtain ⟨A3, c3, rfl, -, -⟩ := Own.rd ho6; have HDD := Lib.hid hG; have Hl10 := Lib.hid (show D.length ≤ 400 from (by rw [← hG, List.length_append]; have h1 := HlG.out; have h2 := HlL.out; have h3 := HlR.out; omega)); have H1 := HN.out.one.app (Below.refl _ _) ho6 hg6 hn6; clear HN; have HN := Lib.hid H1; clear H1 hG ho6 hg6 hn6))) | (go_at_call 16; have hb9 := HN.out.bel; go_must (refine (told_is (m := tl) (hm := HTL.out) (a := N) (b := U) (e := E) (by rw [← HDD.out, ← HG.out]; exact HR1.out) HNo.out HUo.out HEo.out rfl (OwnT.rd_ HN.out.own) (OwnT.old HN.out.own) rfl (by have := Hl10.out; omega) (by rw [← HDD.out, ← HG.out]; exact HSM.out) (HT.out.below hb9)).mono ?_); rintro e w8 ⟨A9, c9, rfl, hrn, hbn⟩; have HB := Lib.hid (hb9.trans (hbn.mono hb9.size)); clear hrn hbn hb9))
      have HB22 : Hid (Below w.heap.size w (w8.alloc (.cells #[.int .i64 N, .int .i64 U, .int .i64 E, .slice A9 tl c9] 31))) := Lib.hid (by have := HB.out; have hsz := HB.out.size; exact (by repeat (first | exact Below.refl _ _ | assumption | refine Below.setCell ?_ (by first | (simp; done) | (simp; omega) | omega) _ | refine below_drewN ?_ _ | refine Below.drew ?_ | refine Below.alloc ?_ (by first | (simp; done) | (simp; omega) | omega) _)))
      have HB11 : Hid (Blk (w8.alloc (.cells #[.int .i64 N, .int .i64 U, .int .i64 E, .slice A9 tl c9] 31)) w8.heap.size 31 #[.int .i64 N, .int .i64 U, .int .i64 E, .slice A9 tl c9]) := Lib.hid (Blk.new _ _ _)
      generalize w8.alloc (.cells #[.int .i64 N, .int .i64 U, .int .i64 E, .slice A9 tl c9] 31) = w22 at *
      have H0 : Hid (NewT w22 _ _ []) := Lib.hid (NewT.empty (Below.refl w22.heap.size w22))
      clear HN HB
      go_wp2_with fail
      go_loopw [12, 13] (fun v12 v13 wr => ∃ (j : Nat) (A : Option Addr) (c : Nat) (L : List TokD), j ≤ i ∧ v13 = .int .i64 j ∧ v12 = .slice A L.length c ∧ Hid (L = rep [signT gLp] j) ∧ Hid (L.length ≤ j) ∧ Hid (NewT w22 wr (.slice A L.length c) L)) (fun _ v13 _ => i - (intOf v13).toNat)
      case atStart => exact ⟨0, _, 0, [], Nat.zero_le _, rfl, rfl, Lib.hid rfl, Lib.hid (Nat.zero_le _), H0⟩
      case round =>
        obtain ⟨j, A4, c4, L4, hj, rfl, rfl, HL4, HlL4, HN⟩ := hrel
        clear H0
        by_cases hlj : j < i
        · go_wp2_with (first | (go_at_call 21; go_must (refine (sign_any _ _).mono ?_); rintro e w3 ⟨rfl, hb3⟩; replace HN := Lib.hid (HN.out.move hb3); clear hb3) | (go_at_call 26; go_must (refine (word4_any _ _).mono ?_); rintro e w3 ⟨rfl, hb3⟩; replace HN := Lib.hid (HN.out.move hb3); clear hb3) | (go_at_call 23; go_must (refine (num_any _ _).mono ?_); rintro e w3 ⟨rfl, hb3⟩; replace HN := Lib.hid (HN.out.move hb3); clear hb3) | (at_builtin; go_must (first | (refine wpList_appendT _ rfl _ _ rfl (.slice A4 L4.length c4) L4 rfl (Own.new HN.out.own (Below.alloc (Below.refl _ _) (Nat.le_refl _) _)) _ 1 1 [signT gLp] rfl (Rd.toks _ [signT gLp] _ 1 rfl rfl (by omega)) rfl (by (try have hbl := HlL4.out); omega) ?_; intro v6 w6 ho6 hg6 hn6; generalize hG : L4 ++ [signT gLp] = G4 at ho6; obtain ⟨A2, c2, rfl, -, -⟩ := Own.rd ho6; have HG4 := Lib.hid hG; have HlG4 := Lib.hid (show G4.length = L4.length + 1 from (by rw [← hG, List.length_append]; rfl)); replace HN := Lib.hid (HN.out.app (Below.alloc (Below.refl _ _) (Nat.le_refl _) _) ho6 hg6 hn6); clear hG ho6 hg6 hn6))))
          go_round
          case rel => exact ⟨j + 1, A2, c2, G4, by omega, by go_num, rfl, Lib.hid (by rw [← HG4.out, HL4.out]; exact rep_next _ _), Lib.hid (by rw [HlG4.out]; have := HlL4.out; omega), HN⟩
          case measure => simp [intOf]; omega
        · obtain rfl : j = i := by omega
          go_wp2_with (first | (go_at_call 21; go_must (refine (sign_any _ _).mono ?_); rintro e w3 ⟨rfl, hb3⟩; replace HN := Lib.hid (HN.out.move hb3); clear hb3) | (go_at_call 26; go_must (refine (word4_any _ _).mono ?_); rintro e w3 ⟨rfl, hb3⟩; replace HN := Lib.hid (HN.out.move hb3); clear hb3) | (go_at_call 23; go_must (refine (num_any _ _).mono ?_); rintro e w3 ⟨rfl, hb3⟩; replace HN := Lib.hid (HN.out.move hb3); clear hb3) | (at_builtin; go_must (first | (refine wpList_appendT _ rfl _ _ rfl (.slice A4 L4.length c4) L4 rfl (Own.new HN.out.own (Below.alloc (Below.refl _ _) (Nat.le_refl _) _)) _ 1 1 [numT 1] rfl (Rd.toks _ [numT 1] _ 1 rfl rfl (by omega)) rfl (by (try have hbl := HlL4.out); omega) ?_; intro v6 w6 ho6 hg6 hn6; generalize hG : L4 ++ [numT 1] = G5 at ho6; obtain ⟨A5, c5, rfl, -, -⟩ := Own.rd ho6; have HG5 := Lib.hid hG; have HlG5 := Lib.hid (show G5.length = L4.length + 1 from (by rw [← hG, List.length_append]; rfl)); replace HN := Lib.hid (HN.out.app (Below.alloc (Below.refl _ _) (Nat.le_refl _) _) ho6 hg6 hn6); clear hG ho6 hg6 hn6))))
          obtain ⟨wo, rfl⟩ : ∃ wo, wo = wr := ⟨_, rfl⟩
          go_loopw [12, 14] (fun v12 v14 wr => ∃ (q : Nat) (A : Option Addr) (c : Nat) (L : List TokD), q ≤ j ∧ v14 = .int .i64 q ∧ v12 = .slice A L.length c ∧ Hid (L = rep [signT gLp] j ++ [numT 1] ++ rep [signT gRp] q) ∧ Hid (L.length ≤ j + 1 + q) ∧ Hid (NewT w22 wr (.slice A L.length c) L)) (fun _ v14 _ => j - (intOf v14).toNat)
          case atStart => exact ⟨0, A5, c5, G5, Nat.zero_le _, rfl, rfl, Lib.hid (by rw [← HG5.out, HL4.out]; exact (List.append_nil _).symm), Lib.hid (by rw [HlG5.out]; have := HlL4.out; omega), HN⟩
          case round =>
            clear HN
            obtain ⟨q, A6, c6, X, hq, rfl, rfl, HX, HlX, HN⟩ := hrel
            by_cases hlq : q < j
            · go_wp2_with (first | (go_at_call 21; go_must (refine (sign_any _ _).mono ?_); rintro e w3 ⟨rfl, hb3⟩; replace HN := Lib.hid (HN.out.move hb3); clear hb3) | (go_at_call 26; go_must (refine (word4_any _ _).mono ?_); rintro e w3 ⟨rfl, hb3⟩; replace HN := Lib.hid (HN.out.move hb3); clear hb3) | (go_at_call 23; go_must (refine (num_any _ _).mono ?_); rintro e w3 ⟨rfl, hb3⟩; replace HN := Lib.hid (HN.out.move hb3); clear hb3) | (at_builtin; go_must (first | (refine wpList_appendT _ rfl _ _ rfl (.slice A6 X.length c6) X rfl (Own.new HN.out.own (Below.alloc (Below.refl _ _) (Nat.le_refl _) _)) _ 1 1 [signT gRp] rfl (Rd.toks _ [signT gRp] _ 1 rfl rfl (by omega)) rfl (by (try have hbl := HlX.out); omega) ?_; intro v6 w6 ho6 hg6 hn6; generalize hG : X ++ [signT gRp] = G6 at ho6; obtain ⟨A2, c2, rfl, -, -⟩ := Own.rd ho6; have HG6 := Lib.hid hG; have HlG6 := Lib.hid (show G6.length = X.length + 1 from (by rw [← hG, List.length_append]; rfl)); replace HN := Lib.hid (HN.out.app (Below.alloc (Below.refl _ _) (Nat.le_refl _) _) ho6 hg6 hn6); clear hG ho6 hg6 hn6))))
              go_round
              case rel => exact ⟨q + 1, A2, c2, G6, by omega, by go_num, rfl, Lib.hid (by rw [← HG6.out, HX.out, List.append_assoc, rep_next]), Lib.hid (by rw [HlG6.out]; have := HlX.out; omega), HN⟩
              case measure => simp [intOf]; omega
            · obtain rfl : q = j := by omega
              have HXX : Hid (X = roundL q) := Lib.hid HX.out
              have HSX : Hid (∀ t ∈ X, t.s.size ≤ maxLen) := Lib.hid (by rw [HX.out]; exact small_app (small_app (rep_all (signs_small _ (by decide)) q) (num_small 1)) (rep_all (signs_small _ (by decide)) q))
              go_upto_region 35 with (go_at_call 16; have hb9 := HN.out.bel; go_must (refine (told_is (m := 1) (hm := HT2.out) (a := N2) (b := (X.length : Int)) (e := 0) (by rw [HXX.out]; exact HR2.out) HN2.out (HU2.out.trans (by rw [HXX.out])) HE2.out rfl (OwnT.rd_ HN.out.own) (OwnT.old HN.out.own) rfl (by have := HlX.out; omega) HSX.out (HT.out.below (HB22.out.trans (hb9.mono HB22.out.size)))).mono ?_); rintro e w8 ⟨A9, c9, rfl, hrn, hbn⟩; have hbw : Below w22.heap.size w22 w8 := hb9.trans (hbn.mono hb9.size); have hg5 := HB11.out.bel hbw; have g0 := hg5.cell 0; have g1 := hg5.cell 1; have g2 := hg5.cell 2; have g3 := hg5.cell 3; have glt := hg5.lt; simp only [List.getElem?_toArray, List.getElem?_cons_zero, List.getElem?_cons_succ] at g0 g1 g2 g3; clear hg5; have HB := Lib.hid (HB22.out.trans (hbw.mono HB22.out.size)); clear hrn hbn hb9 hbw)
              have hok := HOK.out
              have hDL : (L ++ [numT 1] ++ R).length = D.length := by rw [← HDD.out, ← HG.out]
              rw [hDL] at hok
              have hlL : L.length ≤ 160 := by have := HlL.out; omega
              by_cases h40 : q < 40
              · rw [if_pos h40] at hok
                simp only [Bool.and_eq_true, decide_eq_true_eq] at hok
                obtain ⟨⟨hE, hU⟩, hlt2⟩ := hok
                have d40 : decide ((q : Int) < 40) = true := decide_eq_true (by omega)
                have dtl : decide (q < tl) = true := decide_eq_true hlt2
                subst hE hU
                clear h40 hlt2 hDL
                go_wp2_with fail
                go_ret
                exact ⟨rfl, by have := HB.out; have hsz := HB.out.size; exact (by repeat (first | exact Below.refl _ _ | assumption | refine Below.setCell ?_ (by first | (simp; done) | (simp; omega) | omega) _ | refine below_drewN ?_ _ | refine Below.drew ?_ | refine Below.alloc ?_ (by first | (simp; done) | (simp; omega) | omega) _))⟩
              · rw [if_neg h40] at hok
                simp only [Bool.and_eq_true, decide_eq_true_eq] at hok
                obtain ⟨⟨hE, hU⟩, hN⟩ := hok
                have d40 : decide ((q : Int) < 40) = false := decide_eq_false (by omega)
                subst hE hN
                clear h40 hDL
                go_upto_region 38 with fail
                rcases hk6 with rfl | rfl | rfl | rfl | rfl | rfl
                · have hki : ((kd : Int) % 6) = 0 := (by have := HK.out; omega)
                  have hU2 : U = (L.length : Int) + 1 := by rw [hU, HL.out]; unfold deepAt; simp
                  subst hU2
                  clear hU
                  go_wp2_with fail
                  go_ret
                  exact ⟨rfl, by have := HB.out; have hsz := HB.out.size; exact (by repeat (first | exact Below.refl _ _ | assumption | refine Below.setCell ?_ (by first | (simp; done) | (simp; omega) | omega) _ | refine below_drewN ?_ _ | refine Below.drew ?_ | refine Below.alloc ?_ (by first | (simp; done) | (simp; omega) | omega) _))⟩
                · have hki : ((kd : Int) % 6) = 1 := (by have := HK.out; omega)
                  have hU2 : U = (L.length : Int) + 1 := by rw [hU, HL.out]; unfold deepAt; simp
                  subst hU2
                  clear hU
                  go_wp2_with fail
                  go_ret
                  exact ⟨rfl, by have := HB.out; have hsz := HB.out.size; exact (by repeat (first | exact Below.refl _ _ | assumption | refine Below.setCell ?_ (by first | (simp; done) | (simp; omega) | omega) _ | refine below_drewN ?_ _ | refine Below.drew ?_ | refine Below.alloc ?_ (by first | (simp; done) | (simp; omega) | omega) _))⟩
                · have hki : ((kd : Int) % 6) = 2 := (by have := HK.out; omega)
                  have hU2 : U = 81 := by rw [hU]; rfl
                  subst hU2
                  clear hU
                  go_wp2_with fail
                  go_ret
                  exact ⟨rfl, by have := HB.out; have hsz := HB.out.size; exact (by repeat (first | exact Below.refl _ _ | assumption | refine Below.setCell ?_ (by first | (simp; done) | (simp; omega) | omega) _ | refine below_drewN ?_ _ | refine Below.drew ?_ | refine Below.alloc ?_ (by first | (simp; done) | (simp; omega) | omega) _))⟩
                · have hki : ((kd : Int) % 6) = 3 := (by have := HK.out; omega)
                  have hU2 : U = (L.length : Int) + 1 + 40 := by rw [hU, HL.out]; unfold deepAt; simp
                  subst hU2
                  clear hU
                  go_wp2_with fail
                  go_ret
                  exact ⟨rfl, by have := HB.out; have hsz := HB.out.size; exact (by repeat (first | exact Below.refl _ _ | assumption | refine Below.setCell ?_ (by first | (simp; done) | (simp; omega) | omega) _ | refine below_drewN ?_ _ | refine Below.drew ?_ | refine Below.alloc ?_ (by first | (simp; done) | (simp; omega) | omega) _))⟩
                · have hki : ((kd : Int) % 6) = 4 := (by have := HK.out; omega)
                  have hU2 : U = 81 := by rw [hU]; rfl
                  subst hU2
                  clear hU
                  go_wp2_with fail
                  go_ret
                  exact ⟨rfl, by have := HB.out; have hsz := HB.out.size; exact (by repeat (first | exact Below.refl _ _ | assumption | refine Below.setCell ?_ (by first | (simp; done) | (simp; omega) | omega) _ | refine below_drewN ?_ _ | refine Below.drew ?_ | refine Below.alloc ?_ (by first | (simp; done) | (simp; omega) | omega) _))⟩
                · have hki : ((kd : Int) % 6) = 5 := (by have := HK.out; omega)
                  have hU2 : U = 81 := by rw [hU]; rfl
                  subst hU2
                  clear hU
                  go_wp2_with fail
                  go_ret
                  exact ⟨rfl, by have := HB.out; have hsz := HB.out.size; exact (by repeat (first | exact Below.refl _ _ | assumption | refine Below.setCell ?_ (by first | (simp; done) | (simp; omega) | omega) _ | refine below_drewN ?_ _ | refine Below.drew ?_ | refine Below.alloc ?_ (by first | (simp; done) | (simp; omega) | omega) _))⟩
end Go.Proofs.YtjdcicopjipmnaaDoor
