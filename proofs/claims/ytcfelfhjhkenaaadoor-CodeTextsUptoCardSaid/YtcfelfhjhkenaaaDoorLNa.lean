/- CodeNames: the reference's Name and Jumps, and the walk. -/
import Derived.Test.YtcfelfhjhkenaaaDoorLUn
namespace Go.Proofs.YtcfelfhjhkenaaaDoor
open Go.RowKit
set_option linter.unusedVariables false
set_option linter.unusedSimpArgs false
attribute [local go_sem] Oper.semAt_some

/-- names() -/
def namesC : Array Value := (([] :: wordsL).map fun l => Value.string ⟨l.toArray⟩).toArray
set_option maxRecDepth 100000 in
set_option maxHeartbeats 1000000 in
theorem names_any (w : World) : Calls Tryd.prog 35 #[] w fun e w' => e = .returned (.slice (some ⟨w.heap.size, 0, none⟩) 57 57) ∧ w' = w.alloc (.cells namesC 9) := by
  go_enter Tryd.func35, Tryd.ntmps35
  go_wp2_with fail
  go_ret
  exact ⟨rfl, rfl⟩
set_option maxRecDepth 100000 in
set_option maxHeartbeats 1000000 in
theorem rname_any (op : Int) (w : World) : Calls Tryd.prog 19 #[.int .i64 op] w fun e w' => e = .returned (.string ⟨(nameB op).toArray⟩) ∧ Below w.heap.size w w' := by
  by_cases h : 1 ≤ op ∧ op < 57
  · obtain ⟨i, rfl⟩ : ∃ i : Nat, op = (i : Int) + 1 := ⟨(op - 1).toNat, by omega⟩
    have hi : i < 56 := by omega
    have hn : nameB ((i : Int) + 1) = wordsL.getD i [] := by
      rw [nameB, if_pos h]
      congr 1
      omega
    have hx : wordsL[i]? = some (wordsL.getD i []) := by
      have : i < wordsL.length := by rw [words_len]; exact hi
      rw [List.getD_eq_getElem?_getD, List.getElem?_eq_getElem this]; rfl
    rw [hn]
    have hc : (w.alloc (.cells namesC 9)).cell? ⟨w.heap.size, i + 1, none⟩ = some (.string ⟨(wordsL.getD i []).toArray⟩) := by
      rw [(Blk.new w 9 _).cell]
      rw [namesC, List.getElem?_toArray, List.map_cons, List.getElem?_cons_succ, List.getElem?_map, hx]; rfl
    have hb : Below w.heap.size w (w.alloc (.cells namesC 9)) := alloc_below w _
    have hz : w.heap.size < (w.alloc (.cells namesC 9)).heap.size := alloc_lt w _
    have HC := Lib.hid (And.intro hc (And.intro hb hz))
    clear hc hb hz hx hn h
    generalize wordsL.getD i [] = N at *
    have h0 : decide ((i : Int) + 1 < 1) = false := decide_eq_false (by omega)
    have h1 : decide ((56 : Int) < (i : Int) + 1) = false := decide_eq_false (by omega)
    go_enter Tryd.func19, Tryd.ntmps19
    go_wp2_with fail
    refine (names_any w).mono ?_
    rintro e w1 ⟨rfl, rfl⟩
    obtain ⟨hc, hb, hz⟩ := HC.out
    have HB := Lib.hid hb
    clear hb HC
    generalize w.alloc (.cells namesC 9) = W1 at *
    go_wp2_with fail
    go_ret
    exact ⟨rfl, HB.out⟩
  · have hn : nameB op = [] := if_neg h
    rw [hn]
    clear hn
    by_cases h0 : op < 1
    · have h1 : decide (op < 1) = true := decide_eq_true h0
      go_enter Tryd.func19, Tryd.ntmps19
      go_wp2_with fail
      go_ret
      exact ⟨rfl, Below.refl _ _⟩
    · have h1 : decide (op < 1) = false := decide_eq_false h0
      have h2 : decide ((56 : Int) < op) = true := decide_eq_true (by omega)
      go_enter Tryd.func19, Tryd.ntmps19
      go_wp2_with fail
      go_ret
      exact ⟨rfl, Below.refl _ _⟩
set_option maxRecDepth 100000 in
set_option maxHeartbeats 1000000 in
theorem rjumps_any (op : Int) (w : World) : Calls Tryd.prog 21 #[.int .i64 op] w fun e w' => e = .returned (.bool (jumpsB op)) ∧ w' = w := by
  have hcase : op = 36 ∨ op = 37 ∨ op = 38 ∨ op = 39 ∨ op = 40 ∨ op = 42 ∨ op = 47 ∨ (op ≠ 36 ∧ op ≠ 37 ∧ op ≠ 38 ∧ op ≠ 39 ∧ op ≠ 40 ∧ op ≠ 42 ∧ op ≠ 47) := by omega
  rcases hcase with rfl | rfl | rfl | rfl | rfl | rfl | rfl | ⟨h1, h2, h3, h4, h5, h6, h7⟩
  iterate 7
    · go_enter Tryd.func21, Tryd.ntmps21
      go_wp2_with fail
      go_ret
      exact ⟨rfl, rfl⟩
  have hj : jumpsB op = false := by simp [jumpsB, h1, h2, h3, h4, h5, h6, h7]
  rw [hj]
  have g6 : (op == 42) = false := by simpa using h6
  have g7 : (op == 47) = false := by simpa using h7
  by_cases ha : 36 ≤ op
  · have a1 : decide ((36 : Int) ≤ op) = true := decide_eq_true ha
    have a2 : decide (op ≤ 40) = false := decide_eq_false (by omega)
    clear hj h1 h2 h3 h4 h5 h6 h7
    go_enter Tryd.func21, Tryd.ntmps21
    go_wp2_with fail
    go_ret
    exact ⟨rfl, rfl⟩
  · have a1 : decide ((36 : Int) ≤ op) = false := decide_eq_false ha
    clear hj h1 h2 h3 h4 h5 h6 h7
    go_enter Tryd.func21, Tryd.ntmps21
    go_wp2_with fail
    go_ret
    exact ⟨rfl, rfl⟩
theorem words_nodup : wordsL.Pairwise (· ≠ ·) := by decide +kernel
theorem words_full : ∀ l ∈ wordsL, l ≠ [] := by decide +kernel
theorem nameB_in {op : Int} (h : 1 ≤ op ∧ op < 57) : ∃ i : Nat, op = i + 1 ∧ ∃ hi : i < wordsL.length, nameB op = wordsL[i] := by
  refine ⟨(op - 1).toNat, by omega, by rw [words_len]; omega, ?_⟩
  rw [nameB, if_pos h, List.getD_eq_getElem?_getD, List.getElem?_eq_getElem (by rw [words_len]; omega)]
  rfl
theorem nameB_full {op : Int} (h : 1 ≤ op ∧ op < 57) : nameB op ≠ [] := by
  obtain ⟨i, _, hi, e⟩ := nameB_in h
  rw [e]
  exact words_full _ (List.getElem_mem hi)
theorem nameB_out {op : Int} (h : ¬ (1 ≤ op ∧ op < 57)) : nameB op = [] := if_neg h
theorem nameB_inj {op other : Int} (h : 1 ≤ op ∧ op < 57) (he : nameB op = nameB other) : op = other := by
  by_cases h2 : 1 ≤ other ∧ other < 57
  · obtain ⟨i, rfl, hi, e⟩ := nameB_in h
    obtain ⟨j, rfl, hj, f⟩ := nameB_in h2
    rw [e, f] at he
    rcases Nat.lt_trichotomy i j with hij | rfl | hij
    · exact absurd he (List.pairwise_iff_getElem.1 words_nodup i j hi hj hij)
    · rfl
    · exact absurd he.symm (List.pairwise_iff_getElem.1 words_nodup j i hj hi hij)
  · rw [nameB_out h2] at he
    exact absurd he (nameB_full h)
/-- two names, as the tests ask them -/
theorem str_ne {a b : List UInt8} (h : a ≠ b) : ((⟨a.toArray⟩ : ByteArray).toList == (⟨b.toArray⟩ : ByteArray).toList) = false := by
  rw [ByteArray.toList_eq, ByteArray.toList_eq]
  simpa using h
set_option maxRecDepth 100000 in
set_option maxHeartbeats 4000000 in
theorem lnames_any {w : World} (ht : Tabs w) (op other : Int) : Calls Tryd.prog 7 #[.int .i64 op, .int .i64 other] w (True_ w) := by
  have HT := Lib.hid ht
  clear ht
  obtain ⟨j, hj⟩ : ∃ j, j = jumpsB op := ⟨_, rfl⟩
  have KJ : Hid (∀ w', Calls Tryd.prog 20 #[.int .i64 op] w' fun e w'' => e = .returned (.bool j) ∧ w'' = w') := Lib.hid fun w' => by rw [hj]; exact jumps_any op w'
  have KQ : Hid (∀ w', Calls Tryd.prog 21 #[.int .i64 op] w' fun e w'' => e = .returned (.bool j) ∧ w'' = w') := Lib.hid fun w' => by rw [hj]; exact rjumps_any op w'
  clear hj
  by_cases hr : 1 ≤ op ∧ op < 57
  · obtain ⟨n0, hn⟩ : ∃ n0 : ByteArray, n0 = ⟨(nameB op).toArray⟩ := ⟨_, rfl⟩
    have r1 : decide ((1 : Int) ≤ op) = true := decide_eq_true hr.1
    have r2 : decide (op < 57) = true := decide_eq_true hr.2
    have hE : n0.toList.isEmpty = false := by
      rw [hn, ByteArray.toList_eq, List.isEmpty_eq_false_iff]
      simpa using nameB_full hr
    have KN : Hid (∀ w', Below w.heap.size w w' → Calls Tryd.prog 18 #[.int .i64 op] w' fun e w'' => e = .returned (.string n0) ∧ Below w'.heap.size w' w'') := Lib.hid fun w' hb => by rw [hn]; exact name_any op w' (HT.out.below hb).1
    have KR : Hid (∀ w', Below w.heap.size w w' → Calls Tryd.prog 19 #[.int .i64 op] w' fun e w'' => e = .returned (.string n0) ∧ Below w'.heap.size w' w'') := Lib.hid fun w' hb => by rw [hn]; exact rname_any op w'
    by_cases ho : op = other
    · subst ho
      clear hn hr
      go_enter Tryd.func7, Tryd.ntmps7
      go_wp2_with fail
      refine (KN.out _ (Below.refl _ _)).mono ?_
      rintro e w1 ⟨rfl, hb⟩
      have B1 := Lib.hid hb
      clear hb
      go_wp2_with fail
      refine (KR.out _ B1.out).mono ?_
      rintro e w2 ⟨rfl, hb⟩
      have B2 := Lib.hid (B1.out.trans (hb.mono B1.out.size))
      clear hb
      go_wp2_with fail
      refine (KJ.out _).mono ?_
      rintro e w2a ⟨rfl, rfl⟩
      go_wp2_with fail
      refine (KQ.out _).mono ?_
      rintro e w2b ⟨rfl, rfl⟩
      go_wp2_with fail
      refine (laid_any _ (HT.out.below B2.out)).mono ?_
      rintro e w3 ⟨rfl, hb⟩
      have B3 := Lib.hid (B2.out.trans (hb.mono B2.out.size))
      clear hb
      go_wp2_with fail
      refine (KN.out _ B3.out).mono ?_
      rintro e w4 ⟨rfl, hb⟩
      have B4 := Lib.hid (B3.out.trans (hb.mono B3.out.size))
      clear hb
      go_wp2_with fail
      refine (KN.out _ B4.out).mono ?_
      rintro e w5 ⟨rfl, hb⟩
      have B5 := Lib.hid (B4.out.trans (hb.mono B4.out.size))
      clear hb
      go_wp2_with fail
      refine (KN.out _ B5.out).mono ?_
      rintro e w6 ⟨rfl, hb⟩
      have B6 := Lib.hid (B5.out.trans (hb.mono B5.out.size))
      clear hb
      go_wp2_with fail
      go_ret
      exact ⟨rfl, B6.out⟩
    · obtain ⟨m0, hm⟩ : ∃ m0 : ByteArray, m0 = ⟨(nameB other).toArray⟩ := ⟨_, rfl⟩
      have KM : Hid (∀ w', Below w.heap.size w w' → Calls Tryd.prog 18 #[.int .i64 other] w' fun e w'' => e = .returned (.string m0) ∧ Below w'.heap.size w' w'') := Lib.hid fun w' hb => by rw [hm]; exact name_any other w' (HT.out.below hb).1
      have e1 : (n0.toList == m0.toList) = false := by
        rw [hn, hm]
        exact str_ne fun h => ho (nameB_inj hr h)
      have e2 : (n0.toList != m0.toList) = true := by rw [bne, e1]; rfl
      clear hn hm hr
      go_enter Tryd.func7, Tryd.ntmps7
      go_wp2_with fail
      refine (KN.out _ (Below.refl _ _)).mono ?_
      rintro e w1 ⟨rfl, hb⟩
      have B1 := Lib.hid hb
      clear hb
      go_wp2_with fail
      refine (KR.out _ B1.out).mono ?_
      rintro e w2 ⟨rfl, hb⟩
      have B2 := Lib.hid (B1.out.trans (hb.mono B1.out.size))
      clear hb
      go_wp2_with fail
      refine (KJ.out _).mono ?_
      rintro e w2a ⟨rfl, rfl⟩
      go_wp2_with fail
      refine (KQ.out _).mono ?_
      rintro e w2b ⟨rfl, rfl⟩
      go_wp2_with fail
      refine (laid_any _ (HT.out.below B2.out)).mono ?_
      rintro e w3 ⟨rfl, hb⟩
      have B3 := Lib.hid (B2.out.trans (hb.mono B2.out.size))
      clear hb
      go_wp2_with fail
      refine (KN.out _ B3.out).mono ?_
      rintro e w4 ⟨rfl, hb⟩
      have B4 := Lib.hid (B3.out.trans (hb.mono B3.out.size))
      clear hb
      go_wp2_with fail
      refine (KM.out _ B4.out).mono ?_
      rintro e w5 ⟨rfl, hb⟩
      have B5 := Lib.hid (B4.out.trans (hb.mono B4.out.size))
      clear hb
      go_wp2_with fail
      refine (KN.out _ B5.out).mono ?_
      rintro e w6 ⟨rfl, hb⟩
      have B6 := Lib.hid (B5.out.trans (hb.mono B5.out.size))
      clear hb
      go_wp2_with fail
      go_ret
      exact ⟨rfl, B6.out⟩
  · have hn := nameB_out hr
    have KN : Hid (∀ w', Below w.heap.size w w' → Calls Tryd.prog 18 #[.int .i64 op] w' fun e w'' => e = .returned (.string (⟨#[]⟩ : ByteArray)) ∧ Below w'.heap.size w' w'') := Lib.hid fun w' hb => by
      have := name_any op w' (HT.out.below hb).1
      rw [hn] at this
      exact this
    have KR : Hid (∀ w', Below w.heap.size w w' → Calls Tryd.prog 19 #[.int .i64 op] w' fun e w'' => e = .returned (.string (⟨#[]⟩ : ByteArray)) ∧ Below w'.heap.size w' w'') := Lib.hid fun w' hb => by
      have := rname_any op w'
      rw [hn] at this
      exact this
    have hr2 : op < 1 ∨ (1 ≤ op ∧ 57 ≤ op) := by omega
    by_cases hm : nameB other = []
    · have KM : Hid (∀ w', Below w.heap.size w w' → Calls Tryd.prog 18 #[.int .i64 other] w' fun e w'' => e = .returned (.string (⟨#[]⟩ : ByteArray)) ∧ Below w'.heap.size w' w'') := Lib.hid fun w' hb => by
        have := name_any other w' (HT.out.below hb).1
        rw [hm] at this
        exact this
      clear hn hm hr
      by_cases ho : op = other
      · subst ho
        clear KM
        rcases hr2 with h1 | ⟨h1, h2⟩
        · have r1 : decide ((1 : Int) ≤ op) = false := decide_eq_false (by omega)
          clear h1
          go_enter Tryd.func7, Tryd.ntmps7
          go_wp2_with fail
          refine (KN.out _ (Below.refl _ _)).mono ?_
          rintro e w1 ⟨rfl, hb⟩
          have B1 := Lib.hid hb
          clear hb
          go_wp2_with fail
          refine (KR.out _ B1.out).mono ?_
          rintro e w2 ⟨rfl, hb⟩
          have B2 := Lib.hid (B1.out.trans (hb.mono B1.out.size))
          clear hb
          go_wp2_with fail
          refine (KJ.out _).mono ?_
          rintro e w2a ⟨rfl, rfl⟩
          go_wp2_with fail
          refine (KQ.out _).mono ?_
          rintro e w2b ⟨rfl, rfl⟩
          go_wp2_with fail
          refine (laid_any _ (HT.out.below B2.out)).mono ?_
          rintro e w3 ⟨rfl, hb⟩
          have B3 := Lib.hid (B2.out.trans (hb.mono B2.out.size))
          clear hb
          go_wp2_with fail
          refine (KN.out _ B3.out).mono ?_
          rintro e w4 ⟨rfl, hb⟩
          have B4 := Lib.hid (B3.out.trans (hb.mono B3.out.size))
          clear hb
          go_wp2_with fail
          refine (KN.out _ B4.out).mono ?_
          rintro e w5 ⟨rfl, hb⟩
          have B5 := Lib.hid (B4.out.trans (hb.mono B4.out.size))
          clear hb
          go_wp2_with fail
          refine (KN.out _ B5.out).mono ?_
          rintro e w6 ⟨rfl, hb⟩
          have B6 := Lib.hid (B5.out.trans (hb.mono B5.out.size))
          clear hb
          go_wp2_with fail
          go_ret
          exact ⟨rfl, B6.out⟩
        · have r1 : decide ((1 : Int) ≤ op) = true := decide_eq_true h1
          have r2 : decide (op < 57) = false := decide_eq_false (by omega)
          clear h1 h2
          go_enter Tryd.func7, Tryd.ntmps7
          go_wp2_with fail
          refine (KN.out _ (Below.refl _ _)).mono ?_
          rintro e w1 ⟨rfl, hb⟩
          have B1 := Lib.hid hb
          clear hb
          go_wp2_with fail
          refine (KR.out _ B1.out).mono ?_
          rintro e w2 ⟨rfl, hb⟩
          have B2 := Lib.hid (B1.out.trans (hb.mono B1.out.size))
          clear hb
          go_wp2_with fail
          refine (KJ.out _).mono ?_
          rintro e w2a ⟨rfl, rfl⟩
          go_wp2_with fail
          refine (KQ.out _).mono ?_
          rintro e w2b ⟨rfl, rfl⟩
          go_wp2_with fail
          refine (laid_any _ (HT.out.below B2.out)).mono ?_
          rintro e w3 ⟨rfl, hb⟩
          have B3 := Lib.hid (B2.out.trans (hb.mono B2.out.size))
          clear hb
          go_wp2_with fail
          refine (KN.out _ B3.out).mono ?_
          rintro e w4 ⟨rfl, hb⟩
          have B4 := Lib.hid (B3.out.trans (hb.mono B3.out.size))
          clear hb
          go_wp2_with fail
          refine (KN.out _ B4.out).mono ?_
          rintro e w5 ⟨rfl, hb⟩
          have B5 := Lib.hid (B4.out.trans (hb.mono B4.out.size))
          clear hb
          go_wp2_with fail
          refine (KN.out _ B5.out).mono ?_
          rintro e w6 ⟨rfl, hb⟩
          have B6 := Lib.hid (B5.out.trans (hb.mono B5.out.size))
          clear hb
          go_wp2_with fail
          go_ret
          exact ⟨rfl, B6.out⟩
      · have o1 : (op == other) = false := by simpa using ho
        have o2 : (op != other) = true := by simpa using ho
        rcases hr2 with h1 | ⟨h1, h2⟩
        · have r1 : decide ((1 : Int) ≤ op) = false := decide_eq_false (by omega)
          clear h1
          go_enter Tryd.func7, Tryd.ntmps7
          go_wp2_with fail
          refine (KN.out _ (Below.refl _ _)).mono ?_
          rintro e w1 ⟨rfl, hb⟩
          have B1 := Lib.hid hb
          clear hb
          go_wp2_with fail
          refine (KR.out _ B1.out).mono ?_
          rintro e w2 ⟨rfl, hb⟩
          have B2 := Lib.hid (B1.out.trans (hb.mono B1.out.size))
          clear hb
          go_wp2_with fail
          refine (KJ.out _).mono ?_
          rintro e w2a ⟨rfl, rfl⟩
          go_wp2_with fail
          refine (KQ.out _).mono ?_
          rintro e w2b ⟨rfl, rfl⟩
          go_wp2_with fail
          refine (laid_any _ (HT.out.below B2.out)).mono ?_
          rintro e w3 ⟨rfl, hb⟩
          have B3 := Lib.hid (B2.out.trans (hb.mono B2.out.size))
          clear hb
          go_wp2_with fail
          refine (KN.out _ B3.out).mono ?_
          rintro e w4 ⟨rfl, hb⟩
          have B4 := Lib.hid (B3.out.trans (hb.mono B3.out.size))
          clear hb
          go_wp2_with fail
          refine (KM.out _ B4.out).mono ?_
          rintro e w5 ⟨rfl, hb⟩
          have B5 := Lib.hid (B4.out.trans (hb.mono B4.out.size))
          clear hb
          go_wp2_with fail
          refine (KN.out _ B5.out).mono ?_
          rintro e w6 ⟨rfl, hb⟩
          have B6 := Lib.hid (B5.out.trans (hb.mono B5.out.size))
          clear hb
          go_wp2_with fail
          refine (KN.out _ B6.out).mono ?_
          rintro e w7 ⟨rfl, hb⟩
          have B7 := Lib.hid (B6.out.trans (hb.mono B6.out.size))
          clear hb
          go_wp2_with fail
          go_ret
          exact ⟨rfl, B7.out⟩
        · have r1 : decide ((1 : Int) ≤ op) = true := decide_eq_true h1
          have r2 : decide (op < 57) = false := decide_eq_false (by omega)
          clear h1 h2
          go_enter Tryd.func7, Tryd.ntmps7
          go_wp2_with fail
          refine (KN.out _ (Below.refl _ _)).mono ?_
          rintro e w1 ⟨rfl, hb⟩
          have B1 := Lib.hid hb
          clear hb
          go_wp2_with fail
          refine (KR.out _ B1.out).mono ?_
          rintro e w2 ⟨rfl, hb⟩
          have B2 := Lib.hid (B1.out.trans (hb.mono B1.out.size))
          clear hb
          go_wp2_with fail
          refine (KJ.out _).mono ?_
          rintro e w2a ⟨rfl, rfl⟩
          go_wp2_with fail
          refine (KQ.out _).mono ?_
          rintro e w2b ⟨rfl, rfl⟩
          go_wp2_with fail
          refine (laid_any _ (HT.out.below B2.out)).mono ?_
          rintro e w3 ⟨rfl, hb⟩
          have B3 := Lib.hid (B2.out.trans (hb.mono B2.out.size))
          clear hb
          go_wp2_with fail
          refine (KN.out _ B3.out).mono ?_
          rintro e w4 ⟨rfl, hb⟩
          have B4 := Lib.hid (B3.out.trans (hb.mono B3.out.size))
          clear hb
          go_wp2_with fail
          refine (KM.out _ B4.out).mono ?_
          rintro e w5 ⟨rfl, hb⟩
          have B5 := Lib.hid (B4.out.trans (hb.mono B4.out.size))
          clear hb
          go_wp2_with fail
          refine (KN.out _ B5.out).mono ?_
          rintro e w6 ⟨rfl, hb⟩
          have B6 := Lib.hid (B5.out.trans (hb.mono B5.out.size))
          clear hb
          go_wp2_with fail
          refine (KN.out _ B6.out).mono ?_
          rintro e w7 ⟨rfl, hb⟩
          have B7 := Lib.hid (B6.out.trans (hb.mono B6.out.size))
          clear hb
          go_wp2_with fail
          go_ret
          exact ⟨rfl, B7.out⟩
    · obtain ⟨m0, hm0⟩ : ∃ m0 : ByteArray, m0 = ⟨(nameB other).toArray⟩ := ⟨_, rfl⟩
      have hE : m0.toList.isEmpty = false := by
        rw [hm0, ByteArray.toList_eq, List.isEmpty_eq_false_iff]
        simpa using hm
      have KM : Hid (∀ w', Below w.heap.size w w' → Calls Tryd.prog 18 #[.int .i64 other] w' fun e w'' => e = .returned (.string m0) ∧ Below w'.heap.size w' w'') := Lib.hid fun w' hb => by rw [hm0]; exact name_any other w' (HT.out.below hb).1
      have e1 : (([] : List UInt8) == m0.toList) = false := by
        cases h : m0.toList with
        | nil => rw [h] at hE; cases hE
        | cons => rfl
      have e2 : (([] : List UInt8) != m0.toList) = true := by rw [bne, e1]; rfl
      clear hn hm hm0 hr
      rcases hr2 with h1 | ⟨h1, h2⟩
      · have r1 : decide ((1 : Int) ≤ op) = false := decide_eq_false (by omega)
        clear h1
        go_enter Tryd.func7, Tryd.ntmps7
        go_wp2_with fail
        refine (KN.out _ (Below.refl _ _)).mono ?_
        rintro e w1 ⟨rfl, hb⟩
        have B1 := Lib.hid hb
        clear hb
        go_wp2_with fail
        refine (KR.out _ B1.out).mono ?_
        rintro e w2 ⟨rfl, hb⟩
        have B2 := Lib.hid (B1.out.trans (hb.mono B1.out.size))
        clear hb
        go_wp2_with fail
        refine (KJ.out _).mono ?_
        rintro e w2a ⟨rfl, rfl⟩
        go_wp2_with fail
        refine (KQ.out _).mono ?_
        rintro e w2b ⟨rfl, rfl⟩
        go_wp2_with fail
        refine (laid_any _ (HT.out.below B2.out)).mono ?_
        rintro e w3 ⟨rfl, hb⟩
        have B3 := Lib.hid (B2.out.trans (hb.mono B2.out.size))
        clear hb
        go_wp2_with fail
        refine (KN.out _ B3.out).mono ?_
        rintro e w4 ⟨rfl, hb⟩
        have B4 := Lib.hid (B3.out.trans (hb.mono B3.out.size))
        clear hb
        go_wp2_with fail
        refine (KM.out _ B4.out).mono ?_
        rintro e w5 ⟨rfl, hb⟩
        have B5 := Lib.hid (B4.out.trans (hb.mono B4.out.size))
        clear hb
        go_wp2_with fail
        refine (KN.out _ B5.out).mono ?_
        rintro e w6 ⟨rfl, hb⟩
        have B6 := Lib.hid (B5.out.trans (hb.mono B5.out.size))
        clear hb
        go_wp2_with fail
        go_ret
        exact ⟨rfl, B6.out⟩
      · have r1 : decide ((1 : Int) ≤ op) = true := decide_eq_true h1
        have r2 : decide (op < 57) = false := decide_eq_false (by omega)
        clear h1 h2
        go_enter Tryd.func7, Tryd.ntmps7
        go_wp2_with fail
        refine (KN.out _ (Below.refl _ _)).mono ?_
        rintro e w1 ⟨rfl, hb⟩
        have B1 := Lib.hid hb
        clear hb
        go_wp2_with fail
        refine (KR.out _ B1.out).mono ?_
        rintro e w2 ⟨rfl, hb⟩
        have B2 := Lib.hid (B1.out.trans (hb.mono B1.out.size))
        clear hb
        go_wp2_with fail
        refine (KJ.out _).mono ?_
        rintro e w2a ⟨rfl, rfl⟩
        go_wp2_with fail
        refine (KQ.out _).mono ?_
        rintro e w2b ⟨rfl, rfl⟩
        go_wp2_with fail
        refine (laid_any _ (HT.out.below B2.out)).mono ?_
        rintro e w3 ⟨rfl, hb⟩
        have B3 := Lib.hid (B2.out.trans (hb.mono B2.out.size))
        clear hb
        go_wp2_with fail
        refine (KN.out _ B3.out).mono ?_
        rintro e w4 ⟨rfl, hb⟩
        have B4 := Lib.hid (B3.out.trans (hb.mono B3.out.size))
        clear hb
        go_wp2_with fail
        refine (KM.out _ B4.out).mono ?_
        rintro e w5 ⟨rfl, hb⟩
        have B5 := Lib.hid (B4.out.trans (hb.mono B4.out.size))
        clear hb
        go_wp2_with fail
        refine (KN.out _ B5.out).mono ?_
        rintro e w6 ⟨rfl, hb⟩
        have B6 := Lib.hid (B5.out.trans (hb.mono B5.out.size))
        clear hb
        go_wp2_with fail
        go_ret
        exact ⟨rfl, B6.out⟩
end Go.Proofs.YtcfelfhjhkenaaaDoor
