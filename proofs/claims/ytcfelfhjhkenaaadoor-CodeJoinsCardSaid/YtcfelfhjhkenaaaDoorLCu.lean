/- CodeCuts: the walk. -/
import Derived.Test.YtcfelfhjhkenaaaDoorLUn
namespace Go.Proofs.YtcfelfhjhkenaaaDoor
open Go.RowKit
set_option linter.unusedVariables false
set_option linter.unusedSimpArgs false
attribute [local go_sem] Oper.semAt_some

theorem encE_len {p : List CodeD} {a : List UInt8} (h : encE p = .ok a) : 7 ≤ a.length ∧ a.length ≤ 1900000000011 := by
  obtain ⟨a1, a2, h1, h2, rfl⟩ := andE_ok.1 h
  cases h1
  obtain ⟨a3, a4, h3, h4, rfl⟩ := andE_ok.1 h2
  have l3 := countE_len h3
  have l4 := seqE_len codeE_len h4
  have hp : p.length ≤ 1000 := by have := l3.2; omega
  have l5 : p.length * 1900000000 ≤ 1000 * 1900000000 := Nat.mul_le_mul_right _ hp
  have h6 : a3.length ≠ 0 := by
    intro h0
    have := (cntB_ok (cnt_count h3)).2.2
    rw [List.eq_nil_of_length_eq_zero h0] at this
    exact numB_ne _ this.symm
  have h7 : headB.length = 6 := rfl
  simp only [List.length_append]
  omega
set_option maxRecDepth 100000 in
set_option maxHeartbeats 4000000 in
theorem cuts_any {w : World} (ht : Tabs w) {A : Option Addr} {n c : Nat} {p : List CodeD} (hp : ProgAt w A n c p) (op : ∀ x ∈ p, x.Ok) (k : Int) (more : ByteArray) :
    Calls Tryd.prog 10 #[.slice A n c, .int .i64 k, .string more] w (True_ w) := by
  have HT := Lib.hid ht
  have HP := Lib.hid hp
  have OP := Lib.hid op
  clear ht hp op
  go_enter Tryd.func10, Tryd.ntmps10
  go_wp2_with fail
  refine (encode_in w HP.out).mono ?_
  rintro e w1 ⟨⟨s, x, rfl, hr1⟩, hb1⟩
  have R1 := Lib.hid hr1
  have B1 := Lib.hid hb1
  clear hr1 hb1
  go_wp2_with fail
  rcases Classical.em (bigP p) with bp | bp
  · refine (big_yes (HP.out.new B1.out) bp).mono ?_
    rintro e w3 ⟨rfl, hb3⟩
    have B3 := Lib.hid (B1.out.trans (hb3.mono B1.out.size))
    clear hb3 bp
    go_wp2_with fail
    refine (laid_any w3 (HT.out.below B3.out)).mono ?_
    rintro e w4 ⟨rfl, hb4⟩
    have B4 := Lib.hid (B3.out.trans (hb4.mono B3.out.size))
    clear hb4
    go_wp2_with fail
    go_ret
    exact ⟨rfl, B4.out⟩
  refine (big_no (HP.out.new B1.out) bp).mono ?_
  rintro e w3 ⟨rfl, hb3⟩
  have B3 := Lib.hid (B1.out.trans (hb3.mono B1.out.size))
  clear hb3 bp
  by_cases hx : x = 0
  · subst hx
    by_cases hk : k < 0
    · have hk1 : decide (k < 0) = true := decide_eq_true hk
      go_wp2_with fail
      refine (laid_any w3 (HT.out.below B3.out)).mono ?_
      rintro e w4 ⟨rfl, hb4⟩
      have B4 := Lib.hid (B3.out.trans (hb4.mono B3.out.size))
      clear hb4
      go_wp2_with fail
      go_ret
      exact ⟨rfl, B4.out⟩
    · have hk1 : decide (k < 0) = false := decide_eq_false hk
      obtain ⟨j, rfl⟩ : ∃ j : Nat, k = j := ⟨k.toNat, by omega⟩
      by_cases hj : s.size ≤ j
      · have hj1 : decide (s.size ≤ j) = true := decide_eq_true hj
        have hj2 : decide ((s.size : Int) ≤ (j : Int)) = true := decide_eq_true (by omega)
        go_wp2_with fail
        refine (laid_any w3 (HT.out.below B3.out)).mono ?_
        rintro e w4 ⟨rfl, hb4⟩
        have B4 := Lib.hid (B3.out.trans (hb4.mono B3.out.size))
        clear hb4
        go_wp2_with fail
        go_ret
        exact ⟨rfl, B4.out⟩
      · have hj1 : decide (s.size ≤ j) = false := decide_eq_false hj
        have hj2 : decide ((s.size : Int) ≤ (j : Int)) = false := decide_eq_false (by omega)
        cases he : more.toList.isEmpty with
        | true =>
          go_wp2_with fail
          refine (laid_any w3 (HT.out.below B3.out)).mono ?_
          rintro e w4 ⟨rfl, hb4⟩
          have B4 := Lib.hid (B3.out.trans (hb4.mono B3.out.size))
          clear hb4
          go_wp2_with fail
          go_ret
          exact ⟨rfl, B4.out⟩
        | false =>
          by_cases hm : 1000 < more.size
          · have hm1 : decide (1000 < more.size) = true := decide_eq_true hm
            have hm2 : decide ((1000 : Int) < (more.size : Int)) = true := decide_eq_true (by omega)
            go_wp2_with fail
            refine (laid_any w3 (HT.out.below B3.out)).mono ?_
            rintro e w4 ⟨rfl, hb4⟩
            have B4 := Lib.hid (B3.out.trans (hb4.mono B3.out.size))
            clear hb4
            go_wp2_with fail
            go_ret
            exact ⟨rfl, B4.out⟩
          · have hm1 : decide (1000 < more.size) = false := decide_eq_false hm
            have hm2 : decide ((1000 : Int) < (more.size : Int)) = false := decide_eq_false (by omega)
            obtain ⟨a, ea, hs⟩ : ∃ a, encE p = .ok a ∧ s = bstr a := by
              rcases R1.out with ⟨a, h1, h2, _⟩ | ⟨z, _, _, h3, h4⟩
              · exact ⟨a, h1, h2⟩
              · exact absurd h3.symm h4
            have hal := encE_len ea
            have hsz : s.size = a.length := by rw [hs, bstr_size]
            have K1 : Hid (∀ w, Calls Tryd.prog 22 #[.string (s.extract 0 j)] w fun e w' => e = .returned (.tuple #[.slice none 0 0, .int .i64 50]) ∧ Below w.heap.size w w') := Lib.hid fun w => (decode_any w _).mono fun e w' ⟨h1, h2⟩ => by
              rw [hs, extract_lo, bstr_list, dec_cut (d := a.drop j) OP.out ea (List.take_append_drop j a).symm (by
                intro h0
                have := congrArg List.length h0
                rw [List.length_drop] at this
                simp at this
                omega)] at h2
              exact ⟨h2, h1⟩
            have K2 : Hid (∀ w, Calls Tryd.prog 22 #[.string (s ++ more)] w fun e w' => e = .returned (.tuple #[.slice none 0 0, .int .i64 50]) ∧ Below w.heap.size w w') := Lib.hid fun w => (decode_any w _).mono fun e w' ⟨h1, h2⟩ => by
              have e1 : (s ++ more).data.toList = a ++ more.data.toList := by rw [hs]; simp [ByteArray.data_append, bstr]
              rw [e1, dec_more OP.out ea (by
                intro h0
                rw [ByteArray.toList_eq, h0] at he
                cases he)] at h2
              exact ⟨h2, h1⟩
            have hsum : ¬ 9223372036854775807 < s.size + more.size := by omega
            clear ea hs hal R1
            go_wp2_with fail
            refine (K1.out _).mono ?_
            rintro e w4 ⟨rfl, hb4⟩
            have B4 := Lib.hid (B3.out.trans (hb4.mono B3.out.size))
            clear hb4
            go_wp2_with fail
            refine (K2.out _).mono ?_
            rintro e w5 ⟨rfl, hb5⟩
            have B5 := Lib.hid (B4.out.trans (hb5.mono B4.out.size))
            clear hb5
            go_wp2_with fail
            refine (laid_any w5 (HT.out.below B5.out)).mono ?_
            rintro e w6 ⟨rfl, hb6⟩
            have B6 := Lib.hid (B5.out.trans (hb6.mono B5.out.size))
            clear hb6
            go_wp2_with fail
            go_ret
            exact ⟨rfl, B6.out⟩
  · have hx1 : (x == 0) = false := by simpa using hx
    have hx2 : (x != 0) = true := by simpa using hx
    go_wp2_with fail
    refine (laid_any w3 (HT.out.below B3.out)).mono ?_
    rintro e w4 ⟨rfl, hb4⟩
    have B4 := Lib.hid (B3.out.trans (hb4.mono B3.out.size))
    clear hb4
    go_wp2_with fail
    go_ret
    exact ⟨rfl, B4.out⟩
end Go.Proofs.YtcfelfhjhkenaaaDoor
