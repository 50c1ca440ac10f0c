/- CodeBack, CodeOne: the walks. -/
import Derived.Test.YtcfelfhjhkenaaaDoorLUn
namespace Go.Proofs.YtcfelfhjhkenaaaDoor
open Go.RowKit
set_option linter.unusedVariables false
set_option linter.unusedSimpArgs false
attribute [local go_sem] Oper.semAt_some

set_option maxRecDepth 100000 in
set_option maxHeartbeats 4000000 in
theorem back_any {w : World} (ht : Tabs w) {A : Option Addr} {n c : Nat} {p : List CodeD} (hp : ProgAt w A n c p) (op : ∀ x ∈ p, x.Ok) :
    Calls Tryd.prog 8 #[.slice A n c] w (True_ w) := by
  have HT := Lib.hid ht
  have HP := Lib.hid hp
  have OP := Lib.hid op
  clear ht hp op
  go_enter Tryd.func8, Tryd.ntmps8
  go_wp2_with fail
  refine (encode_in w HP.out).mono ?_
  rintro e w1 ⟨⟨s, x, rfl, hr1⟩, hb1⟩
  have R1 := Lib.hid hr1
  have B1 := Lib.hid hb1
  clear hr1 hb1
  go_wp2_with fail
  rcases Classical.em (bigP p) with bp | bp
  · refine (big_yes (HP.out.new B1.out) bp).mono ?_
    rintro e w3 ⟨rfl, hb3⟩
    have B3 := Lib.hid (B1.out.trans (hb3.mono B1.out.size))
    have BP := Lib.hid bp
    clear hb3 bp
    go_wp2_with fail
    refine (laid_any w3 (HT.out.below B3.out)).mono ?_
    rintro e w4 ⟨rfl, hb4⟩
    have B4 := Lib.hid (B3.out.trans (hb4.mono B3.out.size))
    clear hb4
    cases he : s.toList.isEmpty with
    | true =>
      go_wp2_with fail
      go_ret
      exact ⟨rfl, B4.out⟩
    | false =>
      go_wp2_with fail
      refine (big_yes (HP.out.new B4.out) BP.out).mono ?_
      rintro e w5 ⟨rfl, hb5⟩
      have B5 := Lib.hid (B4.out.trans (hb5.mono B4.out.size))
      clear hb5
      go_wp2_with fail
      go_ret
      exact ⟨rfl, B5.out⟩
  refine (big_no (HP.out.new B1.out) bp).mono ?_
  rintro e w3 ⟨rfl, hb3⟩
  have B3 := Lib.hid (B1.out.trans (hb3.mono B1.out.size))
  clear hb3 bp
  by_cases hx : x = 0
  · subst hx
    obtain ⟨a, ea, rfl⟩ : ∃ a, encE p = .ok a ∧ s = bstr a := by
      rcases R1.out with ⟨a, h1, h2, _⟩ | ⟨z, _, _, h3, h4⟩
      · exact ⟨a, h1, h2⟩
      · exact absurd h3.symm h4
    have KD : Hid (∀ w, Calls Tryd.prog 22 #[.string (bstr a)] w fun e w' => (∃ A n c, e = .returned (.tuple #[.slice A n c, .int .i64 0]) ∧ ProgAt w' A n c p) ∧ Below w.heap.size w w') := Lib.hid fun w => (decode_any w _).mono fun e w' ⟨h1, h2⟩ => by
      rw [bstr_list, dec_back OP.out ea] at h2
      exact ⟨h2, h1⟩
    clear ea R1
    go_wp2_with fail
    refine (KD.out _).mono ?_
    rintro e w4 ⟨⟨A4, n4, c4, rfl, hp4⟩, hb4⟩
    have B4 := Lib.hid (B3.out.trans (hb4.mono B3.out.size))
    have HQ4 := Lib.hid hp4
    clear hb4 hp4
    go_wp2_with fail
    refine (laid_any w4 (HT.out.below B4.out)).mono ?_
    rintro e w5 ⟨rfl, hb5⟩
    have B5 := Lib.hid (B4.out.trans (hb5.mono B4.out.size))
    have HQ5 := Lib.hid (HQ4.out.new hb5)
    clear hb5
    go_wp2_with fail
    refine (same_yes (HP.out.new B5.out) HQ5.out rfl).mono ?_
    rintro e w6 ⟨rfl, hb6⟩
    have B6 := Lib.hid (B5.out.trans (hb6.mono B5.out.size))
    clear hb6
    go_wp2_with fail
    go_ret
    exact ⟨rfl, B6.out⟩
  · have hs : s = ⟨#[]⟩ := by
      rcases R1.out with ⟨a, _, _, h3⟩ | ⟨z, _, h2, _, _⟩
      · exact absurd h3 hx
      · exact h2
    subst hs
    have hx1 : (x == 0) = false := by simpa using hx
    have hx2 : (x != 0) = true := by simpa using hx
    clear R1
    go_wp2_with fail
    refine (laid_any w3 (HT.out.below B3.out)).mono ?_
    rintro e w5 ⟨rfl, hb5⟩
    have B5 := Lib.hid (B3.out.trans (hb5.mono B3.out.size))
    clear hb5
    go_wp2_with fail
    go_ret
    exact ⟨rfl, B5.out⟩

set_option maxRecDepth 100000 in
set_option maxHeartbeats 4000000 in
theorem one_any {w : World} (ht : Tabs w) (s : ByteArray) : Calls Tryd.prog 9 #[.string s] w (True_ w) := by
  have HT := Lib.hid ht
  clear ht
  by_cases hs : 200000 < s.size
  · have h1 : decide (200000 < s.size) = true := decide_eq_true hs
    have h2 : decide ((200000 : Int) < (s.size : Int)) = true := decide_eq_true (by omega)
    go_enter Tryd.func9, Tryd.ntmps9
    go_wp2_with fail
    go_ret
    exact ⟨rfl, Below.refl _ _⟩
  have h1 : decide (200000 < s.size) = false := decide_eq_false hs
  have h2 : decide ((200000 : Int) < (s.size : Int)) = false := decide_eq_false (by omega)
  cases hd : decE s.data.toList with
  | error y =>
    have KD : Hid (∀ w, Calls Tryd.prog 22 #[.string s] w fun e w' => e = .returned (.tuple #[.slice none 0 0, .int .i64 y]) ∧ Below w.heap.size w w') := Lib.hid fun w => (decode_any w _).mono fun e w' ⟨h1, h2⟩ => by
      rw [hd] at h2
      exact ⟨h2, h1⟩
    have hy := dec_err hd
    clear hd hs
    rcases hy with rfl | rfl
    iterate 2
      · go_enter Tryd.func9, Tryd.ntmps9
        go_wp2_with fail
        refine (KD.out _).mono ?_
        rintro e w1 ⟨rfl, hb1⟩
        have B1 := Lib.hid hb1
        clear hb1
        go_wp2_with fail
        refine (laid_any w1 (HT.out.below B1.out)).mono ?_
        rintro e w2 ⟨rfl, hb2⟩
        have B2 := Lib.hid (B1.out.trans (hb2.mono B1.out.size))
        clear hb2
        go_wp2_with fail
        go_ret
        exact ⟨rfl, B2.out⟩
  | ok p =>
    have KD : Hid (∀ w, Calls Tryd.prog 22 #[.string s] w fun e w' => (∃ A n c, e = .returned (.tuple #[.slice A n c, .int .i64 0]) ∧ ProgAt w' A n c p) ∧ Below w.heap.size w w') := Lib.hid fun w => (decode_any w _).mono fun e w' ⟨h1, h2⟩ => by
      rw [hd] at h2
      exact ⟨h2, h1⟩
    have KE : Hid (∀ w A n c, ProgAt w A n c p → Calls Tryd.prog 11 #[.slice A n c] w fun e w' => e = .returned (.tuple #[.string s, .int .i64 0]) ∧ Below w.heap.size w w') := Lib.hid fun w A n c h => (encode_any w h).mono fun e w' ⟨h1, h2⟩ => ⟨by
      rw [h2, (dec_inv hd).2]
      simp only [bstr_data], h1⟩
    clear hd hs
    go_enter Tryd.func9, Tryd.ntmps9
    go_wp2_with fail
    refine (KD.out _).mono ?_
    rintro e w1 ⟨⟨A1, n1, c1, rfl, hp1⟩, hb1⟩
    have B1 := Lib.hid hb1
    have HP1 := Lib.hid hp1
    clear hb1 hp1
    go_wp2_with fail
    refine (KE.out _ _ _ _ HP1.out).mono ?_
    rintro e w2 ⟨rfl, hb2⟩
    have B2 := Lib.hid (B1.out.trans (hb2.mono B1.out.size))
    clear hb2
    go_wp2_with fail
    refine (laid_any w2 (HT.out.below B2.out)).mono ?_
    rintro e w3 ⟨rfl, hb3⟩
    have B3 := Lib.hid (B2.out.trans (hb3.mono B2.out.size))
    clear hb3
    go_wp2_with fail
    go_ret
    exact ⟨rfl, B3.out⟩
end Go.Proofs.YtcfelfhjhkenaaaDoor
