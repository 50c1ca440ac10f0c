/- CodeTexts: the walk. -/
import Derived.Test.YtcfelfhjhkenaaaDoorRTe
namespace Go.Proofs.YtcfelfhjhkenaaaDoor
open Go.RowKit
set_option linter.unusedVariables false
set_option linter.unusedSimpArgs false
attribute [local go_sem] Oper.semAt_some

set_option maxRecDepth 100000 in
set_option maxHeartbeats 4000000 in
theorem texts_any {w : World} (ht : Tabs w) {A : Option Addr} {n c : Nat} {p : List CodeD} (hp : ProgAt w A n c p) (hn : ∀ x ∈ p, x.Num) (hl : (textT p).length ≤ 140737488355328) :
    Calls Tryd.prog 6 #[.slice A n c] w (True_ w) := by
  have HT := Lib.hid ht
  have HP := Lib.hid hp
  have HN := Lib.hid hn
  have HL := Lib.hid hl
  clear ht hp hn hl
  go_enter Tryd.func6, Tryd.ntmps6
  go_wp2_with fail
  rcases Classical.em (bigP p) with bp | bp
  · refine (big_yes HP.out bp).mono ?_
    rintro e w3 ⟨rfl, hb3⟩
    have B3 := Lib.hid hb3
    clear hb3
    go_wp2_with fail
    go_ret
    exact ⟨rfl, B3.out⟩
  have hn1 : n ≤ 9223372036854775806 := by
    have := HP.out.1
    unfold bigP at bp
    omega
  refine (big_no HP.out bp).mono ?_
  rintro e w1 ⟨rfl, hb1⟩
  have B1 := Lib.hid hb1
  have HN1 := Lib.hid hn1
  clear hb1 hn1 bp
  go_wp2_with fail
  refine (laid_any w1 (HT.out.below B1.out)).mono ?_
  rintro e w2 ⟨rfl, hb2⟩
  have B2 := Lib.hid (B1.out.trans (hb2.mono B1.out.size))
  clear hb2 B1
  go_wp2_with fail
  refine (text_prog w2 (HT.out.below B2.out) (HP.out.new B2.out) HN.out HL.out HN1.out).mono ?_
  rintro e w3 ⟨rfl, hb3⟩
  have B3 := Lib.hid (B2.out.trans (hb3.mono B2.out.size))
  clear hb3 B2
  go_wp2_with fail
  refine (rtext_prog w3 (HP.out.new B3.out) HN.out HL.out HN1.out).mono ?_
  rintro e w4 ⟨rfl, hb4⟩
  have B4 := Lib.hid (B3.out.trans (hb4.mono B3.out.size))
  clear hb4 B3
  generalize bstr (textT p) = T at *
  go_wp2_with fail
  go_ret
  exact ⟨rfl, B4.out⟩
end Go.Proofs.YtcfelfhjhkenaaaDoor
