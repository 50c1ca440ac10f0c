/- need. -/
import Derived.Test.YtjdcicopjipmnaaDoorTke
namespace Go.Proofs.YtjdcicopjipmnaaDoor
open Go.RowKit
set_option linter.unusedVariables false
set_option linter.unusedSimpArgs false
set_option maxRecDepth 100000 in
set_option maxHeartbeats 2000000 in
theorem need_any {w : World} {pb bb mb n c : Nat} {A : Option Addr} {s : PS} {L : List TokD} (hP : Blk w pb 98 (pcs bb (.slice A n c) mb s)) (hL : Rd w A n c 4 (L.flatMap tcs)) (hn : L.length = n) (t : ByteArray) (ht : t.size ≤ maxLen) (hs : s.at_ + 1 ≤ 9223372036854775807) (htab : Asp w) :
    Calls Tryd.prog 81 #[.pointer (some ⟨pb, 0, none⟩), .string t] w fun e w' => e = .returned (.tuple #[]) ∧ Blk w' pb 98 (pcs bb (.slice A n c) mb (needP L t s)) ∧ Mod (· = pb) w w' := by
  have K := Lib.hid (take_any hP hL hn t ht hs htab)
  unfold needP
  generalize takeP L t s = R at *
  obtain ⟨s1, y⟩ := R
  simp only at K ⊢
  clear hP hL htab
  cases y with
  | true =>
    go_enter Tryd.func81, Tryd.ntmps81
    go_wp2_with (go_at_call 77; refine K.out.mono ?_; rintro e w1 ⟨rfl, hp, hm⟩; have HP := Lib.hid hp; have HM := Lib.hid hm; clear hp hm)
    go_end0
    exact ⟨rfl, HP.out, HM.out⟩
  | false =>
    go_enter Tryd.func81, Tryd.ntmps81
    go_wp2_with (first | (go_at_call 77; refine K.out.mono ?_; rintro e w1 ⟨rfl, hp, hm⟩; have c2 := hp.cell 2; have hlt := hp.lt; have HP := Lib.hid hp; have HM := Lib.hid hm; simp only [pcs, List.getElem?_toArray, List.getElem?_cons_zero, List.getElem?_cons_succ] at c2; clear hp hm) | (go_at_call 96; refine (fail_any HP.out 30 _).mono ?_; rintro e w2 ⟨rfl, hp, hm⟩; have HP2 := Lib.hid hp; have HM2 := Lib.hid hm; clear hp hm))
    go_end0
    exact ⟨rfl, HP2.out, Mod.trans HM.out HM2.out fun _ _ h => h⟩
end Go.Proofs.YtjdcicopjipmnaaDoor
