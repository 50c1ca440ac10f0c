/- CodeEncodes: the walk. -/
import Derived.Test.YtcfelfhjhkenaaaDoorREn
namespace Go.Proofs.YtcfelfhjhkenaaaDoor
open Go.RowKit
set_option linter.unusedVariables false
set_option linter.unusedSimpArgs false
attribute [local go_sem] Oper.semAt_some

theorem rencode_in (w : World) {A : Option Addr} {n c : Nat} {p : List CodeD} (h : ProgAt w A n c p) :
    Calls Tryd.prog 15 #[.slice A n c] w fun e w' => (∃ s x, e = .returned (.tuple #[.string s, .int .i64 x]) ∧ EncR p s x) ∧ Below w.heap.size w w' := by
  refine (rencode_any w h).mono fun e w' ⟨hb, he⟩ => ⟨?_, hb⟩
  cases hx : encE p with
  | ok bs => rw [hx] at he; exact ⟨_, _, he, .inl ⟨bs, hx, rfl, rfl⟩⟩
  | error y => rw [hx] at he; exact ⟨_, _, he, .inr ⟨y, hx, rfl, rfl, by rcases err_enc p y hx with rfl | rfl <;> decide⟩⟩
theorem EncR.same {p : List CodeD} {s t : ByteArray} {x y : Int} (h : EncR p s x) (k : EncR p t y) : t = s ∧ y = x := by
  rcases h with ⟨a, h1, rfl, rfl⟩ | ⟨a, h1, rfl, rfl, _⟩ <;> rcases k with ⟨b, k1, rfl, rfl⟩ | ⟨b, k1, rfl, rfl, _⟩ <;> rw [h1] at k1 <;> cases k1
  · exact ⟨rfl, rfl⟩
  · exact ⟨rfl, rfl⟩
set_option maxRecDepth 100000 in
set_option maxHeartbeats 4000000 in
theorem encodes_any {w : World} (ht : Tabs w) {A : Option Addr} {n c : Nat} {p : List CodeD} (hp : ProgAt w A n c p) :
    Calls Tryd.prog 5 #[.slice A n c] w (True_ w) := by
  have HT := Lib.hid ht
  have HP := Lib.hid hp
  clear ht hp
  go_enter Tryd.func5, Tryd.ntmps5
  go_wp2_with fail
  rcases Classical.em (bigP p) with bp | bp
  · refine (big_yes HP.out bp).mono ?_
    rintro e w3 ⟨rfl, hb3⟩
    have B3 := Lib.hid hb3
    clear hb3
    go_wp2_with fail
    go_ret
    exact ⟨rfl, B3.out⟩
  refine (big_no HP.out bp).mono ?_
  rintro e w1 ⟨rfl, hb1⟩
  have B1 := Lib.hid hb1
  clear hb1
  go_wp2_with fail
  refine (encode_in w1 (HP.out.new B1.out)).mono ?_
  rintro e w2 ⟨⟨s, x, rfl, hr1⟩, hb2⟩
  have R1 := Lib.hid hr1
  have B2 := Lib.hid (B1.out.trans (hb2.mono B1.out.size))
  clear hr1 hb2 B1
  go_wp2_with fail
  refine (rencode_in w2 (HP.out.new B2.out)).mono ?_
  rintro e w3 ⟨⟨t, y, rfl, hr2⟩, hb3⟩
  obtain ⟨rfl, rfl⟩ := R1.out.same hr2
  have B3 := Lib.hid (B2.out.trans (hb3.mono B2.out.size))
  clear hr2 hb3 B2 R1
  go_wp2_with fail
  refine (laid_any w3 (HT.out.below B3.out)).mono ?_
  rintro e w4 ⟨rfl, hb4⟩
  have B4 := Lib.hid (B3.out.trans (hb4.mono B3.out.size))
  clear hb4
  go_wp2_with fail
  go_ret
  exact ⟨rfl, B4.out⟩
end Go.Proofs.YtcfelfhjhkenaaaDoor
