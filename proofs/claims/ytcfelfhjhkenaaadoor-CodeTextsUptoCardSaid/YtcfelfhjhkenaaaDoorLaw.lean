/- laid: the walk. -/
import Derived.Test.YtcfelfhjhkenaaaDoorLai
import Derived.Test.YtcfelfhjhkenaaaDoorSme
namespace Go.Proofs.YtcfelfhjhkenaaaDoor
open Go.RowKit
set_option linter.unusedVariables false
set_option linter.unusedSimpArgs false
attribute [local go_sem] Oper.semAt_some

theorem name_rot : (⟨(nameB 46).toArray⟩ : ByteArray) = ⟨#[114, 111, 116]⟩ := by kernel_rfl
theorem name_none : (⟨(nameB 0).toArray⟩ : ByteArray) = ⟨#[]⟩ := by kernel_rfl
set_option maxRecDepth 100000 in
set_option maxHeartbeats 4000000 in
theorem laid_any (w : World) (ht : Tabs w) : Calls Tryd.prog 13 #[] w fun e w' => e = .returned (.bool true) ∧ Below w.heap.size w w' := by
  have HT := Lib.hid ht
  clear ht
  have KE : Hid (∀ w A, ProgAt w A 1 1 [plainD] → Calls Tryd.prog 11 #[.slice A 1 1] w fun e w' => e = .returned (.tuple #[.string ⟨#[75, 82, 65, 73, 84, 49, 1, 1, 109, 1, 0, 0, 0, 0, 0, 0, 0, 1, 2, 0, 0, 0, 0, 0, 0, 0, 5, 2, 1, 0, 52, 0]⟩, .int .i64 0]) ∧ Below w.heap.size w w') := Lib.hid fun w A h => (encode_any w h).mono fun e w' ⟨h1, h2⟩ => ⟨by rw [h2, enc_plain]; rfl, h1⟩
  have KD : Hid (∀ w, Calls Tryd.prog 22 #[.string ⟨#[75, 82, 65, 73, 84, 49, 1, 1, 109, 1, 0, 0, 0, 0, 0, 0, 0, 1, 2, 0, 0, 0, 0, 0, 0, 0, 5, 2, 1, 0, 52, 0]⟩] w fun e w' => (∃ A n c, e = .returned (.tuple #[.slice A n c, .int .i64 0]) ∧ ProgAt w' A n c [plainD]) ∧ Below w.heap.size w w') := Lib.hid fun w => (decode_any w _).mono fun e w' ⟨h1, h2⟩ => by
    have e1 : (⟨#[75, 82, 65, 73, 84, 49, 1, 1, 109, 1, 0, 0, 0, 0, 0, 0, 0, 1, 2, 0, 0, 0, 0, 0, 0, 0, 5, 2, 1, 0, 52, 0]⟩ : ByteArray).data.toList = plainB := rfl
    rw [e1, dec_plain] at h2
    exact ⟨h2, h1⟩
  have KD2 : Hid (∀ w, Calls Tryd.prog 22 #[.string (⟨#[75, 82, 65, 73, 84, 49, 1, 1, 109, 1, 0, 0, 0, 0, 0, 0, 0, 1, 2, 0, 0, 0, 0, 0, 0, 0, 5, 2, 1, 0, 52, 0]⟩ ++ ⟨#[120]⟩)] w fun e w' => e = .returned (.tuple #[.slice none 0 0, .int .i64 50]) ∧ Below w.heap.size w w') := Lib.hid fun w => (decode_any w _).mono fun e w' ⟨h1, h2⟩ => by
    have e1 : ((⟨#[75, 82, 65, 73, 84, 49, 1, 1, 109, 1, 0, 0, 0, 0, 0, 0, 0, 1, 2, 0, 0, 0, 0, 0, 0, 0, 5, 2, 1, 0, 52, 0]⟩ : ByteArray) ++ ⟨#[120]⟩).data.toList = plainB ++ [120] := by simp [ByteArray.data_append, plainB]
    rw [e1, dec_plus] at h2
    exact ⟨h2, h1⟩
  have KB : Hid (∀ w A, ProgAt w A 1 1 [badD] → Calls Tryd.prog 11 #[.slice A 1 1] w fun e w' => e = .returned (.tuple #[.string ⟨#[]⟩, .int .i64 1]) ∧ Below w.heap.size w w') := Lib.hid fun w A h => (encode_any w h).mono fun e w' ⟨h1, h2⟩ => ⟨by rw [h2, enc_bad], h1⟩
  have KM : Hid (∀ w, Calls Tryd.prog 22 #[.string ⟨#[75, 82, 65, 73, 84, 49, 233, 7]⟩] w fun e w' => e = .returned (.tuple #[.slice none 0 0, .int .i64 2]) ∧ Below w.heap.size w w') := Lib.hid fun w => (decode_any w _).mono fun e w' ⟨h1, h2⟩ => by
    have e1 : (⟨#[75, 82, 65, 73, 84, 49, 233, 7]⟩ : ByteArray).data.toList = [75, 82, 65, 73, 84, 49, 233, 7] := rfl
    rw [e1, dec_many] at h2
    exact ⟨h2, h1⟩
  have KS : Hid (∀ w A n c B, ProgAt w A n c [plainD] → ProgAt w B 1 1 [plainD] → Calls Tryd.prog 14 #[.slice A n c, .slice B 1 1] w fun e w' => e = .returned (.bool true) ∧ Below w.heap.size w w') := Lib.hid fun w A n c B h g => (same_any h g).mono fun e w' ⟨b, h1, h2, h3⟩ => ⟨by rw [h1, h2.2 rfl], h3⟩
  have KT : Hid (∀ w A, Tabs w → ProgAt w A 1 1 [plainD] → Calls Tryd.prog 16 #[.slice A 1 1] w fun e w' => e = .returned (.string ⟨#[99, 111, 100, 101, 32, 48, 32, 109, 32, 107, 105, 110, 100, 32, 49, 32, 112, 97, 114, 97, 109, 115, 32, 48, 32, 100, 101, 102, 97, 117, 108, 116, 115, 32, 48, 10, 32, 32, 48, 32, 99, 111, 110, 115, 116, 32, 48, 10, 32, 32, 49, 32, 114, 101, 116, 117, 114, 110, 32, 48, 10]⟩) ∧ Below w.heap.size w w') := Lib.hid fun w A ht h => (text_prog w ht h (fun x hx => by
    have : x = plainD := by simpa using hx
    subst this
    refine ⟨⟨by decide, by decide⟩, ⟨by decide, by decide⟩, ⟨by decide, by decide⟩, fun y hy => ?_⟩
    simp [plainD] at hy
    rcases hy with rfl | rfl <;> exact ⟨by decide, by decide⟩) (by rw [text_plain]; decide) (by decide)).mono fun e w' ⟨h1, h2⟩ => ⟨by rw [h1, text_plain]; rfl, h2⟩
  go_enter Tryd.func13, Tryd.ntmps13
  go_wp2_with fail
  refine (plain_any _).mono ?_
  rintro e w1 ⟨⟨A1, rfl, hp1⟩, hb1⟩
  go_wp2_with fail
  refine (KE.out _ _ hp1).mono ?_
  rintro e w2 ⟨rfl, hb2⟩
  have HB2 := Lib.hid (hb1.trans (hb2.mono hb1.size))
  clear hp1 hb1 hb2
  go_wp2_with fail
  refine (KD.out _).mono ?_
  rintro e w3 ⟨⟨A3, n3, c3, rfl, hp3⟩, hb3⟩
  have HB3 := Lib.hid (HB2.out.trans (hb3.mono HB2.out.size))
  have HP3 := Lib.hid hp3
  clear hp3 hb3
  go_wp2_with fail
  refine (KD2.out _).mono ?_
  rintro e w4 ⟨rfl, hb4⟩
  have HB4 := Lib.hid (HB3.out.trans (hb4.mono HB3.out.size))
  have HP4 := Lib.hid (HP3.out.new hb4)
  clear hb4 HP3
  go_wp2_with fail
  have hpb := bad_at w4
  have hb5 : Below w4.heap.size w4 (w4.alloc (.cells #[.string ⟨#[]⟩, .int .i64 (-1), .int .i64 0, .int .i64 0, .bool false, .slice none 0 0, .slice none 0 0, .slice none 0 0, .slice none 0 0, .slice none 0 0, .slice none 0 0] 49)) := (by repeat (first | exact Below.refl _ _ | assumption | refine Below.setCell ?_ (by first | (simp; done) | (simp; omega) | omega) _ | refine below_drewN ?_ _ | refine Below.drew ?_ | refine Below.alloc ?_ (by first | (simp; done) | (simp; omega) | omega) _))
  refine (KB.out _ _ hpb).mono ?_
  rintro e w5 ⟨rfl, hb5'⟩
  have HX5 := Lib.hid (hb5.trans (hb5'.mono hb5.size))
  have HB5 := Lib.hid (HB4.out.trans (HX5.out.mono HB4.out.size))
  have HP5 := Lib.hid (HP4.out.new HX5.out)
  clear hpb hb5 hb5' HX5 HP4
  go_wp2_with fail
  refine (KM.out _).mono ?_
  rintro e w6 ⟨rfl, hb6⟩
  have HB6 := Lib.hid (HB5.out.trans (hb6.mono HB5.out.size))
  have HP6 := Lib.hid (HP5.out.new hb6)
  clear hb6 HP5
  go_wp2_with fail
  refine (plain_any _).mono ?_
  rintro e w7 ⟨⟨A7, rfl, hp7⟩, hb7⟩
  have HB7 := Lib.hid (HB6.out.trans (hb7.mono HB6.out.size))
  have HP7 := Lib.hid (HP6.out.new hb7)
  have HQ7 := Lib.hid hp7
  clear hb7 hp7 HP6
  go_wp2_with fail
  refine (KS.out _ _ _ _ _ HP7.out HQ7.out).mono ?_
  rintro e w8 ⟨rfl, hb8⟩
  have HB8 := Lib.hid (HB7.out.trans (hb8.mono HB7.out.size))
  clear hb8 HP7 HQ7
  go_wp2_with fail
  refine (name_any 46 _ (HT.out.below HB8.out).1).mono ?_
  rintro e w9 ⟨rfl, hb9⟩
  rw [name_rot]
  have HB9 := Lib.hid (HB8.out.trans (hb9.mono HB8.out.size))
  clear hb9
  go_wp2_with fail
  refine (name_any 0 _ (HT.out.below HB9.out).1).mono ?_
  rintro e w10 ⟨rfl, hb10⟩
  rw [name_none]
  have HB10 := Lib.hid (HB9.out.trans (hb10.mono HB9.out.size))
  clear hb10
  go_wp2_with fail
  refine (jumps_any 42 _).mono ?_
  rintro e w11 ⟨rfl, rfl⟩
  rw [show jumpsB 42 = true from rfl]
  go_wp2_with fail
  refine (jumps_any 43 _).mono ?_
  rintro e w12 ⟨rfl, rfl⟩
  rw [show jumpsB 43 = false from rfl]
  go_wp2_with fail
  refine (plain_any _).mono ?_
  rintro e w13 ⟨⟨A13, rfl, hp13⟩, hb13⟩
  have HB13 := Lib.hid (HB10.out.trans (hb13.mono HB10.out.size))
  have HP13 := Lib.hid hp13
  clear hb13 hp13
  go_wp2_with fail
  refine (KT.out _ _ (HT.out.below HB13.out) HP13.out).mono ?_
  rintro e w14 ⟨rfl, hb14⟩
  have HB14 := Lib.hid (HB13.out.trans (hb14.mono HB13.out.size))
  clear hb14 HP13
  go_wp2_with fail
  go_ret
  exact ⟨rfl, HB14.out⟩
end Go.Proofs.YtcfelfhjhkenaaaDoor
