/- scan.Name. -/
import Derived.Test.YtjdcicopjipmnaaDoorNmd
namespace Go.Proofs.YtjdcicopjipmnaaDoor
open Go.RowKit
set_option linter.unusedVariables false
set_option linter.unusedSimpArgs false
attribute [local go_sem] Oper.semAt_some
theorem toList_no {r t : ByteArray} (h : ¬ r = t) : (r.toList == t.toList) = false := by
  rw [ByteArray.toList_eq, ByteArray.toList_eq, beq_eq_false_iff_ne]
  exact fun e => h (bytes_ext e)
theorem nameB_ne {t : ByteArray} (h : 0 < t.size) : nameB t = (letterB t[0] && t.data.toList.all okB && !kwB t) := by
  obtain ⟨⟨l⟩⟩ := t
  cases l with
  | nil => cases h
  | cons c r => rfl
set_option maxRecDepth 100000 in
set_option maxHeartbeats 2000000 in
theorem name_any (t : ByteArray) (ht : t.size ≤ maxLen) (w : World) (htab : Asp w) : Calls Tryd.prog 29 #[.string t] w fun e w' => e = .returned (.bool (nameB t)) ∧ Below w.heap.size w w' := by
  have HT := Lib.hid htab
  clear htab
  by_cases h0 : t = ⟨#[]⟩
  · subst h0
    go_enter Tryd.func29, Tryd.ntmps29
    go_wp2_with fail
    go_ret
    exact ⟨rfl, Below.refl _ _⟩
  · have hsz : 0 < t.size := by
      rcases Nat.eq_zero_or_pos t.size with h | h
      · exact absurd (bytes_ext (x := t) (y := ⟨#[]⟩) (List.eq_nil_of_length_eq_zero (by simpa using h))) h0
      · exact h
    have hne : t.toList.isEmpty = false := by
      rw [ByteArray.toList_eq]
      cases hl : t.data.toList with
      | nil => exact absurd (bytes_ext (x := t) (y := ⟨#[]⟩) hl) h0
      | cons _ _ => rfl
    rw [nameB_ne hsz]
    by_cases h1 : letterB t[0] = true
    · have HW := Lib.hid (word_any t ht)
      have HK := Lib.hid (keyword_any t ht w HT.out)
      rw [h1, Bool.true_and]
      by_cases h2 : t.data.toList.all okB = true
      · rw [h2, Bool.true_and]
        have H2 := Lib.hid h2
        clear h2
        go_enter Tryd.func29, Tryd.ntmps29
        go_wp2_with (first | (go_at_call 43; refine (letter_any _ _).mono ?_; rintro e w1 ⟨rfl, rfl⟩) | (go_at_call 44; refine (HW.out _).mono ?_; rintro e w1 ⟨⟨r, rfl, hr⟩, rfl⟩; obtain rfl := hr.2 H2.out; clear hr HW) | (go_at_call 45; refine HK.out.mono ?_; rintro e w1 ⟨rfl, hb⟩; have HB := Lib.hid hb; clear hb))
        go_ret
        exact ⟨by simp, HB.out⟩
      · have h2' : t.data.toList.all okB = false := by simpa using h2
        rw [h2', Bool.false_and]
        have H2 := Lib.hid h2
        clear h2 h2'
        go_enter Tryd.func29, Tryd.ntmps29
        go_wp2_with (first | (go_at_call 43; refine (letter_any _ _).mono ?_; rintro e w1 ⟨rfl, rfl⟩) | (go_at_call 44; refine (HW.out _).mono ?_; rintro e w1 ⟨⟨r, rfl, hr⟩, rfl⟩; have hrt : (r.toList == t.toList) = false := toList_no (fun e => H2.out (hr.1 e)); clear hr))
        go_ret
        exact ⟨by simp, Below.refl _ _⟩
    · have h1' : letterB t[0] = false := by simpa using h1
      rw [h1', Bool.false_and, Bool.false_and]
      clear h1
      go_enter Tryd.func29, Tryd.ntmps29
      go_wp2_with (first | (go_at_call 43; refine (letter_any _ _).mono ?_; rintro e w1 ⟨rfl, rfl⟩))
      go_ret
      exact ⟨by simp, Below.refl _ _⟩
end Go.Proofs.YtjdcicopjipmnaaDoor
