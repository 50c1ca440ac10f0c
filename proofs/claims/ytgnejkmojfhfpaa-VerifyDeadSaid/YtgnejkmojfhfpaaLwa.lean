/- VerifyHeights, VerifyPrograms, VerifyEach: the walks of the laws. -/
import Derived.Test.YtgnejkmojfhfpaaSen
import Derived.Test.YtgnejkmojfhfpaaRpm
namespace Go.Proofs.Ytgnejkmojfhfpaa
open Go.RowKit
set_option linter.unusedVariables false
set_option linter.unusedSimpArgs false

theorem heights_any {w : World} {A : Option Addr} {n c : Nat} {p : ProgD} (h : ProgAt w A n c p) (k : Int) :
    Calls Try.prog 11 #[.slice A n c, .int .i64 k] w (HtR w (heightsE p k)) := by
  by_cases hk : k < 0 ∨ (n : Int) ≤ k
  · rw [heightsE_out (by rw [h.len]; exact hk)]
    exact heights_arg h hk
  · obtain ⟨i, rfl⟩ := Int.eq_ofNat_of_zero_le (show 0 ≤ k by omega)
    obtain ⟨x, hx⟩ : ∃ x, p[i]? = some x := ⟨_, List.getElem?_eq_getElem (by rw [h.len]; omega)⟩
    rw [heightsE_at hx]
    exact heights_code h hx
theorem small_of {p : ProgD} (h : bigB p = false) : p.length ≤ 60 ∧ ∀ x ∈ p, x.ins.length ≤ 600 ∧ x.consts.length ≤ 5000 := by
  unfold bigB at h
  simp only [Bool.or_eq_false_iff, decide_eq_false_iff_not, List.any_eq_false] at h
  refine ⟨by omega, fun x hx => ?_⟩
  have h1 := h.2 x hx
  simp only [tooB, Bool.or_eq_true, decide_eq_true_eq, not_or] at h1
  omega
/-- the law answers true, and leaves all as it was -/
def LawR (w : World) (e : Ending) (w' : World) : Prop := e = .returned (.bool true) ∧ Below w.heap.size w w'
set_option maxRecDepth 100000 in
set_option maxHeartbeats 4000000 in
theorem law_heights {w : World} {A : Option Addr} {n c : Nat} {p : ProgD} (h : ProgAt w A n c p) (k : Int) : Calls Try.prog 3 #[.slice A n c, .int .i64 k] w (LawR w) := by
  have KB := Lib.hid (big_any h)
  cases hb : bigB p with
  | true =>
    rw [hb] at KB
    clear hb h
    go_enter Try.func3, Try.ntmps3
    go_wp2_with ((with_reducible refine KB.out.mono ?_); rintro e w1 ⟨rfl, rfl⟩)
    go_ret
    exact ⟨rfl, Below.refl _ _⟩
  | false =>
    rw [hb] at KB
    have KH := Lib.hid (heights_any h k)
    have KR : Hid (∀ w', Below w.heap.size w w' → Calls Try.prog 12 #[.slice A n c, .int .i64 k] w' (HtR w' (heightsE p k))) := Lib.hid fun w' hw => rheights_any (h.new hw) (fun x hx => ((small_of hb).2 x hx).1) k
    generalize heightsE p k = r at *
    obtain ⟨rl, re, ri⟩ := r
    clear hb h
    go_enter Try.func3, Try.ntmps3
    go_wp2_with (first | ((with_reducible refine KB.out.mono ?_); rintro e w1 ⟨rfl, rfl⟩) | ((with_reducible refine KH.out.mono ?_); rintro e w2 ⟨hb2, A2, n2, c2, rfl, hl2, hr2⟩; have HB2 := Lib.hid hb2; have HL2 := Lib.hid hl2; have HR2 := Lib.hid hr2; clear hb2 hl2 hr2))
    refine (KR.out w2 HB2.out).mono ?_
    rintro e w3 ⟨hb3, A3, n3, c3, rfl, hl3, hr3⟩
    have HB3 := Lib.hid (HB2.out.trans (hb3.mono HB2.out.size))
    have HR2' := Lib.hid (HR2.out.new hb3)
    have HL3 := Lib.hid hl3
    have HR3 := Lib.hid hr3
    clear hb3 hl3 hr3 HR2
    go_wp2_with fail
    refine (seen_any w3).mono ?_
    rintro e w4 ⟨rfl, hb4⟩
    have KS := rows_same HL2.out HL3.out (HR2'.out.new hb4) (HR3.out.new hb4)
    rw [show sameI rl rl = true from decide_eq_true rfl] at KS
    have KSS := Lib.hid KS
    have HB4 := Lib.hid (HB3.out.trans (hb4.mono HB3.out.size))
    clear hb4 KS
    go_wp2_with ((with_reducible refine KSS.out.mono ?_); rintro e w5 ⟨rfl, hb5⟩; have HB5 := Lib.hid (HB4.out.trans (hb5.mono HB4.out.size)); clear hb5)
    go_ret
    exact ⟨rfl, HB5.out⟩
set_option maxRecDepth 100000 in
set_option maxHeartbeats 4000000 in
theorem law_programs {w : World} {A : Option Addr} {n c : Nat} {p : ProgD} (h : ProgAt w A n c p) : Calls Try.prog 4 #[.slice A n c] w (LawR w) := by
  have KB := Lib.hid (big_any h)
  cases hb : bigB p with
  | true =>
    rw [hb] at KB
    clear hb h
    go_enter Try.func4, Try.ntmps4
    go_wp2_with ((with_reducible refine KB.out.mono ?_); rintro e w1 ⟨rfl, rfl⟩)
    go_ret
    exact ⟨rfl, Below.refl _ _⟩
  | false =>
    rw [hb] at KB
    have KH := Lib.hid (program_any h)
    have KR : Hid (∀ w', Below w.heap.size w w' → Calls Try.prog 16 #[.slice A n c] w' (PrR w' (programE p))) := Lib.hid fun w' hw => rprogram_any (h.new hw) (fun x hx => ((small_of hb).2 x hx).1)
    generalize programE p = r at *
    obtain ⟨r1, r2, r3⟩ := r
    clear hb h
    go_enter Try.func4, Try.ntmps4
    go_wp2_with (first | ((with_reducible refine KB.out.mono ?_); rintro e w1 ⟨rfl, rfl⟩) | ((with_reducible refine KH.out.mono ?_); rintro e w2 ⟨hb2, rfl⟩; have HB2 := Lib.hid hb2; clear hb2))
    refine (KR.out w2 HB2.out).mono ?_
    rintro e w3 ⟨hb3, rfl⟩
    have HB3 := Lib.hid (HB2.out.trans (hb3.mono HB2.out.size))
    clear hb3
    go_wp2_with fail
    refine (seen_any w3).mono ?_
    rintro e w4 ⟨rfl, hb4⟩
    have HB4 := Lib.hid (HB3.out.trans (hb4.mono HB3.out.size))
    clear hb4
    go_wp2_with fail
    go_ret
    exact ⟨rfl, HB4.out⟩
end Go.Proofs.Ytgnejkmojfhfpaa
