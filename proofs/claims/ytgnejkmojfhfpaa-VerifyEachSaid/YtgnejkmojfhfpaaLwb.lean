/- VerifyEach: the walk of the law. -/
import Derived.Test.YtgnejkmojfhfpaaLwa
namespace Go.Proofs.Ytgnejkmojfhfpaa
open Go.RowKit
set_option linter.unusedVariables false
set_option linter.unusedSimpArgs false

set_option maxRecDepth 100000 in
set_option maxHeartbeats 8000000 in
theorem law_each {w : World} {A : Option Addr} {n c : Nat} {p : ProgD} (h : ProgAt w A n c p) : Calls Try.prog 9 #[.slice A n c] w (LawR w) := by
  have hl := h.len
  have hmost := h.most
  unfold Most at hmost
  have H := Lib.hid h
  have HLN := Lib.hid hl
  have KP := Lib.hid (program_any h)
  have KB : Hid (∀ w', Below w.heap.size w w' → Calls Try.prog 10 #[.slice A n c] w' fun e w2 => e = .returned (.bool (bigB p)) ∧ w' = w2) := Lib.hid fun w' hb => big_any (h.new hb)
  cases hb : bigB p with
  | true =>
    rw [hb] at KB
    generalize programE p = r at *
    obtain ⟨r1, r2, r3⟩ := r
    clear hb h hl
    go_enter Try.func9, Try.ntmps9
    go_wp2_with (first | ((with_reducible refine KP.out.mono ?_); rintro e w1 ⟨hb1, rfl⟩; have HB1 := Lib.hid hb1; clear hb1) | ((with_reducible refine (KB.out _ HB1.out).mono ?_); rintro e w2 ⟨rfl, rfl⟩))
    refine (seen_any w1).mono ?_
    rintro e w3 ⟨rfl, hb3⟩
    have HB3 := Lib.hid (HB1.out.trans (hb3.mono HB1.out.size))
    clear hb3
    go_wp2_with ((with_reducible refine (KB.out _ HB3.out).mono ?_); rintro e w2 ⟨rfl, rfl⟩)
    go_ret
    exact ⟨rfl, HB3.out⟩
  | false =>
    rw [hb] at KB
    clear hb
    cases hp0 : p[0]? with
    | none =>
      obtain rfl : p = [] := by cases p with
        | nil => rfl
        | cons x r => simp at hp0
      obtain rfl : n = 0 := by simpa using hl.symm
      rw [show programE [] = (53, 0, 0) from rfl] at KP
      clear hl h hp0
      go_enter Try.func9, Try.ntmps9
      go_wp2_with (first | ((with_reducible refine KP.out.mono ?_); rintro e w1 ⟨hb1, rfl⟩; have HB1 := Lib.hid hb1; clear hb1) | ((with_reducible refine (KB.out _ HB1.out).mono ?_); rintro e w2 ⟨rfl, rfl⟩))
      refine (seen_any w1).mono ?_
      rintro e w3 ⟨rfl, hb3⟩
      have HB3 := Lib.hid (HB1.out.trans (hb3.mono HB1.out.size))
      clear hb3
      go_wp2_with ((with_reducible refine (KB.out _ HB3.out).mono ?_); rintro e w2 ⟨rfl, rfl⟩)
      go_ret
      exact ⟨rfl, HB3.out⟩
    | some x =>
      have hpos : 0 < n := by have := (List.getElem?_eq_some_iff.1 hp0).1; omega
      have hd0 : ((n : Int) == 0) = false := by simp; omega
      obtain ⟨be, oe, cs, rfl, hbe, hca, hce⟩ := h.at_ hp0
      obtain ⟨A1, n1, c1, A2, n2, c2, A3, n3, c3, A4, n4, c4, A5, n5, c5, A6, n6, c6, rfl, -⟩ := hca.parts
      have e1 : w.cell? ⟨be, oe + 1, none⟩ = some (.int .i64 x.kind) := by have := hce 1 _ rfl; simpa using this
      have hpe : programE p = if x.kind = 1 then progsE p p 0 else (53, 0, 0) := by
        cases p with
        | nil => simp at hp0
        | cons y r =>
          obtain rfl : y = x := by simpa using hp0
          rfl
      generalize x.kind = kd at *
      have HE1 := Lib.hid e1
      clear hce hca h hl hp0 e1
      by_cases hk : kd = 1
      case neg =>
        have hk1 : (kd == 1) = false := by simpa using hk
        have hk2 : (kd != 1) = true := by simpa using hk
        rw [hpe, if_neg hk] at KP
        clear hpe hk
        have KH : Hid (∀ w', Below w.heap.size w w' → Calls Try.prog 11 #[.slice (some ⟨be, oe, none⟩) n c, .int .i64 0] w' (HtR w' (heightsE p 0))) := Lib.hid fun w' hb => heights_any (H.out.new hb) 0
        generalize heightsE p 0 = r at *
        obtain ⟨q1, q2, q3⟩ := r
        go_enter Try.func9, Try.ntmps9
        go_wp2_with (first | ((with_reducible refine KP.out.mono ?_); rintro e w1 ⟨hb1, rfl⟩; have HB1 := Lib.hid hb1; clear hb1) | ((with_reducible refine (KB.out _ HB1.out).mono ?_); rintro e w2 ⟨rfl, rfl⟩))
        go_loopw [6] (fun i wr => i = .int .i64 0 ∧ wr = w1) (fun i _ => 0)
        case atStart => exact ⟨rfl, rfl⟩
        case round =>
          obtain ⟨rfl, rfl⟩ := hrel
          go_wp2_with ((with_reducible refine (KH.out _ HB1.out).mono ?_); rintro e w3 ⟨hb3, Ar, nr, cr, rfl, -, -⟩; have HB3 := Lib.hid (HB1.out.trans (hb3.mono HB1.out.size)); have e1 := (HB3.out.cell (p := ⟨be, oe + 1, none⟩) hbe).trans HE1.out; have hbe3 : be < w3.heap.size := (by have := HB3.out.size; omega); clear hb3)
          refine (seen_any w3).mono ?_
          rintro e w4 ⟨rfl, hb4⟩
          have HB4 := Lib.hid (HB3.out.trans (hb4.mono HB3.out.size))
          clear hb4 e1
          go_wp2_with fail
          go_ret
          exact ⟨rfl, HB4.out⟩
      case pos =>
        subst hk
        rw [hpe, if_pos rfl] at KP
        clear hpe
        obtain ⟨⟨r1, r2, r3⟩, hr⟩ : ∃ r, r = progsE p p 0 := ⟨_, rfl⟩
        rw [← hr] at KP
        have HRR := Lib.hid hr
        clear hr
        go_enter Try.func9, Try.ntmps9
        go_wp2_with (first | ((with_reducible refine KP.out.mono ?_); rintro e w1 ⟨hb1, rfl⟩; have HB1 := Lib.hid hb1; clear hb1) | ((with_reducible refine (KB.out _ HB1.out).mono ?_); rintro e w2 ⟨rfl, rfl⟩))
        go_loopw [6] (fun i wr => ∃ j : Nat, j ≤ n ∧ i = .int .i64 j ∧ Below w.heap.size w wr ∧ Hid (progsE p p 0 = progsE p (p.drop j) j)) (fun i _ => n - (intOf i).toNat)
        case atStart => exact ⟨0, by omega, rfl, HB1.out, Lib.hid rfl⟩
        case round =>
          obtain ⟨j, hj, rfl, hb, HW⟩ := hrel
          have HB := Lib.hid hb
          by_cases hlt : j < n
          · obtain ⟨y, hy⟩ : ∃ y, p[j]? = some y := ⟨_, List.getElem?_eq_getElem (by have := HLN.out; omega)⟩
            have HWA := Lib.hid (progs_at (p := p) hy)
            have KH := Lib.hid (heights_code (H.out.new hb) hy)
            have HIN : Hid (j + 1 ≤ n) := Lib.hid (by omega)
            clear hy hb
            obtain ⟨⟨q1, q2, q3⟩, hq⟩ : ∃ q, q = heightsC p y := ⟨_, rfl⟩
            rw [← hq] at KH
            have HQ := Lib.hid hq
            clear hq
            by_cases he : q2 = 0
            · subst he
              have HWA2 : Hid (progsE p p 0 = progsE p (p.drop (j + 1)) (j + 1)) := Lib.hid (by rw [HW.out, HWA.out, if_pos (by rw [← HQ.out])])
              clear HW HWA
              go_wp2_with ((with_reducible refine KH.out.mono ?_); rintro e w3 ⟨hb3, Ar, nr, cr, rfl, -, -⟩; have HB3 := Lib.hid (HB.out.trans (hb3.mono HB.out.size)); have e1 := (HB3.out.cell (p := ⟨be, oe + 1, none⟩) hbe).trans HE1.out; have hbe3 : be < w3.heap.size := (by have := HB3.out.size; omega); clear hb3)
              go_roundw
              case rel => exact ⟨j + 1, HIN.out, by go_num, HB3.out, HWA2⟩
              case measure => simp [intOf]; omega
            · have HWA2 : Hid ((r1, r2, r3) = (q2, (j : Int), q3)) := Lib.hid (by rw [HRR.out, HW.out, HWA.out, if_neg (by rw [← HQ.out]; exact he), ← HQ.out])
              have e3 := HWA2.out
              injection e3 with e3 e4
              injection e4 with e4 e5
              have he1 : (q2 == 0) = false := by simpa using he
              have he2 : (q2 != 0) = true := by simpa using he
              subst e3 e4 e5
              clear he HW HWA HWA2
              go_wp2_with ((with_reducible refine KH.out.mono ?_); rintro e w3 ⟨hb3, Ar, nr, cr, rfl, -, -⟩; have HB3 := Lib.hid (HB.out.trans (hb3.mono HB.out.size)); have e1 := (HB3.out.cell (p := ⟨be, oe + 1, none⟩) hbe).trans HE1.out; have hbe3 : be < w3.heap.size := (by have := HB3.out.size; omega); clear hb3)
              refine (seen_any w3).mono ?_
              rintro e w4 ⟨rfl, hb4⟩
              have HB4 := Lib.hid (HB3.out.trans (hb4.mono HB3.out.size))
              clear hb4 e1
              go_wp2_with fail
              go_ret
              exact ⟨rfl, HB4.out⟩
          · obtain rfl : j = n := by omega
            have HWE : Hid ((r1, r2, r3) = ((0 : Int), (0 : Int), (0 : Int))) := Lib.hid (by rw [HRR.out, HW.out, List.drop_of_length_le (by have := HLN.out; omega)]; rfl)
            have e3 := HWE.out
            injection e3 with e3 e4
            subst e3
            clear e4 hb HW
            go_wp2_with fail
            refine (seen_any wr).mono ?_
            rintro e w4 ⟨rfl, hb4⟩
            have HB4 := Lib.hid (HB.out.trans (hb4.mono HB.out.size))
            clear hb4
            go_wp2_with fail
            go_ret
            exact ⟨rfl, HB4.out⟩
end Go.Proofs.Ytgnejkmojfhfpaa
