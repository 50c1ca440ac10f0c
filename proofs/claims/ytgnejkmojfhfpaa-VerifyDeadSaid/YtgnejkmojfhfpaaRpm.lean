/- The reference's Program. -/
import Derived.Test.YtgnejkmojfhfpaaPrd
import Derived.Test.YtgnejkmojfhfpaaRht
namespace Go.Proofs.Ytgnejkmojfhfpaa
open Go.RowKit
set_option linter.unusedVariables false
set_option linter.unusedSimpArgs false

set_option maxRecDepth 100000 in
set_option maxHeartbeats 4000000 in
theorem rprogram_any {w : World} {A : Option Addr} {n c : Nat} {p : ProgD} (h : ProgAt w A n c p) (hsz : ∀ x ∈ p, x.ins.length ≤ 600) :
    Calls Try.prog 16 #[.slice A n c] w (PrR w (programE p)) := by
  have hl := h.len
  have hmost := h.most
  unfold Most at hmost
  have H := Lib.hid h
  have HLN := Lib.hid hl
  have HSZ := Lib.hid hsz
  clear hsz
  cases hp0 : p[0]? with
  | none =>
    obtain rfl : p = [] := by cases p with
      | nil => rfl
      | cons x r => simp at hp0
    obtain rfl : n = 0 := by simpa using hl.symm
    rw [show programE [] = (53, 0, 0) from rfl]
    clear hl h hp0
    go_enter Try.func16, Try.ntmps16
    go_wp2_with fail
    exact bodyPost_ret (v := .tuple #[.int .i64 53, .int .i64 0, .int .i64 0]) (by simp [results, Try.results16, go_sem]) rfl ⟨by exact (by repeat (first | exact Below.refl _ _ | assumption | refine Below.setCell ?_ (by first | (simp; done) | (simp; omega) | omega) _ | refine below_drewN ?_ _ | refine Below.drew ?_ | refine Below.alloc ?_ (by first | (simp; done) | (simp; omega) | omega) _)), rfl⟩
  | some x =>
    have hpos : 0 < n := by have := (List.getElem?_eq_some_iff.1 hp0).1; omega
    have hd0 : ((n : Int) == 0) = false := by simp; omega
    obtain ⟨be, oe, cs, rfl, hbe, hca, hce⟩ := h.at_ hp0
    obtain ⟨A1, n1, c1, A2, n2, c2, A3, n3, c3, A4, n4, c4, A5, n5, c5, A6, n6, c6, rfl, -⟩ := hca.parts
    have e1 : w.cell? ⟨be, oe + 1, none⟩ = some (.int .i64 x.kind) := by have := hce 1 _ rfl; simpa using this
    have hpe : programE p = if x.kind = 1 then progsE p p 0 else (53, 0, 0) := by
      cases p with
      | nil => simp at hp0
      | cons y r =>
        obtain rfl : y = x := by simpa using hp0
        rfl
    generalize x.kind = kd at *
    by_cases hk : kd = 1
    case neg =>
      have hk1 : (kd == 1) = false := by simpa using hk
      have hk2 : (kd != 1) = true := by simpa using hk
      rw [hpe, if_neg hk]
      clear hpe hk hce hca h hl hp0
      go_enter Try.func16, Try.ntmps16
      go_wp2_with fail
      exact bodyPost_ret (v := .tuple #[.int .i64 53, .int .i64 0, .int .i64 0]) (by simp [results, Try.results16, go_sem]) rfl ⟨by exact (by repeat (first | exact Below.refl _ _ | assumption | refine Below.setCell ?_ (by first | (simp; done) | (simp; omega) | omega) _ | refine below_drewN ?_ _ | refine Below.drew ?_ | refine Below.alloc ?_ (by first | (simp; done) | (simp; omega) | omega) _)), rfl⟩
    case pos =>
      subst hk
      have HPE : Hid (programE p = progsE p p 0) := Lib.hid (by rw [hpe, if_pos rfl])
      clear hpe hce hca h hl hp0
      go_enter Try.func16, Try.ntmps16
      go_wp2_with fail
      go_loopw [5] (fun i wr => ∃ j : Nat, j ≤ n ∧ i = .int .i64 j ∧ Below w.heap.size w wr ∧ Hid (progsE p p 0 = progsE p (p.drop j) j)) (fun i _ => n - (intOf i).toNat)
      case atStart => exact ⟨0, by omega, rfl, Below.refl _ _, Lib.hid rfl⟩
      case round =>
        obtain ⟨j, hj, rfl, hb, HW⟩ := hrel
        have HB := Lib.hid hb
        by_cases hlt : j < n
        · obtain ⟨y, hy⟩ : ∃ y, p[j]? = some y := ⟨_, List.getElem?_eq_getElem (by have := HLN.out; omega)⟩
          have HWA := Lib.hid (progs_at (p := p) hy)
          have KH := Lib.hid (rheights_code (H.out.new hb) hy (HSZ.out y (List.mem_of_getElem? hy)))
          have HIN : Hid (j + 1 ≤ n) := Lib.hid (by omega)
          clear hy hb
          cases he : decide ((heightsC p y).2.1 = 0) with
          | true =>
            have he0 : (heightsC p y).2.1 = 0 := of_decide_eq_true he
            have HWA2 : Hid (progsE p p 0 = progsE p (p.drop (j + 1)) (j + 1)) := Lib.hid (by rw [HW.out, HWA.out, if_pos he0])
            have HE0 := Lib.hid he0
            clear he he0 HW HWA
            go_wp2_with ((with_reducible refine KH.out.mono ?_); rintro e w3 ⟨hb3, Ar, nr, cr, rfl, -, -⟩; rw [HE0.out]; have HB3 := Lib.hid (HB.out.trans (hb3.mono HB.out.size)); clear hb3)
            go_roundw
            case rel => exact ⟨j + 1, HIN.out, by go_num, HB3.out, HWA2⟩
            case measure => simp [intOf]; omega
          | false =>
            have he0 : ¬ (heightsC p y).2.1 = 0 := of_decide_eq_false he
            have HWA2 : Hid (programE p = ((heightsC p y).2.1, (j : Int), (heightsC p y).2.2)) := Lib.hid (by rw [HPE.out, HW.out, HWA.out, if_neg he0])
            have he1 : ((heightsC p y).2.1 == 0) = false := by simpa using he0
            have he2 : ((heightsC p y).2.1 != 0) = true := by simpa using he0
            clear he he0 HW HWA
            go_wp2_with ((with_reducible refine KH.out.mono ?_); rintro e w3 ⟨hb3, Ar, nr, cr, rfl, -, -⟩; have HB3 := Lib.hid (HB.out.trans (hb3.mono HB.out.size)); clear hb3)
            exact bodyPost_ret (v := .tuple #[.int .i64 (heightsC p y).2.1, .int .i64 j, .int .i64 (heightsC p y).2.2]) (by simp [results, Try.results16, go_sem]) rfl ⟨HB3.out, by rw [HWA2.out]⟩
        · obtain rfl : j = n := by omega
          have HWE : Hid (programE p = (0, 0, 0)) := Lib.hid (by rw [HPE.out, HW.out, List.drop_of_length_le (by have := HLN.out; omega)]; rfl)
          clear hb HW
          go_wp2_with fail
          exact bodyPost_ret (v := .tuple #[.int .i64 0, .int .i64 0, .int .i64 0]) (by simp [results, Try.results16, go_sem]) rfl ⟨HB.out, by rw [HWE.out]⟩
end Go.Proofs.Ytgnejkmojfhfpaa
