/- The reference's Heights: the walk. -/
import Derived.Test.YtgnejkmojfhfpaaRfw
import Derived.Test.YtgnejkmojfhfpaaRwx
import Derived.Test.YtgnejkmojfhfpaaRtt
namespace Go.Proofs.Ytgnejkmojfhfpaa
open Go.RowKit
set_option linter.unusedVariables false
set_option linter.unusedSimpArgs false
attribute [local go_sem] Oper.semAt_some

set_option maxRecDepth 100000 in
set_option maxHeartbeats 1000000 in
theorem rheights_arg {w : World} {A : Option Addr} {n c : Nat} {k : Int} (hk : k < 0 ∨ (n : Int) ≤ k) :
    Calls Try.prog 12 #[.slice A n c, .int .i64 k] w (HtR w ([], 1, 0)) := by
  have KI : Hid (∀ w, Calls Try.prog 26 #[.int .i64 k, .int .i64 n] w fun e w' => e = .returned (.bool false) ∧ w = w') := Lib.hid fun w => by
    have := in_any k n w
    rwa [show inB k n = false from decide_eq_false (by omega)] at this
  clear hk
  go_enter Try.func12, Try.ntmps12
  go_wp2_with ((with_reducible refine (KI.out _).mono ?_); rintro e w2 ⟨rfl, rfl⟩)
  exact bodyPost_ret (v := .tuple #[.slice none 0 0, .int .i64 1, .int .i64 0]) (by simp [results, Try.results12, go_sem]) rfl (HtR.bad (by exact (by repeat (first | exact Below.refl _ _ | assumption | refine Below.setCell ?_ (by first | (simp; done) | (simp; omega) | omega) _ | refine below_drewN ?_ _ | refine Below.drew ?_ | refine Below.alloc ?_ (by first | (simp; done) | (simp; omega) | omega) _))) 1 0)
theorem rwrongs_at {p : ProgD} {c : CodeD} {k : Nat} {x : Int × Int} (h : c.ins[k]? = some x) : wrongs p c (c.ins.drop k) k = if wrongE p c x = 0 then wrongs p c (c.ins.drop (k + 1)) (k + 1) else some (wrongE p c x, k) := by
  rw [List.drop_eq_getElem?_toList_append, h]
  rfl
def rtellE (p : ProgD) (ins : List (Int × Int)) : Option (Int × Nat) → List Int × Int × Int
  | some (e, i) => ([], e, i)
  | none => flowE p ins
set_option maxRecDepth 100000 in
set_option maxHeartbeats 8000000 in
theorem rheights_code {w : World} {A : Option Addr} {n c : Nat} {p : ProgD} (h : ProgAt w A n c p) {k : Nat} {x : CodeD} (hx : p[k]? = some x) (hsz : x.ins.length ≤ 600) :
    Calls Try.prog 12 #[.slice A n c, .int .i64 k] w (HtR w (heightsC p x)) := by
  have hkn : k < n := by rw [← h.len]; exact (List.getElem?_eq_some_iff.1 hx).1
  have hmost := h.most
  have H := Lib.hid h
  obtain ⟨be, oe, cs, rfl, hbe, hca, hce⟩ := h.at_ hx
  have HCA := Lib.hid hca
  obtain ⟨A1, n1, c1, A2, n2, c2, A3, n3, c3, A4, n4, c4, A5, n5, c5, A6, n6, c6, rfl, -, -, -, -, -, r6, -⟩ := hca.parts
  have R6 := Lib.hid r6
  have hl6 := r6.1
  have HL6 := Lib.hid hl6
  have HSZ := Lib.hid hsz
  have hn6 : n6 ≤ 600 := by omega
  have e0 : w.cell? ⟨be, oe + k * 11, none⟩ = some (.string x.name) := hce 0 _ rfl
  have e1 : w.cell? ⟨be, oe + k * 11 + 1, none⟩ = some (.int .i64 x.kind) := hce 1 _ rfl
  have e2 : w.cell? ⟨be, oe + k * 11 + 2, none⟩ = some (.int .i64 x.params) := hce 2 _ rfl
  have e3 : w.cell? ⟨be, oe + k * 11 + 3, none⟩ = some (.int .i64 x.defaults) := hce 3 _ rfl
  have e4 : w.cell? ⟨be, oe + k * 11 + 4, none⟩ = some (.bool x.gen) := hce 4 _ rfl
  have e5 : w.cell? ⟨be, oe + k * 11 + 5, none⟩ = some (.slice A1 n1 c1) := hce 5 _ rfl
  have e6 : w.cell? ⟨be, oe + k * 11 + 6, none⟩ = some (.slice A2 n2 c2) := hce 6 _ rfl
  have e7 : w.cell? ⟨be, oe + k * 11 + 7, none⟩ = some (.slice A3 n3 c3) := hce 7 _ rfl
  have e8 : w.cell? ⟨be, oe + k * 11 + 8, none⟩ = some (.slice A4 n4 c4) := hce 8 _ rfl
  have e9 : w.cell? ⟨be, oe + k * 11 + 9, none⟩ = some (.slice A5 n5 c5) := hce 9 _ rfl
  have e10 : w.cell? ⟨be, oe + k * 11 + 10, none⟩ = some (.slice A6 n6 c6) := hce 10 _ rfl
  have HU := Lib.hid (show Below w.heap.size w (w.alloc (.cells #[.string x.name, .int .i64 x.kind, .int .i64 x.params, .int .i64 x.defaults, .bool x.gen, .slice A1 n1 c1, .slice A2 n2 c2, .slice A3 n3 c3, .slice A4 n4 c4, .slice A5 n5 c5, .slice A6 n6 c6] 38)) from (by repeat (first | exact Below.refl _ _ | assumption | refine Below.setCell ?_ (by first | (simp; done) | (simp; omega) | omega) _ | refine below_drewN ?_ _ | refine Below.drew ?_ | refine Below.alloc ?_ (by first | (simp; done) | (simp; omega) | omega) _)))
  have HUB := Lib.hid (Blk.new w 38 #[.string x.name, .int .i64 x.kind, .int .i64 x.params, .int .i64 x.defaults, .bool x.gen, .slice A1 n1 c1, .slice A2 n2 c2, .slice A3 n3 c3, .slice A4 n4 c4, .slice A5 n5 c5, .slice A6 n6 c6])
  have KT := Lib.hid (rtables_any (hca.new HU.out))
  have KI : Hid (∀ w, Calls Try.prog 26 #[.int .i64 k, .int .i64 n] w fun e w' => e = .returned (.bool true) ∧ w = w') := Lib.hid fun w => by
    have := in_any k n w
    rwa [show inB k n = true from decide_eq_true (by omega)] at this
  clear h hca hce r6 hl6 hx hsz
  unfold Most at hmost
  go_enter Try.func12, Try.ntmps12
  cases ht : tablesOk x with
  | false =>
    have hr : heightsC p x = ([], 53, 0) := by unfold heightsC; rw [if_pos ht]
    rw [hr]
    rw [ht] at KT
    clear ht hr
    go_wp2_with (first | ((with_reducible refine (KI.out _).mono ?_); rintro e w2 ⟨rfl, rfl⟩) | ((with_reducible refine KT.out.mono ?_); rintro e w1 ⟨rfl, hb1⟩; have HB1 := Lib.hid (HU.out.trans (hb1.mono HU.out.size)); clear hb1))
    exact bodyPost_ret (v := .tuple #[.slice none 0 0, .int .i64 53, .int .i64 0]) (by simp [results, Try.results12, go_sem]) rfl (HtR.bad HB1.out 53 0)
  | true =>
    have HR : Hid (heightsC p x = rtellE p x.ins (wrongs p x x.ins 0)) := Lib.hid (by
      unfold heightsC
      rw [if_neg (by rw [ht]; decide)]
      cases wrongs p x x.ins 0 <;> rfl)
    rw [ht] at KT
    clear ht
    go_wp2_with (first | ((with_reducible refine (KI.out _).mono ?_); rintro e w2 ⟨rfl, rfl⟩) | ((with_reducible refine KT.out.mono ?_); rintro e w1 ⟨rfl, hb1⟩; have HB1 := Lib.hid (HU.out.trans (hb1.mono HU.out.size)); have HUB1 := Lib.hid (HUB.out.new' hb1); clear hb1))
    clear e0 e1 e2 e3 e4 e5 e6 e7 e8 e9 e10 KT HUB KI
    go_loopw [8] (fun i wr => ∃ j : Nat, j ≤ n6 ∧ i = .int .i64 j ∧ Below w1.heap.size w1 wr ∧ Hid (wrongs p x x.ins 0 = wrongs p x (x.ins.drop j) j)) (fun i _ => n6 - (intOf i).toNat)
    case atStart => exact ⟨0, by omega, rfl, Below.refl _ _, Lib.hid rfl⟩
    case round =>
      obtain ⟨j, hj, rfl, hb, HW⟩ := hrel
      have HBr := Lib.hid hb
      have HBw := Lib.hid (HB1.out.trans (hb.mono HB1.out.size))
      have hz := hb.size
      have hbub := HUB1.out.new' hb
      by_cases hlt : j < n6
      · obtain ⟨y, hy⟩ : ∃ y, x.ins[j]? = some y := ⟨_, List.getElem?_eq_getElem (by have := HL6.out; omega)⟩
        obtain ⟨bi, oi, rfl, hbi, hci⟩ := R6.out.at_ (f := insCs) (m := 2) (fun _ => rfl) hy
        have HY := Lib.hid hy
        have HWA := Lib.hid (rwrongs_at (p := p) hy)
        obtain ⟨op, a⟩ := y
        have i0 : wr.cell? ⟨bi, oi + j * 2, none⟩ = some (.int .i64 op) := (HBw.out.cell (p := ⟨bi, oi + j * 2, none⟩) hbi).trans (hci 0 _ rfl)
        have i1 : wr.cell? ⟨bi, oi + j * 2 + 1, none⟩ = some (.int .i64 a) := (HBw.out.cell (p := ⟨bi, oi + j * 2 + 1, none⟩) hbi).trans (hci 1 _ rfl)
        have hbr : bi < wr.heap.size := by have := HBw.out.size; omega
        have u0 := hbub.cell 0
        have u1 := hbub.cell 1
        have u2 := hbub.cell 2
        have u3 := hbub.cell 3
        have u4 := hbub.cell 4
        have u5 := hbub.cell 5
        have u6 := hbub.cell 6
        have u7 := hbub.cell 7
        have u8 := hbub.cell 8
        have u9 := hbub.cell 9
        have u10 := hbub.cell 10
        have ul := hbub.lt
        simp only [List.getElem?_toArray, List.getElem?_cons_zero, List.getElem?_cons_succ] at u0 u1 u2 u3 u4 u5 u6 u7 u8 u9 u10
        have HD4 : Hid (Below wr.heap.size wr wr.drew) := Lib.hid (by repeat (first | exact Below.refl _ _ | assumption | refine Below.setCell ?_ (by first | (simp; done) | (simp; omega) | omega) _ | refine below_drewN ?_ _ | refine Below.drew ?_ | refine Below.alloc ?_ (by first | (simp; done) | (simp; omega) | omega) _))
        have HALLS : Hid (∀ w', Below wr.heap.size wr w' → (fun w' => w'.cell? ⟨w.heap.size, 0, none⟩ = some (.string x.name) ∧ w'.cell? ⟨w.heap.size, 1, none⟩ = some (.int .i64 x.kind) ∧ w'.cell? ⟨w.heap.size, 2, none⟩ = some (.int .i64 x.params) ∧ w'.cell? ⟨w.heap.size, 3, none⟩ = some (.int .i64 x.defaults) ∧ w'.cell? ⟨w.heap.size, 4, none⟩ = some (.bool x.gen) ∧ w'.cell? ⟨w.heap.size, 5, none⟩ = some (.slice A1 n1 c1) ∧ w'.cell? ⟨w.heap.size, 6, none⟩ = some (.slice A2 n2 c2) ∧ w'.cell? ⟨w.heap.size, 7, none⟩ = some (.slice A3 n3 c3) ∧ w'.cell? ⟨w.heap.size, 8, none⟩ = some (.slice A4 n4 c4) ∧ w'.cell? ⟨w.heap.size, 9, none⟩ = some (.slice A5 n5 c5) ∧ w'.cell? ⟨w.heap.size, 10, none⟩ = some (.slice (some ⟨bi, oi, none⟩) n6 c6) ∧ w'.cell? ⟨bi, oi + j * 2, none⟩ = some (.int .i64 op) ∧ w'.cell? ⟨bi, oi + j * 2 + 1, none⟩ = some (.int .i64 a)) w') := Lib.hid fun w' hb => ⟨(hb.cell (p := ⟨w.heap.size, 0, none⟩) ul).trans u0, (hb.cell (p := ⟨w.heap.size, 1, none⟩) ul).trans u1, (hb.cell (p := ⟨w.heap.size, 2, none⟩) ul).trans u2, (hb.cell (p := ⟨w.heap.size, 3, none⟩) ul).trans u3, (hb.cell (p := ⟨w.heap.size, 4, none⟩) ul).trans u4, (hb.cell (p := ⟨w.heap.size, 5, none⟩) ul).trans u5, (hb.cell (p := ⟨w.heap.size, 6, none⟩) ul).trans u6, (hb.cell (p := ⟨w.heap.size, 7, none⟩) ul).trans u7, (hb.cell (p := ⟨w.heap.size, 8, none⟩) ul).trans u8, (hb.cell (p := ⟨w.heap.size, 9, none⟩) ul).trans u9, (hb.cell (p := ⟨w.heap.size, 10, none⟩) ul).trans u10, (hb.cell (p := ⟨bi, oi + j * 2, none⟩) hbr).trans i0, (hb.cell (p := ⟨bi, oi + j * 2 + 1, none⟩) hbr).trans i1⟩
        have HS0 := Lib.hid (HALLS.out _ HD4.out)
        have KW := Lib.hid (rwrong_any (H.out.new (HBw.out.trans (HD4.out.mono HBw.out.size))) (HCA.out.new (HBw.out.trans (HD4.out.mono HBw.out.size))) op a)
        clear hb hy hci hbub
        cases he : decide (wrongE p x (op, a) = 0) with
        | true =>
          have he0 : wrongE p x (op, a) = 0 := of_decide_eq_true he
          rw [he0] at KW
          have HWA2 : Hid (wrongs p x x.ins 0 = wrongs p x (x.ins.drop (j + 1)) (j + 1)) := Lib.hid (by rw [HW.out, HWA.out, if_pos he0])
          have HIN : Hid (j + 1 ≤ n6) := Lib.hid (by omega)
          clear he he0 HW HWA
          go_wp2_with fail
          go_region_held3 (fun w' => w'.cell? ⟨w.heap.size, 0, none⟩ = some (.string x.name) ∧ w'.cell? ⟨w.heap.size, 1, none⟩ = some (.int .i64 x.kind) ∧ w'.cell? ⟨w.heap.size, 2, none⟩ = some (.int .i64 x.params) ∧ w'.cell? ⟨w.heap.size, 3, none⟩ = some (.int .i64 x.defaults) ∧ w'.cell? ⟨w.heap.size, 4, none⟩ = some (.bool x.gen) ∧ w'.cell? ⟨w.heap.size, 5, none⟩ = some (.slice A1 n1 c1) ∧ w'.cell? ⟨w.heap.size, 6, none⟩ = some (.slice A2 n2 c2) ∧ w'.cell? ⟨w.heap.size, 7, none⟩ = some (.slice A3 n3 c3) ∧ w'.cell? ⟨w.heap.size, 8, none⟩ = some (.slice A4 n4 c4) ∧ w'.cell? ⟨w.heap.size, 9, none⟩ = some (.slice A5 n5 c5) ∧ w'.cell? ⟨w.heap.size, 10, none⟩ = some (.slice (some ⟨bi, oi, none⟩) n6 c6) ∧ w'.cell? ⟨bi, oi + j * 2, none⟩ = some (.int .i64 op) ∧ w'.cell? ⟨bi, oi + j * 2 + 1, none⟩ = some (.int .i64 a))
            (first | exact HS4.out | exact HS0.out | go_keep)
            (first
              | ((with_reducible refine KW.out.mono ?_); rintro e w3 ⟨rfl, hb3⟩; have HB3 := Lib.hid (HD4.out.trans hb3); have HS4 := Lib.hid (HALLS.out _ HB3.out); clear hb3))
          clear HS4 HS0 HALLS KW HD4
          go_wp2_with fail
          go_roundw
          case rel => exact ⟨j + 1, HIN.out, by go_num, HBr.out.trans (HB3.out.mono HBr.out.size), HWA2⟩
          case measure => simp [intOf]; omega
        | false =>
          have he0 : ¬ wrongE p x (op, a) = 0 := of_decide_eq_false he
          have HWA2 : Hid (wrongs p x x.ins 0 = some (wrongE p x (op, a), j)) := Lib.hid (by rw [HW.out, HWA.out, if_neg he0])
          generalize wrongE p x (op, a) = z at *
          have he1 : (z == 0) = false := by simpa using he0
          have he2 : (z != 0) = true := by simpa using he0
          clear he he0 HW HWA
          go_wp2_with fail
          go_region_held3 (fun w' => w'.cell? ⟨w.heap.size, 0, none⟩ = some (.string x.name) ∧ w'.cell? ⟨w.heap.size, 1, none⟩ = some (.int .i64 x.kind) ∧ w'.cell? ⟨w.heap.size, 2, none⟩ = some (.int .i64 x.params) ∧ w'.cell? ⟨w.heap.size, 3, none⟩ = some (.int .i64 x.defaults) ∧ w'.cell? ⟨w.heap.size, 4, none⟩ = some (.bool x.gen) ∧ w'.cell? ⟨w.heap.size, 5, none⟩ = some (.slice A1 n1 c1) ∧ w'.cell? ⟨w.heap.size, 6, none⟩ = some (.slice A2 n2 c2) ∧ w'.cell? ⟨w.heap.size, 7, none⟩ = some (.slice A3 n3 c3) ∧ w'.cell? ⟨w.heap.size, 8, none⟩ = some (.slice A4 n4 c4) ∧ w'.cell? ⟨w.heap.size, 9, none⟩ = some (.slice A5 n5 c5) ∧ w'.cell? ⟨w.heap.size, 10, none⟩ = some (.slice (some ⟨bi, oi, none⟩) n6 c6) ∧ w'.cell? ⟨bi, oi + j * 2, none⟩ = some (.int .i64 op) ∧ w'.cell? ⟨bi, oi + j * 2 + 1, none⟩ = some (.int .i64 a))
            (first | exact HS4.out | exact HS0.out | go_keep)
            (first
              | ((with_reducible refine KW.out.mono ?_); rintro e w3 ⟨rfl, hb3⟩; have HB3 := Lib.hid (HD4.out.trans hb3); have HS4 := Lib.hid (HALLS.out _ HB3.out); clear hb3))
          clear HS4 HS0 HALLS KW HD4
          have HBZ := Lib.hid (HBw.out.trans (HB3.out.mono HBw.out.size))
          have HRS : Hid (heightsC p x = ([], z, (j : Int))) := Lib.hid (by rw [HR.out, HWA2.out]; rfl)
          go_wp2_with fail
          exact bodyPost_ret (v := .tuple #[.slice none 0 0, .int .i64 z, .int .i64 j]) (by simp [results, Try.results12, go_sem]) rfl (by rw [HRS.out]; exact HtR.bad HBZ.out z j)
      · obtain rfl : j = n6 := by omega
        have u0 := hbub.cell 0
        have u1 := hbub.cell 1
        have u2 := hbub.cell 2
        have u3 := hbub.cell 3
        have u4 := hbub.cell 4
        have u5 := hbub.cell 5
        have u6 := hbub.cell 6
        have u7 := hbub.cell 7
        have u8 := hbub.cell 8
        have u9 := hbub.cell 9
        have u10 := hbub.cell 10
        have ul := hbub.lt
        simp only [List.getElem?_toArray, List.getElem?_cons_zero, List.getElem?_cons_succ] at u0 u1 u2 u3 u4 u5 u6 u7 u8 u9 u10
        have hwn : wrongs p x x.ins 0 = none := by rw [HW.out, List.drop_of_length_le (by have := HL6.out; omega)]; rfl
        have HRS : Hid (heightsC p x = flowE p x.ins) := Lib.hid (by rw [HR.out, hwn]; rfl)
        have KF := Lib.hid (flow_ref (H.out.new HBw.out) (HCA.out.new HBw.out) (wrongs_none.1 hwn) HSZ.out)
        clear hb hbub hwn HW
        go_wp2_with ((with_reducible refine KF.out.mono ?_); rintro e w3 ⟨hb3, Ar, nr, cr, rfl, hlr, hrr⟩; have HB3 := Lib.hid hb3; have HLR := Lib.hid hlr; have HRR := Lib.hid hrr; clear hb3 hlr hrr)
        have HBZ := Lib.hid (HBw.out.trans (HB3.out.mono HBw.out.size))
        exact bodyPost_ret (v := .tuple #[.slice Ar nr cr, .int .i64 (flowE p x.ins).2.1, .int .i64 (flowE p x.ins).2.2]) (by simp [results, Try.results12, go_sem]) rfl (by rw [HRS.out]; exact ⟨HBZ.out, _, _, _, rfl, HLR.out, HRR.out⟩)
theorem heightsE_out {p : ProgD} {k : Int} (h : k < 0 ∨ (p.length : Int) ≤ k) : heightsE p k = ([], 1, 0) := by
  unfold heightsE
  split
  · rfl
  · rw [List.getElem?_eq_none (by omega)]
theorem heightsE_at {p : ProgD} {k : Nat} {x : CodeD} (h : p[k]? = some x) : heightsE p (k : Int) = heightsC p x := by
  unfold heightsE
  rw [if_neg (by omega), show (k : Int).toNat = k from rfl, h]
theorem rheights_any {w : World} {A : Option Addr} {n c : Nat} {p : ProgD} (h : ProgAt w A n c p) (hsz : ∀ x ∈ p, x.ins.length ≤ 600) (k : Int) :
    Calls Try.prog 12 #[.slice A n c, .int .i64 k] w (HtR w (heightsE p k)) := by
  by_cases hk : k < 0 ∨ (n : Int) ≤ k
  · rw [heightsE_out (by rw [h.len]; exact hk)]
    exact rheights_arg hk
  · obtain ⟨i, rfl⟩ := Int.eq_ofNat_of_zero_le (show 0 ≤ k by omega)
    obtain ⟨x, hx⟩ : ∃ x, p[i]? = some x := ⟨_, List.getElem?_eq_getElem (by rw [h.len]; omega)⟩
    rw [heightsE_at hx]
    exact rheights_code h hx (hsz x (List.mem_of_getElem? hx))
end Go.Proofs.Ytgnejkmojfhfpaa
