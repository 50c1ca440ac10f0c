/- VerifyKnown: the walk of the law. -/
import Derived.Test.YtgnejkmojfhfpaaLwa
import Derived.Test.YtgnejkmojfhfpaaKno
import Derived.Deep.RegionHeld3
import Derived.IntWalk
import Derived.Deep.QuietTactic
import Derived.BigQuiet
namespace Go.Proofs.Ytgnejkmojfhfpaa
open Go.RowKit
set_option linter.unusedVariables false
set_option linter.unusedSimpArgs false
attribute [local go_sem] Oper.semAt_some

theorem row_cell {w : World} {A : Option Addr} {n c : Nat} {l : List Int} (h : Rd w A n c 1 (l.map (Value.int .i64))) {i : Nat} {v : Int} (hi : l[i]? = some v) (hl : l.length = n) :
    ∃ b o, A = some ⟨b, o, none⟩ ∧ b < w.heap.size ∧ w.cell? ⟨b, o + i, none⟩ = some (.int .i64 v) := by
  have hlt := (List.getElem?_eq_some_iff.1 hi).1
  obtain ⟨b, o, e, hb, hc⟩ := h.2.2.2 (by omega)
  exact ⟨b, o, e, hb, hc i _ (by rw [List.getElem?_map, hi]; rfl)⟩
set_option maxRecDepth 100000 in
set_option maxHeartbeats 8000000 in
theorem law_known {w : World} {A : Option Addr} {n c : Nat} {p : ProgD} (h : ProgAt w A n c p) (k : Int) : Calls Try.prog 6 #[.slice A n c, .int .i64 k] w (LawR w) := by
  have hl := h.len
  have hmost := h.most
  unfold Most at hmost
  have H := Lib.hid h
  have HLN := Lib.hid hl
  have KH := Lib.hid (heights_any h k)
  have KB : Hid (∀ w', Below w.heap.size w w' → Calls Try.prog 10 #[.slice A n c] w' fun e w2 => e = .returned (.bool (bigB p)) ∧ w' = w2) := Lib.hid fun w' hb => big_any (h.new hb)
  cases hb : bigB p with
  | true =>
    rw [hb] at KB
    generalize heightsE p k = r at *
    obtain ⟨r1, r2, r3⟩ := r
    clear hb h hl
    go_enter Try.func6, Try.ntmps6
    go_wp2_with (first | ((with_reducible refine KH.out.mono ?_); rintro e w1 ⟨hb1, Ar, nr, cr, rfl, -, -⟩; have HB1 := Lib.hid hb1; clear hb1) | ((with_reducible refine (KB.out _ HB1.out).mono ?_); rintro e w2 ⟨rfl, rfl⟩))
    go_ret
    exact ⟨rfl, HB1.out⟩
  | false =>
    rw [hb] at KB
    have hsm := small_of hb
    clear hb
    by_cases hk : k < 0 ∨ (n : Int) ≤ k
    · rw [heightsE_out (by rw [hl]; exact hk)] at KH
      clear h hl hsm
      by_cases h0 : k < 0
      · have d0 : decide (k < 0) = true := decide_eq_true h0
        clear hk
        go_enter Try.func6, Try.ntmps6
        go_wp2_with (first | ((with_reducible refine KH.out.mono ?_); rintro e w1 ⟨hb1, Ar, nr, cr, rfl, hlr, -⟩; obtain rfl : nr = 0 := (by simpa using hlr.symm); have HB1 := Lib.hid hb1; clear hb1 hlr) | ((with_reducible refine (KB.out _ HB1.out).mono ?_); rintro e w2 ⟨rfl, rfl⟩))
        refine (seen_any w1).mono ?_
        rintro e w3 ⟨rfl, hb3⟩
        have HB3 := Lib.hid (HB1.out.trans (hb3.mono HB1.out.size))
        clear hb3
        go_wp2_with fail
        go_ret
        exact ⟨rfl, HB3.out⟩
      · have d0 : decide (k < 0) = false := decide_eq_false h0
        have d1 : decide ((n : Int) ≤ k) = true := decide_eq_true (by omega)
        clear hk h0
        go_enter Try.func6, Try.ntmps6
        go_wp2_with (first | ((with_reducible refine KH.out.mono ?_); rintro e w1 ⟨hb1, Ar, nr, cr, rfl, hlr, -⟩; obtain rfl : nr = 0 := (by simpa using hlr.symm); have HB1 := Lib.hid hb1; clear hb1 hlr) | ((with_reducible refine (KB.out _ HB1.out).mono ?_); rintro e w2 ⟨rfl, rfl⟩))
        refine (seen_any w1).mono ?_
        rintro e w3 ⟨rfl, hb3⟩
        have HB3 := Lib.hid (HB1.out.trans (hb3.mono HB1.out.size))
        clear hb3
        go_wp2_with fail
        go_ret
        exact ⟨rfl, HB3.out⟩
    · obtain ⟨k, rfl⟩ := Int.eq_ofNat_of_zero_le (show 0 ≤ k by omega)
      have hkn : k < n := by omega
      have d0 : decide ((k : Int) < 0) = false := decide_eq_false (by omega)
      have d1 : decide ((n : Int) ≤ (k : Int)) = false := decide_eq_false (by omega)
      have d2 : decide (n ≤ k) = false := decide_eq_false (by omega)
      obtain ⟨x, hx⟩ : ∃ x, p[k]? = some x := ⟨_, List.getElem?_eq_getElem (by rw [hl]; exact hkn)⟩
      rw [heightsE_at hx] at KH
      have hxs := (hsm.2 x (List.mem_of_getElem? hx)).1
      obtain ⟨be, oe, cs, rfl, hbe, hca, hce⟩ := h.at_ hx
      obtain ⟨A1, n1, c1, A2, n2, c2, A3, n3, c3, A4, n4, c4, A5, n5, c5, A6, n6, c6, rfl, -, -, -, -, -, r6, -⟩ := hca.parts
      have R6 := Lib.hid r6
      have hl6 := r6.1
      have HL6 := Lib.hid hl6
      have hn6 : n6 ≤ 600 := by omega
      have HE10 : Hid (w.cell? ⟨be, oe + k * 11 + 10, none⟩ = some (.slice A6 n6 c6)) := Lib.hid (hce 10 _ rfl)
      obtain ⟨⟨r1, r2, r3⟩, hr⟩ : ∃ r, r = heightsC p x := ⟨_, rfl⟩
      rw [← hr] at KH
      have HRR := Lib.hid hr
      clear hr hca hce r6 hl6 hx h hl hk hsm hxs
      by_cases he : r2 = 0
      case neg =>
        obtain ⟨e1, t, e2, ht⟩ := heights_bad HRR.out.symm he
        subst e1
        subst e2
        have he1 : (r2 == 0) = false := by simpa using he
        have he2 : (r2 != 0) = true := by simpa using he
        clear he
        by_cases ht0 : t = 0
        · subst ht0
          clear ht
          go_enter Try.func6, Try.ntmps6
          go_wp2_with (first | ((with_reducible refine KH.out.mono ?_); rintro e w1 ⟨hb1, Ar, nr, cr, rfl, hlr, -⟩; obtain rfl : nr = 0 := (by simpa using hlr.symm); have HB1 := Lib.hid hb1; clear hb1 hlr) | ((with_reducible refine (KB.out _ HB1.out).mono ?_); rintro e w2 ⟨rfl, rfl⟩))
          refine (seen_any w1).mono ?_
          rintro e w3 ⟨rfl, hb3⟩
          have HB3 := Lib.hid (HB1.out.trans (hb3.mono HB1.out.size))
          clear hb3
          go_wp2_with fail
          go_ret
          exact ⟨rfl, HB3.out⟩
        · have htl : t < n6 := by have := HL6.out; omega
          have f0 : decide ((0 : Int) ≤ (t : Int)) = true := decide_eq_true (by omega)
          have f1 : ((t : Int) == 0) = false := by simp; omega
          have f2 : decide (t < n6) = true := decide_eq_true htl
          have f3 : decide ((t : Int) < (n6 : Int)) = true := decide_eq_true (by omega)
          clear ht ht0
          go_enter Try.func6, Try.ntmps6
          go_wp2_with (first | ((with_reducible refine KH.out.mono ?_); rintro e w1 ⟨hb1, Ar, nr, cr, rfl, hlr, -⟩; obtain rfl : nr = 0 := (by simpa using hlr.symm); have HB1 := Lib.hid hb1; clear hb1 hlr) | ((with_reducible refine (KB.out _ HB1.out).mono ?_); rintro e w2 ⟨rfl, rfl⟩))
          refine (seen_any w1).mono ?_
          rintro e w3 ⟨rfl, hb3⟩
          have HB3 := Lib.hid (HB1.out.trans (hb3.mono HB1.out.size))
          have e10 := (HB3.out.cell (p := ⟨be, oe + k * 11 + 10, none⟩) hbe).trans HE10.out
          have hbe3 : be < w3.heap.size := by have := HB3.out.size; omega
          clear hb3
          go_wp2_with fail
          go_ret
          exact ⟨rfl, HB3.out⟩
      case pos =>
        subst he
        obtain ⟨hk0, -⟩ := fixed_of HRR.out.symm
        subst hk0
        obtain ⟨st, hst, hsmall⟩ := fixed_small HRR.out.symm
        have hlen : r1.length = n6 := by rw [hst.heights, List.length_map, hst.len, HL6.out]
        have hpos : 0 < n6 := by have := hst.pos; have := HL6.out; omega
        have hr0 : r1[0]? = some 0 := (height_low hst hst.first).1
        have HST := Lib.hid hst
        have HSM : Hid (∀ (i : Nat) s, st[i]? = some (some s) → s.h < many ∧ s.h < 1000000) := Lib.hid fun i s hi => by
          have h1 := (hsmall i s hi).1
          have h2 := HL6.out
          unfold many
          omega
        have HLR := Lib.hid hlen
        have HR0 := Lib.hid hr0
        clear hst hsmall hlen hr0
        go_enter Try.func6, Try.ntmps6
        go_wp2_with (first | ((with_reducible refine KH.out.mono ?_); rintro e w1 ⟨hb1, Ar, nr, cr, rfl, hlr, hrd⟩; obtain rfl : n6 = nr := (by have := HLR.out; simp only at hlr; omega); have HRD := Lib.hid hrd; obtain ⟨lb, lo, rfl, hlb, hc0⟩ := row_cell hrd HR0.out HLR.out; rw [Nat.add_zero] at hc0; have HB1 := Lib.hid hb1; have e10 := (HB1.out.cell (p := ⟨be, oe + k * 11 + 10, none⟩) hbe).trans HE10.out; have hbe1 : be < w1.heap.size := (by have := HB1.out.size; omega); clear hb1 hlr hrd) | ((with_reducible refine (KB.out _ HB1.out).mono ?_); rintro e w2 ⟨rfl, rfl⟩))
        clear hc0 e10
        go_loopw [8] (fun i wr => ∃ j : Nat, j ≤ n6 ∧ i = .int .i64 j ∧ Below w1.heap.size w1 wr) (fun i _ => n6 - (intOf i).toNat)
        case atStart => exact ⟨0, by omega, rfl, Below.refl _ _⟩
        case round =>
          obtain ⟨j, hj, rfl, hb⟩ := hrel
          have HBr := Lib.hid hb
          have HBw := Lib.hid (HB1.out.trans (hb.mono HB1.out.size))
          have hzr := hb.size
          by_cases hlt : j < n6
          · have hdj : decide (j < n6) = true := decide_eq_true hlt
            obtain ⟨⟨op, a⟩, hy⟩ : ∃ y, x.ins[j]? = some y := ⟨_, List.getElem?_eq_getElem (by have := HL6.out; omega)⟩
            obtain ⟨bi, oi, rfl, hbi, hci⟩ := R6.out.at_ (f := insCs) (m := 2) (fun _ => rfl) hy
            obtain ⟨o, ho⟩ : ∃ o, st[j]? = some o := ⟨_, List.getElem?_eq_getElem (by rw [HST.out.len, HL6.out]; exact hlt)⟩
            obtain ⟨hlj, hlo⟩ := height_low HST.out ho
            obtain ⟨kd, tk, lv', hef, hmay, hjmp⟩ := right_parts (HST.out.right _ (List.mem_of_getElem? hy))
            obtain ⟨_, _, hop1, hop2⟩ := effOf_le hef
            have hja : jumpsB op = true → 0 ≤ a := fun hj' => jump_pos (x := (op, a)) hef hmay hj'
            have hjb : jumpsB op = true → a < n6 := fun hj' => by have h8 : a < x.ins.length := hjmp hj'; have h9 := HL6.out; omega
            have HY := Lib.hid hy
            have HO := Lib.hid ho
            have hrc : wr.cell? ⟨lb, lo + j, none⟩ = some (.int .i64 (heightOf o)) := by
              obtain ⟨b', o', e', _, hc'⟩ := row_cell HRD.out hlj HLR.out
              cases e'
              exact (HBr.out.cell (p := ⟨lb, lo + j, none⟩) hlb).trans hc'
            have hlbr : lb < wr.heap.size := by omega
            have i0 : wr.cell? ⟨bi, oi + j * 2, none⟩ = some (.int .i64 op) := (HBw.out.cell (p := ⟨bi, oi + j * 2, none⟩) hbi).trans (hci 0 _ rfl)
            have i1 : wr.cell? ⟨bi, oi + j * 2 + 1, none⟩ = some (.int .i64 a) := (HBw.out.cell (p := ⟨bi, oi + j * 2 + 1, none⟩) hbi).trans (hci 1 _ rfl)
            have e10 := (HBw.out.cell (p := ⟨be, oe + k * 11 + 10, none⟩) hbe).trans HE10.out
            have hbir : bi < wr.heap.size := by have := HBw.out.size; omega
            have hber : be < wr.heap.size := by have := HBw.out.size; omega
            have p0 : decide (op < 1) = false := decide_eq_false (by omega)
            have p1 : decide (57 ≤ op) = false := decide_eq_false (by omega)
            have p2 : decide (heightOf o < -1) = false := decide_eq_false (by omega)
            have KJ : Hid (∀ w, Calls Try.prog 18 #[.int .i64 op] w fun e w' => e = .returned (.bool (jumpsB op)) ∧ w = w') := Lib.hid (jumps_any op)
            have HIN : Hid (j + 1 ≤ n6) := Lib.hid (by omega)
            have HHL := Lib.hid hlo
            clear hy ho hci hef hmay hjmp hlj hb hop1 hop2 hlo
            cases o with
            | none =>
              as_aux_lemma =>
              simp only [heightOf] at hrc p2
              cases hjj : jumpsB op with
              | true =>
                have q0 : decide (a < 0) = false := decide_eq_false (by have := hja hjj; omega)
                have q1 : decide ((n6 : Int) ≤ a) = false := decide_eq_false (by have := hjb hjj; omega)
                rw [hjj] at KJ
                clear hja hjb hjj
                go_wp2_with ((with_reducible refine (KJ.out _).mono ?_); rintro e w2 ⟨rfl, rfl⟩)
                go_roundw
                case rel => exact ⟨j + 1, HIN.out, by go_num, HBr.out.trans (by repeat (first | exact Below.refl _ _ | assumption | refine Below.setCell ?_ (by first | (simp; done) | (simp; omega) | omega) _ | refine below_drewN ?_ _ | refine Below.drew ?_ | refine Below.alloc ?_ (by first | (simp; done) | (simp; omega) | omega) _))⟩
                case measure => simp [intOf]; omega
              | false =>
                rw [hjj] at KJ
                clear hja hjb hjj
                go_wp2_with ((with_reducible refine (KJ.out _).mono ?_); rintro e w2 ⟨rfl, rfl⟩)
                go_roundw
                case rel => exact ⟨j + 1, HIN.out, by go_num, HBr.out.trans (by repeat (first | exact Below.refl _ _ | assumption | refine Below.setCell ?_ (by first | (simp; done) | (simp; omega) | omega) _ | refine below_drewN ?_ _ | refine Below.drew ?_ | refine Below.alloc ?_ (by first | (simp; done) | (simp; omega) | omega) _))⟩
                case measure => simp [intOf]; omega
            | some s =>
              simp only [heightOf] at hrc p2 HHL
              obtain ⟨t1, t2, t3, t4⟩ := known_step HST.out (fun i s hi => (HSM.out i s hi).1) HO.out HY.out
              have hs0 := HST.out.low j s HO.out
              have hs1 := (HSM.out j s HO.out).2
              have p3 : decide (s.h < 0) = false := decide_eq_false (by omega)
              obtain ⟨sh, sbl⟩ := s
              simp only at hrc p2 p3 t1 t2 t3 t4 hs0 hs1
              have hal : Below wr.heap.size wr (wr.alloc (.cells #[.int .i64 op, .int .i64 a] 43)) := (by repeat (first | exact Below.refl _ _ | assumption | refine Below.setCell ?_ (by first | (simp; done) | (simp; omega) | omega) _ | refine below_drewN ?_ _ | refine Below.drew ?_ | refine Below.alloc ?_ (by first | (simp; done) | (simp; omega) | omega) _))
              have hxb := Blk.new wr 43 #[.int .i64 op, .int .i64 a]
              have HXB := Lib.hid hxb
              have HAL := Lib.hid hal
              have KT : Hid (Calls Try.prog 19 #[.slice (some ⟨be, oe, none⟩) n c, .agg #[.int .i64 op, .int .i64 a], .int .i64 sh] (wr.alloc (.cells #[.int .i64 op, .int .i64 a] 43)).drew (TkR (wr.alloc (.cells #[.int .i64 op, .int .i64 a] 43)).drew (takesE p (op, a) sh).1 (takesE p (op, a) sh).2)) := Lib.hid
                (takes_any (H.out.new (HBw.out.trans (((HAL.out.drew)).mono HBw.out.size))) (HST.out.right _ (List.mem_of_getElem? HY.out)) hs0 (by omega))
              have HCB : Hid (∀ (t : Nat) v, r1[t]? = some v → t < n6 ∧ ∀ w', Below wr.heap.size wr w' → w'.cell? ⟨lb, lo + t, none⟩ = some (.int .i64 v)) := Lib.hid fun t v hv => by
                refine ⟨by have h8 := (List.getElem?_eq_some_iff.1 hv).1; have h9 := HLR.out; omega, fun w' hw' => ?_⟩
                obtain ⟨b', o', e', _, hc'⟩ := row_cell HRD.out hv HLR.out
                cases e'
                exact (hw'.cell (p := ⟨lb, lo + t, none⟩) hlbr).trans ((HBr.out.cell (p := ⟨lb, lo + t, none⟩) hlb).trans hc')
              have T1 := Lib.hid t1
              have T2 := Lib.hid t2
              have T3 := Lib.hid t3
              have T4 := Lib.hid t4
              have htb := (takes_bound H.out (HST.out.right _ (List.mem_of_getElem? HY.out)) hs0 (by omega) : _ ∧ _)
              generalize (takesE p (op, a) sh).1 = T at *
              generalize (takesE p (op, a) sh).2 = lv at *
              clear t1 t2 t3 t4 hxb hal HO
              cases hjj : jumpsB op with
              | true =>
                as_aux_lemma =>
                have q0 : decide (a < 0) = false := decide_eq_false (by have := hja hjj; omega)
                have q1 : decide ((n6 : Int) ≤ a) = false := decide_eq_false (by have := hjb hjj; omega)
                have hne : ¬ Ends op := by
                  unfold jumpsB at hjj
                  simp only [decide_eq_true_eq] at hjj
                  unfold Ends
                  omega
                rw [hjj] at KJ
                clear hja hjb hjj
                go_wp2_with ((with_reducible refine (KJ.out _).mono ?_); rintro e w2 ⟨rfl, rfl⟩)
                generalize hWW : wr.alloc (.cells #[.int .i64 op, .int .i64 a] 43) = W4 at *
                have HD4 : Hid (Below W4.heap.size W4 W4.drew) := Lib.hid (by repeat (first | exact Below.refl _ _ | assumption | refine Below.setCell ?_ (by first | (simp; done) | (simp; omega) | omega) _ | refine below_drewN ?_ _ | refine Below.drew ?_ | refine Below.alloc ?_ (by first | (simp; done) | (simp; omega) | omega) _))
                have hxl := HXB.out.lt
                have x0 := HXB.out.cell 0
                have x1 := HXB.out.cell 1
                simp only [List.getElem?_toArray, List.getElem?_cons_zero, List.getElem?_cons_succ] at x0 x1
                have hlb4 : lb < W4.heap.size := by have := HAL.out.size; omega
                have hr4 := (HAL.out.cell (p := ⟨lb, lo + j, none⟩) hlbr).trans hrc
                have HALLS : Hid (∀ w', Below W4.heap.size W4 w' → (fun w' => w'.cell? ⟨wr.heap.size, 0, none⟩ = some (.int .i64 op) ∧ w'.cell? ⟨wr.heap.size, 1, none⟩ = some (.int .i64 a) ∧ w'.cell? ⟨lb, lo + j, none⟩ = some (.int .i64 sh)) w') := Lib.hid fun w' hb => ⟨(hb.cell (p := ⟨wr.heap.size, 0, none⟩) hxl).trans x0, (hb.cell (p := ⟨wr.heap.size, 1, none⟩) hxl).trans x1, (hb.cell (p := ⟨lb, lo + j, none⟩) hlb4).trans hr4⟩
                have HS0 := Lib.hid (HALLS.out _ HD4.out)
                clear x0 x1 hr4 hWW i0 i1 e10 hrc
                go_region_held3 (fun w' => w'.cell? ⟨wr.heap.size, 0, none⟩ = some (.int .i64 op) ∧ w'.cell? ⟨wr.heap.size, 1, none⟩ = some (.int .i64 a) ∧ w'.cell? ⟨lb, lo + j, none⟩ = some (.int .i64 sh))
                  (first | exact HS4.out | exact HS0.out | go_keep)
                  (first
                    | ((with_reducible refine KT.out.mono ?_); rintro e w4 ⟨rfl, hb4⟩; have HB4 := Lib.hid (HD4.out.trans hb4); have HS4 := Lib.hid (HALLS.out _ HB4.out); clear hb4))
                obtain ⟨v0, v1, v2⟩ := HS4.out
                clear HS4 HS0 HALLS KT HD4
                have HBX := Lib.hid (HAL.out.trans (HB4.out.mono HAL.out.size))
                have hz4 := HBX.out.size
                have hxl4 : wr.heap.size < w4.heap.size := by have := HB4.out.size; omega
                have hlb5 : lb < w4.heap.size := by omega
                have q2 : decide (sh < T) = false := decide_eq_false (by have := T1.out; omega)
                have o50 : (op == 50) = false := by simp; unfold Ends at hne; omega
                have o51 : (op == 51) = false := by simp; unfold Ends at hne; omega
                have o52 : (op == 52) = false := by simp; unfold Ends at hne; omega
                have o55 : (op == 55) = false := by simp; unfold Ends at hne; omega
                have o56 : (op == 56) = false := by simp; unfold Ends at hne; omega
                by_cases h36 : op = 36
                · as_aux_lemma =>
                  subst h36
                  obtain ⟨t, rfl, ht, hv⟩ := T3.out rfl
                  have c1 := (HCB.out _ _ hv).2 _ HBX.out
                  have htn := (HCB.out _ _ hv).1
                  clear hv ht hne T2 T3 T4
                  go_wp2_with fail
                  simp only [List.append]
                  go_quiet (fail)
                  go_wp2_with fail
                  go_roundw
                  case rel => exact ⟨j + 1, HIN.out, by go_num, below_drewN (HBr.out.trans (HBX.out.mono HBr.out.size)) _⟩
                  case measure => simp [intOf]; omega
                · as_aux_lemma =>
                  have o36 : (op == 36) = false := by simpa using h36
                  have o36' : (op != 36) = true := by simpa using h36
                  have hj1 : j + 1 < n6 := (HCB.out _ _ (T2.out hne h36).2).1
                  have c1 := (HCB.out _ _ (T2.out hne h36).2).2 _ HBX.out
                  have g0 : decide (n6 ≤ j + 1) = false := decide_eq_false (by omega)
                  have g1 : decide ((n6 : Int) ≤ (j : Int) + 1) = false := decide_eq_false (by omega)
                  have s1 : IntKind.i64.wrap ((j : Int) + 1) = (j : Int) + 1 := IntWalk.i64_in _ (by omega)
                  have s2 : IntKind.i64.wrap (sh - T) = sh - T := IntWalk.i64_in _ (by omega)
                  have s3 : IntKind.i64.wrap (sh - T + lv) = sh - T + lv := IntWalk.i64_in _ (by omega)
                  have s5 : (0 : Int) ≤ (j : Int) + 1 := by omega
                  have s6 : ((j : Int) + 1).toNat = j + 1 := by omega
                  clear hne h36 T2
                  by_cases h47 : op = 47
                  · subst h47
                    obtain ⟨t, rfl, ht, hv⟩ := T4.out rfl
                    have c2 := (HCB.out _ _ hv).2 _ HBX.out
                    have s4 : IntKind.i64.wrap (sh + 1) = sh + 1 := IntWalk.i64_in _ (by omega)
                    have htn := (HCB.out _ _ hv).1
                    clear hv ht T3 T4
                    go_wp2_with fail
                    simp only [List.append]
                    go_quiet (fail)
                    go_wp2_with fail
                    go_roundw
                    case rel => exact ⟨j + 1, HIN.out, by go_num, below_drewN (HBr.out.trans (HBX.out.mono HBr.out.size)) _⟩
                    case measure => simp [intOf]; omega
                  · have o47 : (op == 47) = false := by simpa using h47
                    clear h47 T3 T4
                    go_wp2_with fail
                    simp only [List.append]
                    go_quiet (fail)
                    go_wp2_with fail
                    go_roundw
                    case rel => exact ⟨j + 1, HIN.out, by go_num, below_drewN (HBr.out.trans (HBX.out.mono HBr.out.size)) _⟩
                    case measure => simp [intOf]; omega
              | false =>
                as_aux_lemma =>
                have h36 : op ≠ 36 := by
                  rintro rfl
                  exact absurd hjj (by decide)
                have h47 : op ≠ 47 := by
                  rintro rfl
                  exact absurd hjj (by decide)
                rw [hjj] at KJ
                clear hja hjb hjj
                go_wp2_with ((with_reducible refine (KJ.out _).mono ?_); rintro e w2 ⟨rfl, rfl⟩)
                generalize hWW : wr.alloc (.cells #[.int .i64 op, .int .i64 a] 43) = W4 at *
                have HD4 : Hid (Below W4.heap.size W4 W4.drew) := Lib.hid (by repeat (first | exact Below.refl _ _ | assumption | refine Below.setCell ?_ (by first | (simp; done) | (simp; omega) | omega) _ | refine below_drewN ?_ _ | refine Below.drew ?_ | refine Below.alloc ?_ (by first | (simp; done) | (simp; omega) | omega) _))
                have hxl := HXB.out.lt
                have x0 := HXB.out.cell 0
                have x1 := HXB.out.cell 1
                simp only [List.getElem?_toArray, List.getElem?_cons_zero, List.getElem?_cons_succ] at x0 x1
                have hlb4 : lb < W4.heap.size := by have := HAL.out.size; omega
                have hr4 := (HAL.out.cell (p := ⟨lb, lo + j, none⟩) hlbr).trans hrc
                have HALLS : Hid (∀ w', Below W4.heap.size W4 w' → (fun w' => w'.cell? ⟨wr.heap.size, 0, none⟩ = some (.int .i64 op) ∧ w'.cell? ⟨wr.heap.size, 1, none⟩ = some (.int .i64 a) ∧ w'.cell? ⟨lb, lo + j, none⟩ = some (.int .i64 sh)) w') := Lib.hid fun w' hb => ⟨(hb.cell (p := ⟨wr.heap.size, 0, none⟩) hxl).trans x0, (hb.cell (p := ⟨wr.heap.size, 1, none⟩) hxl).trans x1, (hb.cell (p := ⟨lb, lo + j, none⟩) hlb4).trans hr4⟩
                have HS0 := Lib.hid (HALLS.out _ HD4.out)
                clear x0 x1 hr4 hWW i0 i1 e10 hrc
                go_region_held3 (fun w' => w'.cell? ⟨wr.heap.size, 0, none⟩ = some (.int .i64 op) ∧ w'.cell? ⟨wr.heap.size, 1, none⟩ = some (.int .i64 a) ∧ w'.cell? ⟨lb, lo + j, none⟩ = some (.int .i64 sh))
                  (first | exact HS4.out | exact HS0.out | go_keep)
                  (first
                    | ((with_reducible refine KT.out.mono ?_); rintro e w4 ⟨rfl, hb4⟩; have HB4 := Lib.hid (HD4.out.trans hb4); have HS4 := Lib.hid (HALLS.out _ HB4.out); clear hb4))
                obtain ⟨v0, v1, v2⟩ := HS4.out
                clear HS4 HS0 HALLS KT HD4
                have HBX := Lib.hid (HAL.out.trans (HB4.out.mono HAL.out.size))
                have hz4 := HBX.out.size
                have hxl4 : wr.heap.size < w4.heap.size := by have := HB4.out.size; omega
                have hlb5 : lb < w4.heap.size := by omega
                have q2 : decide (sh < T) = false := decide_eq_false (by have := T1.out; omega)
                have o36 : (op == 36) = false := by simpa using h36
                have o36' : (op != 36) = true := by simpa using h36
                have o47 : (op == 47) = false := by simpa using h47
                by_cases he : Ends op
                · as_aux_lemma =>
                  clear h36 h47 T2 T3 T4
                  unfold Ends at he
                  rcases he with rfl | rfl | rfl | rfl | rfl
                  all_goals
                    go_wp2_with fail
                    simp only [List.append]
                    go_quiet (fail)
                    go_wp2_with fail
                    go_roundw
                    case rel => exact ⟨j + 1, HIN.out, by go_num, below_drewN (HBr.out.trans (HBX.out.mono HBr.out.size)) _⟩
                    case measure => simp [intOf]; omega
                · as_aux_lemma =>
                  have hne := he
                  have o50 : (op == 50) = false := by simp; unfold Ends at he; omega
                  have o51 : (op == 51) = false := by simp; unfold Ends at he; omega
                  have o52 : (op == 52) = false := by simp; unfold Ends at he; omega
                  have o55 : (op == 55) = false := by simp; unfold Ends at he; omega
                  have o56 : (op == 56) = false := by simp; unfold Ends at he; omega
                  clear he h47 T3 T4
                  have hj1 : j + 1 < n6 := (HCB.out _ _ (T2.out hne h36).2).1
                  have c1 := (HCB.out _ _ (T2.out hne h36).2).2 _ HBX.out
                  have g0 : decide (n6 ≤ j + 1) = false := decide_eq_false (by omega)
                  have g1 : decide ((n6 : Int) ≤ (j : Int) + 1) = false := decide_eq_false (by omega)
                  have s1 : IntKind.i64.wrap ((j : Int) + 1) = (j : Int) + 1 := IntWalk.i64_in _ (by omega)
                  have s2 : IntKind.i64.wrap (sh - T) = sh - T := IntWalk.i64_in _ (by omega)
                  have s3 : IntKind.i64.wrap (sh - T + lv) = sh - T + lv := IntWalk.i64_in _ (by omega)
                  have s5 : (0 : Int) ≤ (j : Int) + 1 := by omega
                  have s6 : ((j : Int) + 1).toNat = j + 1 := by omega
                  clear hne h36 T2
                  go_wp2_with fail
                  simp only [List.append]
                  go_quiet (fail)
                  go_wp2_with fail
                  go_roundw
                  case rel => exact ⟨j + 1, HIN.out, by go_num, below_drewN (HBr.out.trans (HBX.out.mono HBr.out.size)) _⟩
                  case measure => simp [intOf]; omega
          · obtain rfl : j = n6 := by omega
            go_wp2_with fail
            refine (seen_any wr).mono ?_
            rintro e w4 ⟨rfl, hb4⟩
            have HB4 := Lib.hid (HBw.out.trans (hb4.mono HBw.out.size))
            clear hb4
            go_wp2_with fail
            go_ret
            exact ⟨rfl, HB4.out⟩
end Go.Proofs.Ytgnejkmojfhfpaa
