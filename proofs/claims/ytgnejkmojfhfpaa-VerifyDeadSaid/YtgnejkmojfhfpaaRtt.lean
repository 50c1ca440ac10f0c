/- The reference's Const. The reference's tables. -/
import Derived.Test.YtgnejkmojfhfpaaPrg
namespace Go.Proofs.Ytgnejkmojfhfpaa
open Go.RowKit
set_option linter.unusedVariables false
set_option linter.unusedSimpArgs false

set_option maxRecDepth 100000 in
set_option maxHeartbeats 1000000 in
theorem const_any (k n : Int) (s : ByteArray) (w : World) : Calls Try.prog 55 #[.agg #[.int .i64 k, .int .i64 n, .string s]] w fun e w' => e = .returned (.bool (flatV ⟨k, n, s⟩)) ∧ Below w.heap.size w w' := by
  have hs : s = ⟨#[]⟩ ∨ (¬ s = ⟨#[]⟩ ∧ (s == ⟨#[]⟩) = false ∧ s.toList.isEmpty = false) := by
    by_cases h : s = ⟨#[]⟩
    · exact .inl h
    · right
      obtain ⟨⟨l⟩⟩ := s
      cases l with
      | nil => exact absurd rfl h
      | cons x l => exact ⟨h, rfl, by rw [ByteArray.toList_eq]; rfl⟩
  by_cases h0 : k = 0
  · subst h0
    rcases hs with rfl | ⟨h1, h2, h3⟩
    · by_cases hn : n = 0
      · subst hn
        go_enter Try.func55, Try.ntmps55
        go_wp2_with fail
        go_ret
        exact ⟨rfl, (by repeat (first | exact Below.refl _ _ | assumption | refine Below.setCell ?_ (by first | (simp; done) | (simp; omega) | omega) _ | refine below_drewN ?_ _ | refine Below.drew ?_ | refine Below.alloc ?_ (by first | (simp; done) | (simp; omega) | omega) _))⟩
      · have hn1 : (n == 0) = false := by simpa using hn
        rw [show flatV ⟨0, n, ⟨#[]⟩⟩ = false by simp [flatV, hn]]
        go_enter Try.func55, Try.ntmps55
        go_wp2_with fail
        go_ret
        exact ⟨rfl, (by repeat (first | exact Below.refl _ _ | assumption | refine Below.setCell ?_ (by first | (simp; done) | (simp; omega) | omega) _ | refine below_drewN ?_ _ | refine Below.drew ?_ | refine Below.alloc ?_ (by first | (simp; done) | (simp; omega) | omega) _))⟩
    · rw [show flatV ⟨0, n, s⟩ = false by simp [flatV, h1]]
      by_cases hn : n = 0
      · subst hn
        go_enter Try.func55, Try.ntmps55
        go_wp2_with fail
        go_ret
        exact ⟨rfl, (by repeat (first | exact Below.refl _ _ | assumption | refine Below.setCell ?_ (by first | (simp; done) | (simp; omega) | omega) _ | refine below_drewN ?_ _ | refine Below.drew ?_ | refine Below.alloc ?_ (by first | (simp; done) | (simp; omega) | omega) _))⟩
      · have hn1 : (n == 0) = false := by simpa using hn
        go_enter Try.func55, Try.ntmps55
        go_wp2_with fail
        go_ret
        exact ⟨rfl, (by repeat (first | exact Below.refl _ _ | assumption | refine Below.setCell ?_ (by first | (simp; done) | (simp; omega) | omega) _ | refine below_drewN ?_ _ | refine Below.drew ?_ | refine Below.alloc ?_ (by first | (simp; done) | (simp; omega) | omega) _))⟩
  have k0 : (k == 0) = false := by simpa using h0
  by_cases h1 : k = 1
  · subst h1
    rcases hs with rfl | ⟨h1, h2, h3⟩
    · by_cases hn : n = 0
      · subst hn
        go_enter Try.func55, Try.ntmps55
        go_wp2_with fail
        go_ret
        exact ⟨rfl, (by repeat (first | exact Below.refl _ _ | assumption | refine Below.setCell ?_ (by first | (simp; done) | (simp; omega) | omega) _ | refine below_drewN ?_ _ | refine Below.drew ?_ | refine Below.alloc ?_ (by first | (simp; done) | (simp; omega) | omega) _))⟩
      · have hn1 : (n == 0) = false := by simpa using hn
        by_cases hm : n = 1
        · subst hm
          go_enter Try.func55, Try.ntmps55
          go_wp2_with fail
          go_ret
          exact ⟨rfl, (by repeat (first | exact Below.refl _ _ | assumption | refine Below.setCell ?_ (by first | (simp; done) | (simp; omega) | omega) _ | refine below_drewN ?_ _ | refine Below.drew ?_ | refine Below.alloc ?_ (by first | (simp; done) | (simp; omega) | omega) _))⟩
        · have hm1 : (n == 1) = false := by simpa using hm
          rw [show flatV ⟨1, n, ⟨#[]⟩⟩ = false by simp [flatV, hn, hm]]
          go_enter Try.func55, Try.ntmps55
          go_wp2_with fail
          go_ret
          exact ⟨rfl, (by repeat (first | exact Below.refl _ _ | assumption | refine Below.setCell ?_ (by first | (simp; done) | (simp; omega) | omega) _ | refine below_drewN ?_ _ | refine Below.drew ?_ | refine Below.alloc ?_ (by first | (simp; done) | (simp; omega) | omega) _))⟩
    · rw [show flatV ⟨1, n, s⟩ = false by simp [flatV, h1]]
      go_enter Try.func55, Try.ntmps55
      go_wp2_with fail
      all_goals go_ret
      all_goals exact ⟨rfl, (by repeat (first | exact Below.refl _ _ | assumption | refine Below.setCell ?_ (by first | (simp; done) | (simp; omega) | omega) _ | refine below_drewN ?_ _ | refine Below.drew ?_ | refine Below.alloc ?_ (by first | (simp; done) | (simp; omega) | omega) _))⟩
  have k1 : (k == 1) = false := by simpa using h1
  by_cases h2 : k = 2
  · subst h2
    rcases hs with rfl | ⟨h1, h2, h3⟩
    · go_enter Try.func55, Try.ntmps55
      go_wp2_with fail
      go_ret
      exact ⟨rfl, (by repeat (first | exact Below.refl _ _ | assumption | refine Below.setCell ?_ (by first | (simp; done) | (simp; omega) | omega) _ | refine below_drewN ?_ _ | refine Below.drew ?_ | refine Below.alloc ?_ (by first | (simp; done) | (simp; omega) | omega) _))⟩
    · rw [show flatV ⟨2, n, s⟩ = false by simp [flatV, h1]]
      go_enter Try.func55, Try.ntmps55
      go_wp2_with fail
      go_ret
      exact ⟨rfl, (by repeat (first | exact Below.refl _ _ | assumption | refine Below.setCell ?_ (by first | (simp; done) | (simp; omega) | omega) _ | refine below_drewN ?_ _ | refine Below.drew ?_ | refine Below.alloc ?_ (by first | (simp; done) | (simp; omega) | omega) _))⟩
  have k2 : (k == 2) = false := by simpa using h2
  clear hs
  by_cases h3 : k = 3
  · subst h3
    by_cases hn : n = 0
    · subst hn
      go_enter Try.func55, Try.ntmps55
      go_wp2_with fail
      go_ret
      exact ⟨rfl, (by repeat (first | exact Below.refl _ _ | assumption | refine Below.setCell ?_ (by first | (simp; done) | (simp; omega) | omega) _ | refine below_drewN ?_ _ | refine Below.drew ?_ | refine Below.alloc ?_ (by first | (simp; done) | (simp; omega) | omega) _))⟩
    · have hn1 : (n == 0) = false := by simpa using hn
      rw [show flatV ⟨3, n, s⟩ = false by simp [flatV, hn]]
      go_enter Try.func55, Try.ntmps55
      go_wp2_with fail
      go_ret
      exact ⟨rfl, (by repeat (first | exact Below.refl _ _ | assumption | refine Below.setCell ?_ (by first | (simp; done) | (simp; omega) | omega) _ | refine below_drewN ?_ _ | refine Below.drew ?_ | refine Below.alloc ?_ (by first | (simp; done) | (simp; omega) | omega) _))⟩
  · have k3 : (k == 3) = false := by simpa using h3
    rw [show flatV ⟨k, n, s⟩ = false by simp [flatV, h0, h1, h2, h3]]
    clear h0 h1 h2 h3
    go_enter Try.func55, Try.ntmps55
    go_wp2_with fail
    go_ret
    exact ⟨rfl, (by repeat (first | exact Below.refl _ _ | assumption | refine Below.setCell ?_ (by first | (simp; done) | (simp; omega) | omega) _ | refine below_drewN ?_ _ | refine Below.drew ?_ | refine Below.alloc ?_ (by first | (simp; done) | (simp; omega) | omega) _))⟩

/-- tablesOk, of its parts -/
def tabR (kd pa de : Int) (ge : Bool) (nl nc nf : Nat) (fl : Bool) : Bool :=
  decide (1 ≤ kd ∧ kd ≤ 3) && (decide (kd = 2) || (decide (pa = 0) && !ge)) && (decide (kd ≠ 1) || decide (nf + nc = 0)) && decide (0 ≤ pa ∧ pa ≤ nl ∧ 0 ≤ de ∧ de ≤ pa) && fl
set_option maxRecDepth 100000 in
set_option maxHeartbeats 8000000 in
theorem rtables_any {w : World} {c : CodeD} {cs : List Value} (h : CodeAt w c cs) :
    Calls Try.prog 27 #[.agg cs.toArray] w fun e w' => e = .returned (.bool (!tablesOk c)) ∧ Below w.heap.size w w' := by
  obtain ⟨A1, n1, c1, A2, n2, c2, A3, n3, c3, A4, n4, c4, A5, n5, c5, A6, n6, c6, rfl, r1, r2, r3, r4, r5, r6, m1, m2, m3, m4, m5, m6⟩ := h.parts
  have ht : tablesOk c = tabR c.kind c.params c.defaults c.gen n1 n2 n3 (c.consts.all flatV) := by rw [← r1.1, ← r2.1, ← r3.1]; rfl
  rw [ht]
  have R5 := Lib.hid r5
  have hl5 := r5.1
  have HL5 := Lib.hid hl5
  have hn5 := r5.le
  obtain ⟨nm, kd, pa, de, ge, lo, ce, fr, na, co, is⟩ := c
  simp only at R5 HL5 ⊢
  unfold Most at m1 m2 m3 m5
  clear r1 r2 r3 r4 r5 r6 m4 m6 ht h hl5
  by_cases k1 : kd < 1
  · have d0 : decide (kd < 1) = true := decide_eq_true k1
    rw [show (!tabR kd pa de ge n1 n2 n3 (co.all flatV)) = true by unfold tabR; rw [decide_eq_false (p := 1 ≤ kd ∧ kd ≤ 3) (by omega)]; simp]
    clear R5 HL5
    go_enter Try.func27, Try.ntmps27
    go_wp2_with fail
    go_ret
    exact ⟨rfl, (by repeat (first | exact Below.refl _ _ | assumption | refine Below.setCell ?_ (by first | (simp; done) | (simp; omega) | omega) _ | refine below_drewN ?_ _ | refine Below.drew ?_ | refine Below.alloc ?_ (by first | (simp; done) | (simp; omega) | omega) _))⟩
  have d0 : decide (kd < 1) = false := decide_eq_false k1
  by_cases k2 : 3 < kd
  · have d1 : decide (3 < kd) = true := decide_eq_true k2
    rw [show (!tabR kd pa de ge n1 n2 n3 (co.all flatV)) = true by unfold tabR; rw [decide_eq_false (p := 1 ≤ kd ∧ kd ≤ 3) (by omega)]; simp]
    clear R5 HL5
    go_enter Try.func27, Try.ntmps27
    go_wp2_with fail
    go_ret
    exact ⟨rfl, (by repeat (first | exact Below.refl _ _ | assumption | refine Below.setCell ?_ (by first | (simp; done) | (simp; omega) | omega) _ | refine below_drewN ?_ _ | refine Below.drew ?_ | refine Below.alloc ?_ (by first | (simp; done) | (simp; omega) | omega) _))⟩
  have d1 : decide (3 < kd) = false := decide_eq_false k2
  by_cases p0 : pa < 0
  · have d2 : decide (pa < 0) = true := decide_eq_true p0
    rw [show (!tabR kd pa de ge n1 n2 n3 (co.all flatV)) = true by unfold tabR; rw [decide_eq_false (p := 0 ≤ pa ∧ _) (by omega)]; simp]
    clear R5 HL5
    go_enter Try.func27, Try.ntmps27
    go_wp2_with fail
    go_ret
    exact ⟨rfl, (by repeat (first | exact Below.refl _ _ | assumption | refine Below.setCell ?_ (by first | (simp; done) | (simp; omega) | omega) _ | refine below_drewN ?_ _ | refine Below.drew ?_ | refine Below.alloc ?_ (by first | (simp; done) | (simp; omega) | omega) _))⟩
  have d2 : decide (pa < 0) = false := decide_eq_false p0
  by_cases p1 : (n1 : Int) < pa
  · have d3 : decide ((n1 : Int) < pa) = true := decide_eq_true p1
    rw [show (!tabR kd pa de ge n1 n2 n3 (co.all flatV)) = true by unfold tabR; rw [decide_eq_false (p := 0 ≤ pa ∧ _) (by omega)]; simp]
    clear R5 HL5
    go_enter Try.func27, Try.ntmps27
    go_wp2_with fail
    go_ret
    exact ⟨rfl, (by repeat (first | exact Below.refl _ _ | assumption | refine Below.setCell ?_ (by first | (simp; done) | (simp; omega) | omega) _ | refine below_drewN ?_ _ | refine Below.drew ?_ | refine Below.alloc ?_ (by first | (simp; done) | (simp; omega) | omega) _))⟩
  have d3 : decide ((n1 : Int) < pa) = false := decide_eq_false p1
  by_cases p2 : de < 0
  · have d4 : decide (de < 0) = true := decide_eq_true p2
    rw [show (!tabR kd pa de ge n1 n2 n3 (co.all flatV)) = true by unfold tabR; rw [decide_eq_false (p := 0 ≤ pa ∧ _) (by omega)]; simp]
    clear R5 HL5
    go_enter Try.func27, Try.ntmps27
    go_wp2_with fail
    go_ret
    exact ⟨rfl, (by repeat (first | exact Below.refl _ _ | assumption | refine Below.setCell ?_ (by first | (simp; done) | (simp; omega) | omega) _ | refine below_drewN ?_ _ | refine Below.drew ?_ | refine Below.alloc ?_ (by first | (simp; done) | (simp; omega) | omega) _))⟩
  have d4 : decide (de < 0) = false := decide_eq_false p2
  by_cases p3 : pa < de
  · have d5 : decide (pa < de) = true := decide_eq_true p3
    rw [show (!tabR kd pa de ge n1 n2 n3 (co.all flatV)) = true by unfold tabR; rw [decide_eq_false (p := 0 ≤ pa ∧ _) (by omega)]; simp]
    clear R5 HL5
    go_enter Try.func27, Try.ntmps27
    go_wp2_with fail
    go_ret
    exact ⟨rfl, (by repeat (first | exact Below.refl _ _ | assumption | refine Below.setCell ?_ (by first | (simp; done) | (simp; omega) | omega) _ | refine below_drewN ?_ _ | refine Below.drew ?_ | refine Below.alloc ?_ (by first | (simp; done) | (simp; omega) | omega) _))⟩
  have d5 : decide (pa < de) = false := decide_eq_false p3
  by_cases k3 : kd = 2
  · subst k3
    have HV : Hid ((!tabR 2 pa de ge n1 n2 n3 (co.all flatV)) = !(co.all flatV)) := Lib.hid (by unfold tabR; rw [decide_eq_true (p := 0 ≤ pa ∧ _) (by omega)]; simp)
    clear k1 k2 p0 p1 p2 p3
    have HU := Lib.hid (Blk.new w 38 #[.string nm, .int .i64 2, .int .i64 pa, .int .i64 de, .bool ge, .slice A1 n1 c1, .slice A2 n2 c2, .slice A3 n3 c3, .slice A4 n4 c4, .slice A5 n5 c5, .slice A6 n6 c6])
    go_enter Try.func27, Try.ntmps27
    go_wp2_with fail
    go_loopw [3] (fun i wr => ∃ k : Nat, k ≤ n5 ∧ i = .int .i64 k ∧ Hid ((co.take k).all flatV = true) ∧ Below (w.heap.size + 1) (w.alloc (.cells #[.string nm, .int .i64 2, .int .i64 pa, .int .i64 de, .bool ge, .slice A1 n1 c1, .slice A2 n2 c2, .slice A3 n3 c3, .slice A4 n4 c4, .slice A5 n5 c5, .slice A6 n6 c6] 38)) wr) (fun i _ => n5 - (intOf i).toNat)
    case atStart => exact ⟨0, by omega, rfl, Lib.hid rfl, Below.refl _ _⟩
    case round =>
      obtain ⟨k, hk, rfl, HA, hb⟩ := hrel
      have hbw : Below w.heap.size w wr := Below.trans (by exact (by repeat (first | exact Below.refl _ _ | assumption | refine Below.setCell ?_ (by first | (simp; done) | (simp; omega) | omega) _ | refine below_drewN ?_ _ | refine Below.drew ?_ | refine Below.alloc ?_ (by first | (simp; done) | (simp; omega) | omega) _))) (hb.mono (by omega))
      have HBW := Lib.hid hbw
      have HB := Lib.hid hb
      have hz := hb.size
      have hz2 : w.heap.size < wr.heap.size := by simp at hz; omega
      clear hz
      have hu := HU.out.below hb (by omega)
      have u9 := hu.cell 9
      simp only [List.getElem?_toArray, List.getElem?_cons_zero, List.getElem?_cons_succ] at u9
      clear hu
      by_cases hlt : k < n5
      · obtain ⟨x, hx⟩ : ∃ x, co[k]? = some x := ⟨_, List.getElem?_eq_getElem (by have := HL5.out; omega)⟩
        obtain ⟨b, o, rfl, hbl, hce⟩ := R5.out.at_ (f := valCs) (m := 3) (fun _ => rfl) hx
        obtain ⟨kk, nn, ss⟩ := x
        have e0 : wr.cell? ⟨b, o + k * 3, none⟩ = some (.int .i64 kk) := (hbw.cell (p := ⟨b, o + k * 3, none⟩) hbl).trans (hce 0 _ rfl)
        have e1 : wr.cell? ⟨b, o + k * 3 + 1, none⟩ = some (.int .i64 nn) := (hbw.cell (p := ⟨b, o + k * 3 + 1, none⟩) hbl).trans (hce 1 _ rfl)
        have e2 : wr.cell? ⟨b, o + k * 3 + 2, none⟩ = some (.string ss) := (hbw.cell (p := ⟨b, o + k * 3 + 2, none⟩) hbl).trans (hce 2 _ rfl)
        have KU := Lib.hid (const_any kk nn ss)
        have htk : co.take (k + 1) = co.take k ++ [⟨kk, nn, ss⟩] := by rw [List.take_add_one, hx]; rfl
        have HT : Hid ((co.take (k + 1)).all flatV = flatV ⟨kk, nn, ss⟩) := Lib.hid (by rw [htk, List.all_append, HA.out]; simp)
        have HN : Hid (flatV ⟨kk, nn, ss⟩ = false → co.all flatV = false) := Lib.hid fun hf => by
          rw [List.all_eq_false]
          exact ⟨_, List.mem_of_getElem? hx, by rw [hf]; decide⟩
        clear hx hce hb hbw htk
        cases hf : flatV ⟨kk, nn, ss⟩ with
        | true =>
          rw [hf] at KU
          have HF := Lib.hid hf
          clear hf
          go_wp2_with ((with_reducible refine (KU.out _).mono ?_); rintro e w2 ⟨rfl, hb2⟩; have HB2 := Lib.hid (HB.out.trans (hb2.mono (by omega))); clear hb2)
          go_roundw
          case rel => exact ⟨k + 1, by omega, by go_num, Lib.hid (by rw [HT.out, HF.out]), HB2.out⟩
          case measure => simp [intOf]; omega
        | false =>
          rw [hf] at KU
          have HF := Lib.hid hf
          clear hf
          go_wp2_with ((with_reducible refine (KU.out _).mono ?_); rintro e w2 ⟨rfl, hb2⟩; have HB2 := Lib.hid (HBW.out.trans (hb2.mono HBW.out.size)); clear hb2)
          go_ret
          exact ⟨ret_bool (by rw [HV.out, HN.out HF.out]; rfl), HB2.out⟩
      · obtain rfl : k = n5 := by omega
        have HF : Hid (co.all flatV = true) := Lib.hid (by have := HA.out; rwa [List.take_of_length_le (by have := HL5.out; omega)] at this)
        clear hb hbw
        go_wp2_with fail
        go_ret
        exact ⟨ret_bool (by rw [HV.out, HF.out]; rfl), HBW.out⟩
  have o2 : (kd == 2) = false := by simpa using k3
  have o3 : (kd != 2) = true := by simpa using k3
  by_cases q0 : pa = 0
  case neg =>
    have d8 : (pa == 0) = false := by simpa using q0
    have d9 : (pa != 0) = true := by simpa using q0
    rw [show (!tabR kd pa de ge n1 n2 n3 (co.all flatV)) = true by unfold tabR; simp [k3, q0]]
    clear R5 HL5
    go_enter Try.func27, Try.ntmps27
    go_wp2_with fail
    go_ret
    exact ⟨rfl, (by repeat (first | exact Below.refl _ _ | assumption | refine Below.setCell ?_ (by first | (simp; done) | (simp; omega) | omega) _ | refine below_drewN ?_ _ | refine Below.drew ?_ | refine Below.alloc ?_ (by first | (simp; done) | (simp; omega) | omega) _))⟩
  case pos =>
  subst q0
  cases ge with
  | true =>
    rw [show (!tabR kd 0 de true n1 n2 n3 (co.all flatV)) = true by unfold tabR; simp [k3]]
    clear R5 HL5
    go_enter Try.func27, Try.ntmps27
    go_wp2_with fail
    go_ret
    exact ⟨rfl, (by repeat (first | exact Below.refl _ _ | assumption | refine Below.setCell ?_ (by first | (simp; done) | (simp; omega) | omega) _ | refine below_drewN ?_ _ | refine Below.drew ?_ | refine Below.alloc ?_ (by first | (simp; done) | (simp; omega) | omega) _))⟩
  | false =>
    by_cases k4 : kd = 1
    · subst k4
      by_cases q1 : n3 + n2 = 0
      · obtain rfl : n2 = 0 := by omega
        obtain rfl : n3 = 0 := by omega
        clear q1
        have HV : Hid ((!tabR 1 0 de false n1 0 0 (co.all flatV)) = !(co.all flatV)) := Lib.hid (by unfold tabR; rw [decide_eq_true (p := 0 ≤ 0 ∧ _) (by omega)]; simp)
        clear k1 k2 p0 p1 p2 p3
        have HU := Lib.hid (Blk.new w 38 #[.string nm, .int .i64 1, .int .i64 0, .int .i64 de, .bool false, .slice A1 n1 c1, .slice A2 0 c2, .slice A3 0 c3, .slice A4 n4 c4, .slice A5 n5 c5, .slice A6 n6 c6])
        go_enter Try.func27, Try.ntmps27
        go_wp2_with fail
        go_loopw [3] (fun i wr => ∃ k : Nat, k ≤ n5 ∧ i = .int .i64 k ∧ Hid ((co.take k).all flatV = true) ∧ Below (w.heap.size + 1) (w.alloc (.cells #[.string nm, .int .i64 1, .int .i64 0, .int .i64 de, .bool false, .slice A1 n1 c1, .slice A2 0 c2, .slice A3 0 c3, .slice A4 n4 c4, .slice A5 n5 c5, .slice A6 n6 c6] 38)) wr) (fun i _ => n5 - (intOf i).toNat)
        case atStart => exact ⟨0, by omega, rfl, Lib.hid rfl, Below.refl _ _⟩
        case round =>
          obtain ⟨k, hk, rfl, HA, hb⟩ := hrel
          have hbw : Below w.heap.size w wr := Below.trans (by exact (by repeat (first | exact Below.refl _ _ | assumption | refine Below.setCell ?_ (by first | (simp; done) | (simp; omega) | omega) _ | refine below_drewN ?_ _ | refine Below.drew ?_ | refine Below.alloc ?_ (by first | (simp; done) | (simp; omega) | omega) _))) (hb.mono (by omega))
          have HBW := Lib.hid hbw
          have HB := Lib.hid hb
          have hz := hb.size
          have hz2 : w.heap.size < wr.heap.size := by simp at hz; omega
          clear hz
          have hu := HU.out.below hb (by omega)
          have u9 := hu.cell 9
          simp only [List.getElem?_toArray, List.getElem?_cons_zero, List.getElem?_cons_succ] at u9
          clear hu
          by_cases hlt : k < n5
          · obtain ⟨x, hx⟩ : ∃ x, co[k]? = some x := ⟨_, List.getElem?_eq_getElem (by have := HL5.out; omega)⟩
            obtain ⟨b, o, rfl, hbl, hce⟩ := R5.out.at_ (f := valCs) (m := 3) (fun _ => rfl) hx
            obtain ⟨kk, nn, ss⟩ := x
            have e0 : wr.cell? ⟨b, o + k * 3, none⟩ = some (.int .i64 kk) := (hbw.cell (p := ⟨b, o + k * 3, none⟩) hbl).trans (hce 0 _ rfl)
            have e1 : wr.cell? ⟨b, o + k * 3 + 1, none⟩ = some (.int .i64 nn) := (hbw.cell (p := ⟨b, o + k * 3 + 1, none⟩) hbl).trans (hce 1 _ rfl)
            have e2 : wr.cell? ⟨b, o + k * 3 + 2, none⟩ = some (.string ss) := (hbw.cell (p := ⟨b, o + k * 3 + 2, none⟩) hbl).trans (hce 2 _ rfl)
            have KU := Lib.hid (const_any kk nn ss)
            have htk : co.take (k + 1) = co.take k ++ [⟨kk, nn, ss⟩] := by rw [List.take_add_one, hx]; rfl
            have HT : Hid ((co.take (k + 1)).all flatV = flatV ⟨kk, nn, ss⟩) := Lib.hid (by rw [htk, List.all_append, HA.out]; simp)
            have HN : Hid (flatV ⟨kk, nn, ss⟩ = false → co.all flatV = false) := Lib.hid fun hf => by
              rw [List.all_eq_false]
              exact ⟨_, List.mem_of_getElem? hx, by rw [hf]; decide⟩
            clear hx hce hb hbw htk
            cases hf : flatV ⟨kk, nn, ss⟩ with
            | true =>
              rw [hf] at KU
              have HF := Lib.hid hf
              clear hf
              go_wp2_with ((with_reducible refine (KU.out _).mono ?_); rintro e w2 ⟨rfl, hb2⟩; have HB2 := Lib.hid (HB.out.trans (hb2.mono (by omega))); clear hb2)
              go_roundw
              case rel => exact ⟨k + 1, by omega, by go_num, Lib.hid (by rw [HT.out, HF.out]), HB2.out⟩
              case measure => simp [intOf]; omega
            | false =>
              rw [hf] at KU
              have HF := Lib.hid hf
              clear hf
              go_wp2_with ((with_reducible refine (KU.out _).mono ?_); rintro e w2 ⟨rfl, hb2⟩; have HB2 := Lib.hid (HBW.out.trans (hb2.mono HBW.out.size)); clear hb2)
              go_ret
              exact ⟨ret_bool (by rw [HV.out, HN.out HF.out]; rfl), HB2.out⟩
          · obtain rfl : k = n5 := by omega
            have HF : Hid (co.all flatV = true) := Lib.hid (by have := HA.out; rwa [List.take_of_length_le (by have := HL5.out; omega)] at this)
            clear hb hbw
            go_wp2_with fail
            go_ret
            exact ⟨ret_bool (by rw [HV.out, HF.out]; rfl), HBW.out⟩
      · have d9 : decide ((0 : Int) < (n3 : Int) + (n2 : Int)) = true := decide_eq_true (by omega)
        have d8 : decide (0 < n3 + n2) = true := decide_eq_true (by omega)
        have d7 : 0 < n3 + n2 := by omega
        have d6 : ((n3 : Int) + (n2 : Int) == 0) = false := by simp; omega
        have d66 : ((n3 : Int) + (n2 : Int) != 0) = true := by simp; omega
        rw [show (!tabR 1 0 de false n1 n2 n3 (co.all flatV)) = true by unfold tabR; rw [decide_eq_false (p := n3 + n2 = 0) q1]; simp]
        clear R5 HL5
        go_enter Try.func27, Try.ntmps27
        go_wp2_with fail
        go_ret
        exact ⟨rfl, (by repeat (first | exact Below.refl _ _ | assumption | refine Below.setCell ?_ (by first | (simp; done) | (simp; omega) | omega) _ | refine below_drewN ?_ _ | refine Below.drew ?_ | refine Below.alloc ?_ (by first | (simp; done) | (simp; omega) | omega) _))⟩
    · obtain rfl : kd = 3 := by omega
      have HV : Hid ((!tabR 3 0 de false n1 n2 n3 (co.all flatV)) = !(co.all flatV)) := Lib.hid (by unfold tabR; rw [decide_eq_true (p := 0 ≤ 0 ∧ _) (by omega)]; simp)
      clear k1 k2 p0 p1 p2 p3
      have HU := Lib.hid (Blk.new w 38 #[.string nm, .int .i64 3, .int .i64 0, .int .i64 de, .bool false, .slice A1 n1 c1, .slice A2 n2 c2, .slice A3 n3 c3, .slice A4 n4 c4, .slice A5 n5 c5, .slice A6 n6 c6])
      go_enter Try.func27, Try.ntmps27
      go_wp2_with fail
      go_loopw [3] (fun i wr => ∃ k : Nat, k ≤ n5 ∧ i = .int .i64 k ∧ Hid ((co.take k).all flatV = true) ∧ Below (w.heap.size + 1) (w.alloc (.cells #[.string nm, .int .i64 3, .int .i64 0, .int .i64 de, .bool false, .slice A1 n1 c1, .slice A2 n2 c2, .slice A3 n3 c3, .slice A4 n4 c4, .slice A5 n5 c5, .slice A6 n6 c6] 38)) wr) (fun i _ => n5 - (intOf i).toNat)
      case atStart => exact ⟨0, by omega, rfl, Lib.hid rfl, Below.refl _ _⟩
      case round =>
        obtain ⟨k, hk, rfl, HA, hb⟩ := hrel
        have hbw : Below w.heap.size w wr := Below.trans (by exact (by repeat (first | exact Below.refl _ _ | assumption | refine Below.setCell ?_ (by first | (simp; done) | (simp; omega) | omega) _ | refine below_drewN ?_ _ | refine Below.drew ?_ | refine Below.alloc ?_ (by first | (simp; done) | (simp; omega) | omega) _))) (hb.mono (by omega))
        have HBW := Lib.hid hbw
        have HB := Lib.hid hb
        have hz := hb.size
        have hz2 : w.heap.size < wr.heap.size := by simp at hz; omega
        clear hz
        have hu := HU.out.below hb (by omega)
        have u9 := hu.cell 9
        simp only [List.getElem?_toArray, List.getElem?_cons_zero, List.getElem?_cons_succ] at u9
        clear hu
        by_cases hlt : k < n5
        · obtain ⟨x, hx⟩ : ∃ x, co[k]? = some x := ⟨_, List.getElem?_eq_getElem (by have := HL5.out; omega)⟩
          obtain ⟨b, o, rfl, hbl, hce⟩ := R5.out.at_ (f := valCs) (m := 3) (fun _ => rfl) hx
          obtain ⟨kk, nn, ss⟩ := x
          have e0 : wr.cell? ⟨b, o + k * 3, none⟩ = some (.int .i64 kk) := (hbw.cell (p := ⟨b, o + k * 3, none⟩) hbl).trans (hce 0 _ rfl)
          have e1 : wr.cell? ⟨b, o + k * 3 + 1, none⟩ = some (.int .i64 nn) := (hbw.cell (p := ⟨b, o + k * 3 + 1, none⟩) hbl).trans (hce 1 _ rfl)
          have e2 : wr.cell? ⟨b, o + k * 3 + 2, none⟩ = some (.string ss) := (hbw.cell (p := ⟨b, o + k * 3 + 2, none⟩) hbl).trans (hce 2 _ rfl)
          have KU := Lib.hid (const_any kk nn ss)
          have htk : co.take (k + 1) = co.take k ++ [⟨kk, nn, ss⟩] := by rw [List.take_add_one, hx]; rfl
          have HT : Hid ((co.take (k + 1)).all flatV = flatV ⟨kk, nn, ss⟩) := Lib.hid (by rw [htk, List.all_append, HA.out]; simp)
          have HN : Hid (flatV ⟨kk, nn, ss⟩ = false → co.all flatV = false) := Lib.hid fun hf => by
            rw [List.all_eq_false]
            exact ⟨_, List.mem_of_getElem? hx, by rw [hf]; decide⟩
          clear hx hce hb hbw htk
          cases hf : flatV ⟨kk, nn, ss⟩ with
          | true =>
            rw [hf] at KU
            have HF := Lib.hid hf
            clear hf
            go_wp2_with ((with_reducible refine (KU.out _).mono ?_); rintro e w2 ⟨rfl, hb2⟩; have HB2 := Lib.hid (HB.out.trans (hb2.mono (by omega))); clear hb2)
            go_roundw
            case rel => exact ⟨k + 1, by omega, by go_num, Lib.hid (by rw [HT.out, HF.out]), HB2.out⟩
            case measure => simp [intOf]; omega
          | false =>
            rw [hf] at KU
            have HF := Lib.hid hf
            clear hf
            go_wp2_with ((with_reducible refine (KU.out _).mono ?_); rintro e w2 ⟨rfl, hb2⟩; have HB2 := Lib.hid (HBW.out.trans (hb2.mono HBW.out.size)); clear hb2)
            go_ret
            exact ⟨ret_bool (by rw [HV.out, HN.out HF.out]; rfl), HB2.out⟩
        · obtain rfl : k = n5 := by omega
          have HF : Hid (co.all flatV = true) := Lib.hid (by have := HA.out; rwa [List.take_of_length_le (by have := HL5.out; omega)] at this)
          clear hb hbw
          go_wp2_with fail
          go_ret
          exact ⟨ret_bool (by rw [HV.out, HF.out]; rfl), HBW.out⟩

end Go.Proofs.Ytgnejkmojfhfpaa
