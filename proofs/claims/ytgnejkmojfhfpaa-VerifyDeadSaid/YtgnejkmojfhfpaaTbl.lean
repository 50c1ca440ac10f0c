/- verify.tables. -/
import Derived.Test.YtgnejkmojfhfpaaTab
namespace Go.Proofs.Ytgnejkmojfhfpaa
open Go.RowKit
set_option linter.unusedVariables false
set_option linter.unusedSimpArgs false

def vcs (v : ValD) : List Value := valCs v
theorem unflat_any (k n : Int) (s : ByteArray) (w : World) : Calls Try.prog 33 #[.agg #[.int .i64 k, .int .i64 n, .string s]] w fun e w' => e = .returned (.bool (!flatV ⟨k, n, s⟩)) ∧ Below w.heap.size w w' := by
  have KF := Lib.hid (flat_any k n s)
  generalize flatV ⟨k, n, s⟩ = b at *
  go_enter Try.func33, Try.ntmps33
  go_wp2_with ((with_reducible refine (KF.out _).mono ?_); rintro e w' ⟨rfl, hb⟩; have HB := Lib.hid hb; clear hb)
  go_ret
  exact ⟨rfl, Below.trans (by exact (by repeat (first | exact Below.refl _ _ | assumption | refine Below.setCell ?_ (by first | (simp; done) | (simp; omega) | omega) _ | refine below_drewN ?_ _ | refine Below.drew ?_ | refine Below.alloc ?_ (by first | (simp; done) | (simp; omega) | omega) _))) (HB.out.mono (by simp))⟩
/-- the first that is no const -/
def bad (l : List ValD) : Option Nat := l.findIdx? fun v => !flatV v
set_option maxRecDepth 100000 in
set_option maxHeartbeats 1000000 in
theorem indexv_any {w : World} {A : Option Addr} {n c : Nat} {l : List ValD} (h : RdF valCs 3 w A n c l) :
    Calls Try.prog 60 #[.slice A n c, .func (.func 33) #[] #[]] w fun e w' => (∃ r : Int, e = .returned (.int .i64 r) ∧ Hid (decide (0 ≤ r) = !l.all flatV)) ∧ Below w.heap.size w w' := by
  have hn := h.le
  have hl := h.1
  have H := Lib.hid h
  clear h
  go_enter Try.func60, Try.ntmps60
  go_wp2_with fail
  go_loopw [8] (fun i wr => ∃ k : Nat, k ≤ n ∧ i = .int .i64 k ∧ Hid ((l.take k).all flatV = true) ∧ Below w.heap.size w wr) (fun i _ => n - (intOf i).toNat)
  case atStart => exact ⟨0, by omega, rfl, Lib.hid rfl, Below.refl _ _⟩
  case round =>
    obtain ⟨k, hk, rfl, HA, hb⟩ := hrel
    have HB := Lib.hid hb
    by_cases hlt : k < n
    · obtain ⟨x, hx⟩ : ∃ x, l[k]? = some x := ⟨_, List.getElem?_eq_getElem (by omega)⟩
      obtain ⟨b, o, rfl, hbl, hce⟩ := H.out.at_ (f := valCs) (m := 3) (fun _ => rfl) hx
      have HX := Lib.hid hx
      obtain ⟨kk, nn, ss⟩ := x
      have e0 : wr.cell? ⟨b, o + k * 3, none⟩ = some (.int .i64 kk) := (hb.cell (p := ⟨b, o + k * 3, none⟩) hbl).trans (hce 0 _ rfl)
      have e1 : wr.cell? ⟨b, o + k * 3 + 1, none⟩ = some (.int .i64 nn) := (hb.cell (p := ⟨b, o + k * 3 + 1, none⟩) hbl).trans (hce 1 _ rfl)
      have e2 : wr.cell? ⟨b, o + k * 3 + 2, none⟩ = some (.string ss) := (hb.cell (p := ⟨b, o + k * 3 + 2, none⟩) hbl).trans (hce 2 _ rfl)
      have hbr : b < wr.heap.size := by have := hb.size; omega
      have KU := Lib.hid (unflat_any kk nn ss)
      have htk : l.take (k + 1) = l.take k ++ [⟨kk, nn, ss⟩] := by rw [List.take_add_one, hx]; rfl
      have HT : Hid ((l.take (k + 1)).all flatV = flatV ⟨kk, nn, ss⟩) := Lib.hid (by rw [htk, List.all_append, HA.out]; simp)
      have HN : Hid (flatV ⟨kk, nn, ss⟩ = false → l.all flatV = false) := Lib.hid fun hf => by
        rw [List.all_eq_false]
        exact ⟨_, List.mem_of_getElem? hx, by rw [hf]; decide⟩
      clear hx hce hb htk
      cases hf : flatV ⟨kk, nn, ss⟩ with
      | true =>
        rw [hf] at KU
        have HF := Lib.hid hf
        clear hf
        go_wp2_with ((with_reducible refine (KU.out _).mono ?_); rintro e w2 ⟨rfl, hb2⟩; have HB2 := Lib.hid (HB.out.trans (hb2.mono HB.out.size)); clear hb2)
        go_roundw
        case rel => exact ⟨k + 1, by omega, by go_num, Lib.hid (by rw [HT.out, HF.out]), HB2.out⟩
        case measure => simp [intOf]; omega
      | false =>
        rw [hf] at KU
        have HF := Lib.hid hf
        clear hf
        go_wp2_with ((with_reducible refine (KU.out _).mono ?_); rintro e w2 ⟨rfl, hb2⟩; have HB2 := Lib.hid (HB.out.trans (hb2.mono HB.out.size)); clear hb2)
        go_ret
        exact ⟨⟨_, rfl, Lib.hid (by rw [HN.out HF.out]; simp)⟩, HB2.out⟩
    · obtain rfl : k = n := by omega
      have HF : Hid (l.all flatV = true) := Lib.hid (by have := HA.out; rwa [List.take_of_length_le (by omega)] at this)
      clear hb
      go_wp2_with fail
      go_ret
      exact ⟨⟨_, rfl, Lib.hid (by rw [HF.out]; rfl)⟩, HB.out⟩
theorem containsv_any {w : World} {A : Option Addr} {n c : Nat} {l : List ValD} (h : RdF valCs 3 w A n c l) :
    Calls Try.prog 32 #[.slice A n c, .func (.func 33) #[] #[]] w fun e w' => e = .returned (.bool (!l.all flatV)) ∧ Below w.heap.size w w' := by
  have K := Lib.hid (indexv_any h)
  clear h
  go_enter Try.func32, Try.ntmps32
  go_wp2_with ((with_reducible refine K.out.mono ?_); rintro e w2 ⟨⟨r, rfl, hr⟩, hb2⟩; have HB2 := Lib.hid hb2; clear hb2)
  go_ret
  exact ⟨ret_bool hr.out, HB2.out⟩
/-- tablesOk, of its parts -/
def tabE (kd pa de : Int) (ge : Bool) (nl nc nf : Nat) (fl : Bool) : Bool :=
  decide (1 ≤ kd ∧ kd ≤ 3) && (decide (kd = 2) || (decide (pa = 0) && !ge)) && (decide (kd ≠ 1) || decide (nf + nc = 0)) && decide (0 ≤ pa ∧ pa ≤ nl ∧ 0 ≤ de ∧ de ≤ pa) && fl
set_option maxRecDepth 100000 in
set_option maxHeartbeats 4000000 in
theorem tables_any {w : World} {c : CodeD} {cs : List Value} (h : CodeAt w c cs) :
    Calls Try.prog 20 #[.agg cs.toArray] w fun e w' => e = .returned (.bool (tablesOk c)) ∧ Below w.heap.size w w' := by
  obtain ⟨A1, n1, c1, A2, n2, c2, A3, n3, c3, A4, n4, c4, A5, n5, c5, A6, n6, c6, rfl, r1, r2, r3, r4, r5, r6, m1, m2, m3, m4, m5, m6⟩ := h.parts
  have ht : tablesOk c = tabE c.kind c.params c.defaults c.gen n1 n2 n3 (c.consts.all flatV) := by rw [← r1.1, ← r2.1, ← r3.1]; rfl
  rw [ht]
  have KC : Hid (∀ w', Below w.heap.size w w' → Calls Try.prog 32 #[.slice A5 n5 c5, .func (.func 33) #[] #[]] w' fun e w'' => e = .returned (.bool (!c.consts.all flatV)) ∧ Below w'.heap.size w' w'') := Lib.hid fun w' hw => containsv_any (r5.new hw)
  obtain ⟨nm, kd, pa, de, ge, lo, ce, fr, na, co, is⟩ := c
  simp only at KC ⊢
  generalize co.all flatV = fl at *
  unfold Most at m1 m2 m3
  clear r1 r2 r3 r4 r5 r6 m4 m5 m6 ht h
  by_cases k2 : kd = 2
  · subst k2
    by_cases p0 : pa < 0
    · have d0 : decide (0 ≤ pa) = false := decide_eq_false (by omega)
      rw [show tabE 2 pa de ge n1 n2 n3 fl = false by unfold tabE; rw [decide_eq_false (p := 0 ≤ pa ∧ _) (by omega)]; simp]
      go_enter Try.func20, Try.ntmps20
      go_wp2_with fail
      go_ret
      exact ⟨rfl, (by repeat (first | exact Below.refl _ _ | assumption | refine Below.setCell ?_ (by first | (simp; done) | (simp; omega) | omega) _ | refine below_drewN ?_ _ | refine Below.drew ?_ | refine Below.alloc ?_ (by first | (simp; done) | (simp; omega) | omega) _))⟩
    have d0 : decide (0 ≤ pa) = true := decide_eq_true (by omega)
    by_cases p1 : (n1 : Int) < pa
    · have d1 : decide (pa ≤ (n1 : Int)) = false := decide_eq_false (by omega)
      rw [show tabE 2 pa de ge n1 n2 n3 fl = false by unfold tabE; rw [decide_eq_false (p := 0 ≤ pa ∧ _) (by omega)]; simp]
      go_enter Try.func20, Try.ntmps20
      go_wp2_with fail
      go_ret
      exact ⟨rfl, (by repeat (first | exact Below.refl _ _ | assumption | refine Below.setCell ?_ (by first | (simp; done) | (simp; omega) | omega) _ | refine below_drewN ?_ _ | refine Below.drew ?_ | refine Below.alloc ?_ (by first | (simp; done) | (simp; omega) | omega) _))⟩
    have d1 : decide (pa ≤ (n1 : Int)) = true := decide_eq_true (by omega)
    by_cases p2 : de < 0
    · have d2 : decide (0 ≤ de) = false := decide_eq_false (by omega)
      rw [show tabE 2 pa de ge n1 n2 n3 fl = false by unfold tabE; rw [decide_eq_false (p := 0 ≤ pa ∧ _) (by omega)]; simp]
      go_enter Try.func20, Try.ntmps20
      go_wp2_with fail
      go_ret
      exact ⟨rfl, (by repeat (first | exact Below.refl _ _ | assumption | refine Below.setCell ?_ (by first | (simp; done) | (simp; omega) | omega) _ | refine below_drewN ?_ _ | refine Below.drew ?_ | refine Below.alloc ?_ (by first | (simp; done) | (simp; omega) | omega) _))⟩
    have d2 : decide (0 ≤ de) = true := decide_eq_true (by omega)
    by_cases p3 : pa < de
    · have d3 : decide (de ≤ pa) = false := decide_eq_false (by omega)
      rw [show tabE 2 pa de ge n1 n2 n3 fl = false by unfold tabE; rw [decide_eq_false (p := 0 ≤ pa ∧ _) (by omega)]; simp]
      go_enter Try.func20, Try.ntmps20
      go_wp2_with fail
      go_ret
      exact ⟨rfl, (by repeat (first | exact Below.refl _ _ | assumption | refine Below.setCell ?_ (by first | (simp; done) | (simp; omega) | omega) _ | refine below_drewN ?_ _ | refine Below.drew ?_ | refine Below.alloc ?_ (by first | (simp; done) | (simp; omega) | omega) _))⟩
    have d3 : decide (de ≤ pa) = true := decide_eq_true (by omega)
    have ht : tabE 2 pa de ge n1 n2 n3 fl = !(!fl) := by unfold tabE; rw [decide_eq_true (p := 0 ≤ pa ∧ _) (by omega)]; simp
    clear p2 p3 p0 p1
    rw [ht]
    clear ht
    go_enter Try.func20, Try.ntmps20
    go_wp2_with ((with_reducible refine (KC.out _ (by exact (by repeat (first | exact Below.refl _ _ | assumption | refine Below.setCell ?_ (by first | (simp; done) | (simp; omega) | omega) _ | refine below_drewN ?_ _ | refine Below.drew ?_ | refine Below.alloc ?_ (by first | (simp; done) | (simp; omega) | omega) _)))).mono ?_); rintro e w2 ⟨rfl, hb2⟩; have HB2 := Lib.hid hb2; clear hb2)
    go_ret
    exact ⟨ret_bool (by cases fl <;> rfl), Below.trans (by exact (by repeat (first | exact Below.refl _ _ | assumption | refine Below.setCell ?_ (by first | (simp; done) | (simp; omega) | omega) _ | refine below_drewN ?_ _ | refine Below.drew ?_ | refine Below.alloc ?_ (by first | (simp; done) | (simp; omega) | omega) _))) (HB2.out.mono (by simp))⟩
  by_cases k1 : kd = 1
  · subst k1
    by_cases q0 : pa = 0
    · subst q0
      cases ge with
      | true =>
        rw [show tabE 1 0 de true n1 n2 n3 fl = false by simp [tabE]]
        go_enter Try.func20, Try.ntmps20
        go_wp2_with fail
        go_ret
        exact ⟨rfl, (by repeat (first | exact Below.refl _ _ | assumption | refine Below.setCell ?_ (by first | (simp; done) | (simp; omega) | omega) _ | refine below_drewN ?_ _ | refine Below.drew ?_ | refine Below.alloc ?_ (by first | (simp; done) | (simp; omega) | omega) _))⟩
      | false =>
        by_cases q1 : n3 + n2 = 0
        · obtain rfl : n2 = 0 := by omega
          obtain rfl : n3 = 0 := by omega
          clear q1
          by_cases p2 : de < 0
          · have d2 : decide (0 ≤ de) = false := decide_eq_false (by omega)
            rw [show tabE 1 0 de false n1 0 0 fl = false by unfold tabE; rw [decide_eq_false (p := 0 ≤ 0 ∧ _) (by omega)]; simp]
            go_enter Try.func20, Try.ntmps20
            go_wp2_with fail
            go_ret
            exact ⟨rfl, (by repeat (first | exact Below.refl _ _ | assumption | refine Below.setCell ?_ (by first | (simp; done) | (simp; omega) | omega) _ | refine below_drewN ?_ _ | refine Below.drew ?_ | refine Below.alloc ?_ (by first | (simp; done) | (simp; omega) | omega) _))⟩
          have d2 : decide (0 ≤ de) = true := decide_eq_true (by omega)
          by_cases p3 : 0 < de
          · have d3 : decide (de ≤ 0) = false := decide_eq_false (by omega)
            rw [show tabE 1 0 de false n1 0 0 fl = false by unfold tabE; rw [decide_eq_false (p := 0 ≤ 0 ∧ _) (by omega)]; simp]
            go_enter Try.func20, Try.ntmps20
            go_wp2_with fail
            go_ret
            exact ⟨rfl, (by repeat (first | exact Below.refl _ _ | assumption | refine Below.setCell ?_ (by first | (simp; done) | (simp; omega) | omega) _ | refine below_drewN ?_ _ | refine Below.drew ?_ | refine Below.alloc ?_ (by first | (simp; done) | (simp; omega) | omega) _))⟩
          have d3 : decide (de ≤ 0) = true := decide_eq_true (by omega)
          have ht : tabE 1 0 de false n1 0 0 fl = !(!fl) := by unfold tabE; rw [decide_eq_true (p := 0 ≤ 0 ∧ _) (by omega)]; simp
          clear p2 p3
          rw [ht]
          clear ht
          go_enter Try.func20, Try.ntmps20
          go_wp2_with ((with_reducible refine (KC.out _ (by exact (by repeat (first | exact Below.refl _ _ | assumption | refine Below.setCell ?_ (by first | (simp; done) | (simp; omega) | omega) _ | refine below_drewN ?_ _ | refine Below.drew ?_ | refine Below.alloc ?_ (by first | (simp; done) | (simp; omega) | omega) _)))).mono ?_); rintro e w2 ⟨rfl, hb2⟩; have HB2 := Lib.hid hb2; clear hb2)
          go_ret
          exact ⟨ret_bool (by cases fl <;> rfl), Below.trans (by exact (by repeat (first | exact Below.refl _ _ | assumption | refine Below.setCell ?_ (by first | (simp; done) | (simp; omega) | omega) _ | refine below_drewN ?_ _ | refine Below.drew ?_ | refine Below.alloc ?_ (by first | (simp; done) | (simp; omega) | omega) _))) (HB2.out.mono (by simp))⟩
        · have d9 : decide ((0 : Int) < (n3 : Int) + (n2 : Int)) = true := decide_eq_true (by omega)
          have d8 : decide (0 < n3 + n2) = true := decide_eq_true (by omega)
          have d7 : 0 < n3 + n2 := by omega
          rw [show tabE 1 0 de false n1 n2 n3 fl = false by simp [tabE]; omega]
          go_enter Try.func20, Try.ntmps20
          go_wp2_with fail
          go_ret
          exact ⟨rfl, (by repeat (first | exact Below.refl _ _ | assumption | refine Below.setCell ?_ (by first | (simp; done) | (simp; omega) | omega) _ | refine below_drewN ?_ _ | refine Below.drew ?_ | refine Below.alloc ?_ (by first | (simp; done) | (simp; omega) | omega) _))⟩
    · have d0 : (pa == 0) = false := by simpa using q0
      have d1 : (pa != 0) = true := by simpa using q0
      rw [show tabE 1 pa de ge n1 n2 n3 fl = false by simp [tabE, q0]]
      go_enter Try.func20, Try.ntmps20
      go_wp2_with fail
      go_ret
      exact ⟨rfl, (by repeat (first | exact Below.refl _ _ | assumption | refine Below.setCell ?_ (by first | (simp; done) | (simp; omega) | omega) _ | refine below_drewN ?_ _ | refine Below.drew ?_ | refine Below.alloc ?_ (by first | (simp; done) | (simp; omega) | omega) _))⟩
  by_cases k3 : kd = 3
  · subst k3
    by_cases q0 : pa = 0
    · subst q0
      cases ge with
      | true =>
        rw [show tabE 3 0 de true n1 n2 n3 fl = false by simp [tabE]]
        go_enter Try.func20, Try.ntmps20
        go_wp2_with fail
        go_ret
        exact ⟨rfl, (by repeat (first | exact Below.refl _ _ | assumption | refine Below.setCell ?_ (by first | (simp; done) | (simp; omega) | omega) _ | refine below_drewN ?_ _ | refine Below.drew ?_ | refine Below.alloc ?_ (by first | (simp; done) | (simp; omega) | omega) _))⟩
      | false =>
        by_cases p2 : de < 0
        · have d2 : decide (0 ≤ de) = false := decide_eq_false (by omega)
          rw [show tabE 3 0 de false n1 n2 n3 fl = false by unfold tabE; rw [decide_eq_false (p := 0 ≤ 0 ∧ _) (by omega)]; simp]
          go_enter Try.func20, Try.ntmps20
          go_wp2_with fail
          go_ret
          exact ⟨rfl, (by repeat (first | exact Below.refl _ _ | assumption | refine Below.setCell ?_ (by first | (simp; done) | (simp; omega) | omega) _ | refine below_drewN ?_ _ | refine Below.drew ?_ | refine Below.alloc ?_ (by first | (simp; done) | (simp; omega) | omega) _))⟩
        have d2 : decide (0 ≤ de) = true := decide_eq_true (by omega)
        by_cases p3 : 0 < de
        · have d3 : decide (de ≤ 0) = false := decide_eq_false (by omega)
          rw [show tabE 3 0 de false n1 n2 n3 fl = false by unfold tabE; rw [decide_eq_false (p := 0 ≤ 0 ∧ _) (by omega)]; simp]
          go_enter Try.func20, Try.ntmps20
          go_wp2_with fail
          go_ret
          exact ⟨rfl, (by repeat (first | exact Below.refl _ _ | assumption | refine Below.setCell ?_ (by first | (simp; done) | (simp; omega) | omega) _ | refine below_drewN ?_ _ | refine Below.drew ?_ | refine Below.alloc ?_ (by first | (simp; done) | (simp; omega) | omega) _))⟩
        have d3 : decide (de ≤ 0) = true := decide_eq_true (by omega)
        have ht : tabE 3 0 de false n1 n2 n3 fl = !(!fl) := by unfold tabE; rw [decide_eq_true (p := 0 ≤ 0 ∧ _) (by omega)]; simp
        clear p2 p3
        rw [ht]
        clear ht
        go_enter Try.func20, Try.ntmps20
        go_wp2_with ((with_reducible refine (KC.out _ (by exact (by repeat (first | exact Below.refl _ _ | assumption | refine Below.setCell ?_ (by first | (simp; done) | (simp; omega) | omega) _ | refine below_drewN ?_ _ | refine Below.drew ?_ | refine Below.alloc ?_ (by first | (simp; done) | (simp; omega) | omega) _)))).mono ?_); rintro e w2 ⟨rfl, hb2⟩; have HB2 := Lib.hid hb2; clear hb2)
        go_ret
        exact ⟨ret_bool (by cases fl <;> rfl), Below.trans (by exact (by repeat (first | exact Below.refl _ _ | assumption | refine Below.setCell ?_ (by first | (simp; done) | (simp; omega) | omega) _ | refine below_drewN ?_ _ | refine Below.drew ?_ | refine Below.alloc ?_ (by first | (simp; done) | (simp; omega) | omega) _))) (HB2.out.mono (by simp))⟩
    · have d0 : (pa == 0) = false := by simpa using q0
      have d1 : (pa != 0) = true := by simpa using q0
      rw [show tabE 3 pa de ge n1 n2 n3 fl = false by simp [tabE, q0]]
      go_enter Try.func20, Try.ntmps20
      go_wp2_with fail
      go_ret
      exact ⟨rfl, (by repeat (first | exact Below.refl _ _ | assumption | refine Below.setCell ?_ (by first | (simp; done) | (simp; omega) | omega) _ | refine below_drewN ?_ _ | refine Below.drew ?_ | refine Below.alloc ?_ (by first | (simp; done) | (simp; omega) | omega) _))⟩
  have o1 : (kd == 1) = false := by simpa using k1
  have o2 : (kd == 2) = false := by simpa using k2
  have o3 : (kd == 3) = false := by simpa using k3
  have ht : tabE kd pa de ge n1 n2 n3 fl = false := by unfold tabE; rw [decide_eq_false (p := 1 ≤ kd ∧ kd ≤ 3) (by omega)]; simp
  clear k1 k2 k3
  rw [ht]
  go_enter Try.func20, Try.ntmps20
  go_wp2_with fail
  go_ret
  exact ⟨rfl, (by repeat (first | exact Below.refl _ _ | assumption | refine Below.setCell ?_ (by first | (simp; done) | (simp; omega) | omega) _ | refine below_drewN ?_ _ | refine Below.drew ?_ | refine Below.alloc ?_ (by first | (simp; done) | (simp; omega) | omega) _))⟩
end Go.Proofs.Ytgnejkmojfhfpaa
