/- What is wrong with an instruction: plain words. The reference's wrong. The reference's wrong. The reference's wrong. The reference's wrong. -/
import Derived.Test.YtgnejkmojfhfpaaRsm
namespace Go.Proofs.Ytgnejkmojfhfpaa
open Go.RowKit
set_option linter.unusedVariables false
set_option linter.unusedSimpArgs false
theorem wrongE_of {p : ProgD} {c : CodeD} {op a : Int} {kd : Kd} {tk : Tk} {lv : Int} (he : effOf op = some (kd, tk, lv)) :
    wrongE p c (op, a) = if kd.may p c a = false then 53 else if jumpsB op = true ∧ (c.ins.length : Int) ≤ a then 51 else 0 := by
  unfold wrongE
  rw [he]
theorem codeAt_at {p : ProgD} {i : Nat} {x : CodeD} (hx : p[i]? = some x) (k : Int) : codeAt p i k = if x.kind = k ∧ ¬ (k = 2 ∧ x.defaults < 0) then some x else none := by
  unfold codeAt
  rw [if_neg (by omega), show (i : Int).toNat = i from rfl, hx]
theorem codeAt_out {p : ProgD} {a k : Int} (h : 0 ≤ a → (p.length : Int) ≤ a) : codeAt p a k = none := by
  unfold codeAt
  split
  · rfl
  · rw [List.getElem?_eq_none (by omega)]
/-- it answers a number, and leaves all as it was -/
def SaysR (w : World) (n : Int) (e : Ending) (w' : World) : Prop := e = .returned (.int .i64 n) ∧ Below w.heap.size w w'

set_option maxRecDepth 100000 in
set_option maxHeartbeats 4000000 in
theorem rwrong_1 {w : World} {p : ProgD} {c : CodeD} {cs : List Value} {A : Option Addr} {n k : Nat} (hp : ProgAt w A n k p) (hc : CodeAt w c cs) {op a : Int} (hop : 1 ≤ op ∧ op ≤ 1) :
    Calls Try.prog 28 #[.slice A n k, .agg cs.toArray, .agg #[.int .i64 op, .int .i64 a]] w (SaysR w (wrongE p c (op, a))) := by
  obtain ⟨tk, lv, he⟩ : ∃ tk lv, effOf op = some (.consts, tk, lv) := by
    rcases (by omega : op = 1) with rfl <;> exact ⟨_, _, rfl⟩
  rw [wrongE_of he]
  clear he
  have hj : jumpsB op = false := decide_eq_false (by omega)
  rw [hj]
  clear hj
  have KN : Hid (∀ w, Calls Try.prog 56 #[.int .i64 op] w fun e w' => e = .returned (.bool false) ∧ w = w') := Lib.hid fun w => by have := named_any op w; rwa [show namedB op = false from decide_eq_false (by omega)] at this
  have KC : Hid (∀ w, Calls Try.prog 57 #[.int .i64 op] w fun e w' => e = .returned (.bool false) ∧ w = w') := Lib.hid fun w => by have := counted_any op w; rwa [show countedB op = false from decide_eq_false (by omega)] at this
  have KJ : Hid (∀ w, Calls Try.prog 58 #[.int .i64 op] w fun e w' => e = .returned (.bool false) ∧ w = w') := Lib.hid fun w => by have := rjumps_any op w; rwa [show rjumpsB op = false from decide_eq_false (by omega)] at this
  obtain rfl : op = 1 := by omega
  clear hop
  obtain ⟨A1, n1, c1, A2, n2, c2, A3, n3, c3, A4, n4, c4, A5, n5, c5, A6, n6, c6, rfl, r1, r2, r3, r4, r5, r6, m1, m2, m3, m4, m5, m6⟩ := hc.parts
  have hl6 := r6.1
  unfold Most at m1 m2 m3 m4 m5 m6
  have HP := Lib.hid hp
  have hn := hp.most
  have hpl := hp.len
  unfold Most at hn
  have hmay : Kd.may p c .consts a = inB a n5 := by show decide (0 ≤ a ∧ a < (c.consts.length : Int)) = _; rw [r5.1]; rfl
  rw [hmay]
  clear r1 r2 r3 r4 r5 r6 hc hp hmay hpl hl6
  cases hb : inB a n5 with
  | false =>
    have KI : Hid (∀ w, Calls Try.prog 26 #[.int .i64 a, .int .i64 n5] w fun e w' => e = .returned (.bool false) ∧ w = w') := Lib.hid fun w => by have := in_any a n5 w; rwa [hb] at this
    clear hb
    rw [if_pos rfl]
    go_enter Try.func28, Try.ntmps28
    go_wp2_with (first | ((with_reducible refine (KN.out _).mono ?_); rintro e w2 ⟨rfl, rfl⟩) | ((with_reducible refine (KC.out _).mono ?_); rintro e w2 ⟨rfl, rfl⟩) | ((with_reducible refine (KJ.out _).mono ?_); rintro e w2 ⟨rfl, rfl⟩) | ((with_reducible refine (KI.out _).mono ?_); rintro e w2 ⟨rfl, rfl⟩))
    go_ret
    exact ⟨rfl, (by repeat (first | exact Below.refl _ _ | assumption | refine Below.setCell ?_ (by first | (simp; done) | (simp; omega) | omega) _ | refine below_drewN ?_ _ | refine Below.drew ?_ | refine Below.alloc ?_ (by first | (simp; done) | (simp; omega) | omega) _))⟩
  | true =>
    have KI : Hid (∀ w, Calls Try.prog 26 #[.int .i64 a, .int .i64 n5] w fun e w' => e = .returned (.bool true) ∧ w = w') := Lib.hid fun w => by have := in_any a n5 w; rwa [hb] at this
    clear hb
    rw [if_neg (by decide), if_neg (by simp)]
    go_enter Try.func28, Try.ntmps28
    go_wp2_with (first | ((with_reducible refine (KN.out _).mono ?_); rintro e w2 ⟨rfl, rfl⟩) | ((with_reducible refine (KC.out _).mono ?_); rintro e w2 ⟨rfl, rfl⟩) | ((with_reducible refine (KJ.out _).mono ?_); rintro e w2 ⟨rfl, rfl⟩) | ((with_reducible refine (KI.out _).mono ?_); rintro e w2 ⟨rfl, rfl⟩))
    go_ret
    exact ⟨rfl, (by repeat (first | exact Below.refl _ _ | assumption | refine Below.setCell ?_ (by first | (simp; done) | (simp; omega) | omega) _ | refine below_drewN ?_ _ | refine Below.drew ?_ | refine Below.alloc ?_ (by first | (simp; done) | (simp; omega) | omega) _))⟩
set_option maxRecDepth 100000 in
set_option maxHeartbeats 4000000 in
theorem rwrong_2 {w : World} {p : ProgD} {c : CodeD} {cs : List Value} {A : Option Addr} {n k : Nat} (hp : ProgAt w A n k p) (hc : CodeAt w c cs) {op a : Int} (hop : 2 ≤ op ∧ op ≤ 4) :
    Calls Try.prog 28 #[.slice A n k, .agg cs.toArray, .agg #[.int .i64 op, .int .i64 a]] w (SaysR w (wrongE p c (op, a))) := by
  obtain ⟨tk, lv, he⟩ : ∃ tk lv, effOf op = some (.free, tk, lv) := by
    rcases (by omega : op = 2 ∨ op = 3 ∨ op = 4) with rfl | rfl | rfl <;> exact ⟨_, _, rfl⟩
  rw [wrongE_of he]
  clear he
  have hj : jumpsB op = false := decide_eq_false (by omega)
  rw [hj]
  clear hj
  have KN : Hid (∀ w, Calls Try.prog 56 #[.int .i64 op] w fun e w' => e = .returned (.bool false) ∧ w = w') := Lib.hid fun w => by have := named_any op w; rwa [show namedB op = false from decide_eq_false (by omega)] at this
  have KC : Hid (∀ w, Calls Try.prog 57 #[.int .i64 op] w fun e w' => e = .returned (.bool false) ∧ w = w') := Lib.hid fun w => by have := counted_any op w; rwa [show countedB op = false from decide_eq_false (by omega)] at this
  have KJ : Hid (∀ w, Calls Try.prog 58 #[.int .i64 op] w fun e w' => e = .returned (.bool false) ∧ w = w') := Lib.hid fun w => by have := rjumps_any op w; rwa [show rjumpsB op = false from decide_eq_false (by omega)] at this
  have f0 : decide (op < (1 : Int)) = false := decide_eq_false (by omega)
  have f1 : decide ((56 : Int) < op) = false := decide_eq_false (by omega)
  have f2 : (op == (1 : Int)) = false := by simp; omega
  have f3 : decide ((5 : Int) ≤ op) = false := decide_eq_false (by omega)
  have f4 : decide (op ≤ (7 : Int)) = true := decide_eq_true (by omega)
  have f5 : decide ((8 : Int) ≤ op) = false := decide_eq_false (by omega)
  have f6 : decide (op ≤ (11 : Int)) = true := decide_eq_true (by omega)
  have f7 : (op == (33 : Int)) = false := by simp; omega
  have f8 : (op == (34 : Int)) = false := by simp; omega
  have f9 : decide ((15 : Int) ≤ op) = false := decide_eq_false (by omega)
  have f10 : decide (op ≤ (17 : Int)) = true := decide_eq_true (by omega)
  have f11 : (op == (53 : Int)) = false := by simp; omega
  clear hop
  obtain ⟨A1, n1, c1, A2, n2, c2, A3, n3, c3, A4, n4, c4, A5, n5, c5, A6, n6, c6, rfl, r1, r2, r3, r4, r5, r6, m1, m2, m3, m4, m5, m6⟩ := hc.parts
  have hl6 := r6.1
  unfold Most at m1 m2 m3 m4 m5 m6
  have HP := Lib.hid hp
  have hn := hp.most
  have hpl := hp.len
  unfold Most at hn
  rw [if_neg (by simp [Kd.may]), if_neg (by simp)]
  clear r1 r2 r3 r4 r5 r6 hc hp hpl hl6
  go_enter Try.func28, Try.ntmps28
  go_wp2_with (first | ((with_reducible refine (KN.out _).mono ?_); rintro e w2 ⟨rfl, rfl⟩) | ((with_reducible refine (KC.out _).mono ?_); rintro e w2 ⟨rfl, rfl⟩) | ((with_reducible refine (KJ.out _).mono ?_); rintro e w2 ⟨rfl, rfl⟩))
  go_ret
  exact ⟨rfl, (by repeat (first | exact Below.refl _ _ | assumption | refine Below.setCell ?_ (by first | (simp; done) | (simp; omega) | omega) _ | refine below_drewN ?_ _ | refine Below.drew ?_ | refine Below.alloc ?_ (by first | (simp; done) | (simp; omega) | omega) _))⟩
set_option maxRecDepth 100000 in
set_option maxHeartbeats 4000000 in
theorem rwrong_5 {w : World} {p : ProgD} {c : CodeD} {cs : List Value} {A : Option Addr} {n k : Nat} (hp : ProgAt w A n k p) (hc : CodeAt w c cs) {op a : Int} (hop : 5 ≤ op ∧ op ≤ 7) :
    Calls Try.prog 28 #[.slice A n k, .agg cs.toArray, .agg #[.int .i64 op, .int .i64 a]] w (SaysR w (wrongE p c (op, a))) := by
  obtain ⟨tk, lv, he⟩ : ∃ tk lv, effOf op = some (.locals, tk, lv) := by
    rcases (by omega : op = 5 ∨ op = 6 ∨ op = 7) with rfl | rfl | rfl <;> exact ⟨_, _, rfl⟩
  rw [wrongE_of he]
  clear he
  have hj : jumpsB op = false := decide_eq_false (by omega)
  rw [hj]
  clear hj
  have KN : Hid (∀ w, Calls Try.prog 56 #[.int .i64 op] w fun e w' => e = .returned (.bool false) ∧ w = w') := Lib.hid fun w => by have := named_any op w; rwa [show namedB op = false from decide_eq_false (by omega)] at this
  have KC : Hid (∀ w, Calls Try.prog 57 #[.int .i64 op] w fun e w' => e = .returned (.bool false) ∧ w = w') := Lib.hid fun w => by have := counted_any op w; rwa [show countedB op = false from decide_eq_false (by omega)] at this
  have KJ : Hid (∀ w, Calls Try.prog 58 #[.int .i64 op] w fun e w' => e = .returned (.bool false) ∧ w = w') := Lib.hid fun w => by have := rjumps_any op w; rwa [show rjumpsB op = false from decide_eq_false (by omega)] at this
  have f0 : decide (op < (1 : Int)) = false := decide_eq_false (by omega)
  have f1 : decide ((56 : Int) < op) = false := decide_eq_false (by omega)
  have f2 : (op == (1 : Int)) = false := by simp; omega
  have f3 : decide ((5 : Int) ≤ op) = true := decide_eq_true (by omega)
  have f4 : decide (op ≤ (7 : Int)) = true := decide_eq_true (by omega)
  have f5 : decide ((8 : Int) ≤ op) = false := decide_eq_false (by omega)
  have f6 : decide (op ≤ (11 : Int)) = true := decide_eq_true (by omega)
  have f7 : (op == (33 : Int)) = false := by simp; omega
  have f8 : (op == (34 : Int)) = false := by simp; omega
  have f9 : decide ((15 : Int) ≤ op) = false := decide_eq_false (by omega)
  have f10 : decide (op ≤ (17 : Int)) = true := decide_eq_true (by omega)
  have f11 : (op == (53 : Int)) = false := by simp; omega
  clear hop
  obtain ⟨A1, n1, c1, A2, n2, c2, A3, n3, c3, A4, n4, c4, A5, n5, c5, A6, n6, c6, rfl, r1, r2, r3, r4, r5, r6, m1, m2, m3, m4, m5, m6⟩ := hc.parts
  have hl6 := r6.1
  unfold Most at m1 m2 m3 m4 m5 m6
  have HP := Lib.hid hp
  have hn := hp.most
  have hpl := hp.len
  unfold Most at hn
  have hmay : Kd.may p c .locals a = inB a n1 := by show decide (0 ≤ a ∧ a < (c.locals.length : Int)) = _; rw [r1.1]; rfl
  rw [hmay]
  clear r1 r2 r3 r4 r5 r6 hc hp hmay hpl hl6
  cases hb : inB a n1 with
  | false =>
    have KI : Hid (∀ w, Calls Try.prog 26 #[.int .i64 a, .int .i64 n1] w fun e w' => e = .returned (.bool false) ∧ w = w') := Lib.hid fun w => by have := in_any a n1 w; rwa [hb] at this
    clear hb
    rw [if_pos rfl]
    go_enter Try.func28, Try.ntmps28
    go_wp2_with (first | ((with_reducible refine (KN.out _).mono ?_); rintro e w2 ⟨rfl, rfl⟩) | ((with_reducible refine (KC.out _).mono ?_); rintro e w2 ⟨rfl, rfl⟩) | ((with_reducible refine (KJ.out _).mono ?_); rintro e w2 ⟨rfl, rfl⟩) | ((with_reducible refine (KI.out _).mono ?_); rintro e w2 ⟨rfl, rfl⟩))
    go_ret
    exact ⟨rfl, (by repeat (first | exact Below.refl _ _ | assumption | refine Below.setCell ?_ (by first | (simp; done) | (simp; omega) | omega) _ | refine below_drewN ?_ _ | refine Below.drew ?_ | refine Below.alloc ?_ (by first | (simp; done) | (simp; omega) | omega) _))⟩
  | true =>
    have KI : Hid (∀ w, Calls Try.prog 26 #[.int .i64 a, .int .i64 n1] w fun e w' => e = .returned (.bool true) ∧ w = w') := Lib.hid fun w => by have := in_any a n1 w; rwa [hb] at this
    clear hb
    rw [if_neg (by decide), if_neg (by simp)]
    go_enter Try.func28, Try.ntmps28
    go_wp2_with (first | ((with_reducible refine (KN.out _).mono ?_); rintro e w2 ⟨rfl, rfl⟩) | ((with_reducible refine (KC.out _).mono ?_); rintro e w2 ⟨rfl, rfl⟩) | ((with_reducible refine (KJ.out _).mono ?_); rintro e w2 ⟨rfl, rfl⟩) | ((with_reducible refine (KI.out _).mono ?_); rintro e w2 ⟨rfl, rfl⟩))
    go_ret
    exact ⟨rfl, (by repeat (first | exact Below.refl _ _ | assumption | refine Below.setCell ?_ (by first | (simp; done) | (simp; omega) | omega) _ | refine below_drewN ?_ _ | refine Below.drew ?_ | refine Below.alloc ?_ (by first | (simp; done) | (simp; omega) | omega) _))⟩
set_option maxRecDepth 100000 in
set_option maxHeartbeats 4000000 in
theorem rwrong_8 {w : World} {p : ProgD} {c : CodeD} {cs : List Value} {A : Option Addr} {n k : Nat} (hp : ProgAt w A n k p) (hc : CodeAt w c cs) {op a : Int} (hop : 8 ≤ op ∧ op ≤ 11) :
    Calls Try.prog 28 #[.slice A n k, .agg cs.toArray, .agg #[.int .i64 op, .int .i64 a]] w (SaysR w (wrongE p c (op, a))) := by
  obtain ⟨tk, lv, he⟩ : ∃ tk lv, effOf op = some (.cells, tk, lv) := by
    rcases (by omega : op = 8 ∨ op = 9 ∨ op = 10 ∨ op = 11) with rfl | rfl | rfl | rfl <;> exact ⟨_, _, rfl⟩
  rw [wrongE_of he]
  clear he
  have hj : jumpsB op = false := decide_eq_false (by omega)
  rw [hj]
  clear hj
  have KN : Hid (∀ w, Calls Try.prog 56 #[.int .i64 op] w fun e w' => e = .returned (.bool false) ∧ w = w') := Lib.hid fun w => by have := named_any op w; rwa [show namedB op = false from decide_eq_false (by omega)] at this
  have KC : Hid (∀ w, Calls Try.prog 57 #[.int .i64 op] w fun e w' => e = .returned (.bool false) ∧ w = w') := Lib.hid fun w => by have := counted_any op w; rwa [show countedB op = false from decide_eq_false (by omega)] at this
  have KJ : Hid (∀ w, Calls Try.prog 58 #[.int .i64 op] w fun e w' => e = .returned (.bool false) ∧ w = w') := Lib.hid fun w => by have := rjumps_any op w; rwa [show rjumpsB op = false from decide_eq_false (by omega)] at this
  have f0 : decide (op < (1 : Int)) = false := decide_eq_false (by omega)
  have f1 : decide ((56 : Int) < op) = false := decide_eq_false (by omega)
  have f2 : (op == (1 : Int)) = false := by simp; omega
  have f3 : decide ((5 : Int) ≤ op) = true := decide_eq_true (by omega)
  have f4 : decide (op ≤ (7 : Int)) = false := decide_eq_false (by omega)
  have f5 : decide ((8 : Int) ≤ op) = true := decide_eq_true (by omega)
  have f6 : decide (op ≤ (11 : Int)) = true := decide_eq_true (by omega)
  have f7 : (op == (33 : Int)) = false := by simp; omega
  have f8 : (op == (34 : Int)) = false := by simp; omega
  have f9 : decide ((15 : Int) ≤ op) = false := decide_eq_false (by omega)
  have f10 : decide (op ≤ (17 : Int)) = true := decide_eq_true (by omega)
  have f11 : (op == (53 : Int)) = false := by simp; omega
  clear hop
  obtain ⟨A1, n1, c1, A2, n2, c2, A3, n3, c3, A4, n4, c4, A5, n5, c5, A6, n6, c6, rfl, r1, r2, r3, r4, r5, r6, m1, m2, m3, m4, m5, m6⟩ := hc.parts
  have hl6 := r6.1
  unfold Most at m1 m2 m3 m4 m5 m6
  have HP := Lib.hid hp
  have hn := hp.most
  have hpl := hp.len
  unfold Most at hn
  have hmay : Kd.may p c .cells a = inB a ((n2 : Int) + (n3 : Int)) := by show decide (0 ≤ a ∧ a < (c.cells.length : Int) + (c.free.length : Int)) = _; rw [r2.1, r3.1]; rfl
  rw [hmay]
  clear r1 r2 r3 r4 r5 r6 hc hp hmay hpl hl6
  cases hb : inB a ((n2 : Int) + (n3 : Int)) with
  | false =>
    have KI : Hid (∀ w, Calls Try.prog 26 #[.int .i64 a, .int .i64 ((n2 : Int) + (n3 : Int))] w fun e w' => e = .returned (.bool false) ∧ w = w') := Lib.hid fun w => by have := in_any a ((n2 : Int) + (n3 : Int)) w; rwa [hb] at this
    clear hb
    rw [if_pos rfl]
    go_enter Try.func28, Try.ntmps28
    go_wp2_with (first | ((with_reducible refine (KN.out _).mono ?_); rintro e w2 ⟨rfl, rfl⟩) | ((with_reducible refine (KC.out _).mono ?_); rintro e w2 ⟨rfl, rfl⟩) | ((with_reducible refine (KJ.out _).mono ?_); rintro e w2 ⟨rfl, rfl⟩) | ((with_reducible refine (KI.out _).mono ?_); rintro e w2 ⟨rfl, rfl⟩))
    go_ret
    exact ⟨rfl, (by repeat (first | exact Below.refl _ _ | assumption | refine Below.setCell ?_ (by first | (simp; done) | (simp; omega) | omega) _ | refine below_drewN ?_ _ | refine Below.drew ?_ | refine Below.alloc ?_ (by first | (simp; done) | (simp; omega) | omega) _))⟩
  | true =>
    have KI : Hid (∀ w, Calls Try.prog 26 #[.int .i64 a, .int .i64 ((n2 : Int) + (n3 : Int))] w fun e w' => e = .returned (.bool true) ∧ w = w') := Lib.hid fun w => by have := in_any a ((n2 : Int) + (n3 : Int)) w; rwa [hb] at this
    clear hb
    rw [if_neg (by decide), if_neg (by simp)]
    go_enter Try.func28, Try.ntmps28
    go_wp2_with (first | ((with_reducible refine (KN.out _).mono ?_); rintro e w2 ⟨rfl, rfl⟩) | ((with_reducible refine (KC.out _).mono ?_); rintro e w2 ⟨rfl, rfl⟩) | ((with_reducible refine (KJ.out _).mono ?_); rintro e w2 ⟨rfl, rfl⟩) | ((with_reducible refine (KI.out _).mono ?_); rintro e w2 ⟨rfl, rfl⟩))
    go_ret
    exact ⟨rfl, (by repeat (first | exact Below.refl _ _ | assumption | refine Below.setCell ?_ (by first | (simp; done) | (simp; omega) | omega) _ | refine below_drewN ?_ _ | refine Below.drew ?_ | refine Below.alloc ?_ (by first | (simp; done) | (simp; omega) | omega) _))⟩
set_option maxRecDepth 100000 in
set_option maxHeartbeats 4000000 in
theorem rwrong_12 {w : World} {p : ProgD} {c : CodeD} {cs : List Value} {A : Option Addr} {n k : Nat} (hp : ProgAt w A n k p) (hc : CodeAt w c cs) {op a : Int} (hop : 12 ≤ op ∧ op ≤ 14) :
    Calls Try.prog 28 #[.slice A n k, .agg cs.toArray, .agg #[.int .i64 op, .int .i64 a]] w (SaysR w (wrongE p c (op, a))) := by
  obtain ⟨tk, lv, he⟩ : ∃ tk lv, effOf op = some (.names, tk, lv) := by
    rcases (by omega : op = 12 ∨ op = 13 ∨ op = 14) with rfl | rfl | rfl <;> exact ⟨_, _, rfl⟩
  rw [wrongE_of he]
  clear he
  have hj : jumpsB op = false := decide_eq_false (by omega)
  rw [hj]
  clear hj
  have KN : Hid (∀ w, Calls Try.prog 56 #[.int .i64 op] w fun e w' => e = .returned (.bool true) ∧ w = w') := Lib.hid fun w => by have := named_any op w; rwa [show namedB op = true from decide_eq_true (by omega)] at this
  have KC : Hid (∀ w, Calls Try.prog 57 #[.int .i64 op] w fun e w' => e = .returned (.bool false) ∧ w = w') := Lib.hid fun w => by have := counted_any op w; rwa [show countedB op = false from decide_eq_false (by omega)] at this
  have KJ : Hid (∀ w, Calls Try.prog 58 #[.int .i64 op] w fun e w' => e = .returned (.bool false) ∧ w = w') := Lib.hid fun w => by have := rjumps_any op w; rwa [show rjumpsB op = false from decide_eq_false (by omega)] at this
  have f0 : decide (op < (1 : Int)) = false := decide_eq_false (by omega)
  have f1 : decide ((56 : Int) < op) = false := decide_eq_false (by omega)
  have f2 : (op == (1 : Int)) = false := by simp; omega
  have f3 : decide ((5 : Int) ≤ op) = true := decide_eq_true (by omega)
  have f4 : decide (op ≤ (7 : Int)) = false := decide_eq_false (by omega)
  have f5 : decide ((8 : Int) ≤ op) = true := decide_eq_true (by omega)
  have f6 : decide (op ≤ (11 : Int)) = false := decide_eq_false (by omega)
  have f7 : (op == (33 : Int)) = false := by simp; omega
  have f8 : (op == (34 : Int)) = false := by simp; omega
  have f9 : decide ((15 : Int) ≤ op) = false := decide_eq_false (by omega)
  have f10 : decide (op ≤ (17 : Int)) = true := decide_eq_true (by omega)
  have f11 : (op == (53 : Int)) = false := by simp; omega
  clear hop
  obtain ⟨A1, n1, c1, A2, n2, c2, A3, n3, c3, A4, n4, c4, A5, n5, c5, A6, n6, c6, rfl, r1, r2, r3, r4, r5, r6, m1, m2, m3, m4, m5, m6⟩ := hc.parts
  have hl6 := r6.1
  unfold Most at m1 m2 m3 m4 m5 m6
  have HP := Lib.hid hp
  have hn := hp.most
  have hpl := hp.len
  unfold Most at hn
  have hmay : Kd.may p c .names a = inB a n4 := by show decide (0 ≤ a ∧ a < (c.names.length : Int)) = _; rw [r4.1]; rfl
  rw [hmay]
  clear r1 r2 r3 r4 r5 r6 hc hp hmay hpl hl6
  cases hb : inB a n4 with
  | false =>
    have KI : Hid (∀ w, Calls Try.prog 26 #[.int .i64 a, .int .i64 n4] w fun e w' => e = .returned (.bool false) ∧ w = w') := Lib.hid fun w => by have := in_any a n4 w; rwa [hb] at this
    clear hb
    rw [if_pos rfl]
    go_enter Try.func28, Try.ntmps28
    go_wp2_with (first | ((with_reducible refine (KN.out _).mono ?_); rintro e w2 ⟨rfl, rfl⟩) | ((with_reducible refine (KC.out _).mono ?_); rintro e w2 ⟨rfl, rfl⟩) | ((with_reducible refine (KJ.out _).mono ?_); rintro e w2 ⟨rfl, rfl⟩) | ((with_reducible refine (KI.out _).mono ?_); rintro e w2 ⟨rfl, rfl⟩))
    go_ret
    exact ⟨rfl, (by repeat (first | exact Below.refl _ _ | assumption | refine Below.setCell ?_ (by first | (simp; done) | (simp; omega) | omega) _ | refine below_drewN ?_ _ | refine Below.drew ?_ | refine Below.alloc ?_ (by first | (simp; done) | (simp; omega) | omega) _))⟩
  | true =>
    have KI : Hid (∀ w, Calls Try.prog 26 #[.int .i64 a, .int .i64 n4] w fun e w' => e = .returned (.bool true) ∧ w = w') := Lib.hid fun w => by have := in_any a n4 w; rwa [hb] at this
    clear hb
    rw [if_neg (by decide), if_neg (by simp)]
    go_enter Try.func28, Try.ntmps28
    go_wp2_with (first | ((with_reducible refine (KN.out _).mono ?_); rintro e w2 ⟨rfl, rfl⟩) | ((with_reducible refine (KC.out _).mono ?_); rintro e w2 ⟨rfl, rfl⟩) | ((with_reducible refine (KJ.out _).mono ?_); rintro e w2 ⟨rfl, rfl⟩) | ((with_reducible refine (KI.out _).mono ?_); rintro e w2 ⟨rfl, rfl⟩))
    go_ret
    exact ⟨rfl, (by repeat (first | exact Below.refl _ _ | assumption | refine Below.setCell ?_ (by first | (simp; done) | (simp; omega) | omega) _ | refine below_drewN ?_ _ | refine Below.drew ?_ | refine Below.alloc ?_ (by first | (simp; done) | (simp; omega) | omega) _))⟩
set_option maxRecDepth 100000 in
set_option maxHeartbeats 4000000 in
theorem rwrong_15 {w : World} {p : ProgD} {c : CodeD} {cs : List Value} {A : Option Addr} {n k : Nat} (hp : ProgAt w A n k p) (hc : CodeAt w c cs) {op a : Int} (hop : 15 ≤ op ∧ op ≤ 17) :
    Calls Try.prog 28 #[.slice A n k, .agg cs.toArray, .agg #[.int .i64 op, .int .i64 a]] w (SaysR w (wrongE p c (op, a))) := by
  obtain ⟨tk, lv, he⟩ : ∃ tk lv, effOf op = some (.space, tk, lv) := by
    rcases (by omega : op = 15 ∨ op = 16 ∨ op = 17) with rfl | rfl | rfl <;> exact ⟨_, _, rfl⟩
  rw [wrongE_of he]
  clear he
  have hj : jumpsB op = false := decide_eq_false (by omega)
  rw [hj]
  clear hj
  have KN : Hid (∀ w, Calls Try.prog 56 #[.int .i64 op] w fun e w' => e = .returned (.bool true) ∧ w = w') := Lib.hid fun w => by have := named_any op w; rwa [show namedB op = true from decide_eq_true (by omega)] at this
  have KC : Hid (∀ w, Calls Try.prog 57 #[.int .i64 op] w fun e w' => e = .returned (.bool false) ∧ w = w') := Lib.hid fun w => by have := counted_any op w; rwa [show countedB op = false from decide_eq_false (by omega)] at this
  have KJ : Hid (∀ w, Calls Try.prog 58 #[.int .i64 op] w fun e w' => e = .returned (.bool false) ∧ w = w') := Lib.hid fun w => by have := rjumps_any op w; rwa [show rjumpsB op = false from decide_eq_false (by omega)] at this
  have f0 : decide (op < (1 : Int)) = false := decide_eq_false (by omega)
  have f1 : decide ((56 : Int) < op) = false := decide_eq_false (by omega)
  have f2 : (op == (1 : Int)) = false := by simp; omega
  have f3 : decide ((5 : Int) ≤ op) = true := decide_eq_true (by omega)
  have f4 : decide (op ≤ (7 : Int)) = false := decide_eq_false (by omega)
  have f5 : decide ((8 : Int) ≤ op) = true := decide_eq_true (by omega)
  have f6 : decide (op ≤ (11 : Int)) = false := decide_eq_false (by omega)
  have f7 : (op == (33 : Int)) = false := by simp; omega
  have f8 : (op == (34 : Int)) = false := by simp; omega
  have f9 : decide ((15 : Int) ≤ op) = true := decide_eq_true (by omega)
  have f10 : decide (op ≤ (17 : Int)) = true := decide_eq_true (by omega)
  have f11 : (op == (53 : Int)) = false := by simp; omega
  clear hop
  obtain ⟨A1, n1, c1, A2, n2, c2, A3, n3, c3, A4, n4, c4, A5, n5, c5, A6, n6, c6, rfl, r1, r2, r3, r4, r5, r6, m1, m2, m3, m4, m5, m6⟩ := hc.parts
  have hl6 := r6.1
  unfold Most at m1 m2 m3 m4 m5 m6
  have HP := Lib.hid hp
  have hn := hp.most
  have hpl := hp.len
  unfold Most at hn
  have hmay : Kd.may p c .space a = (inB a n4 && decide (c.kind = 3)) := by show (decide (0 ≤ a ∧ a < (c.names.length : Int)) && decide (c.kind = 3)) = _; rw [r4.1]; rfl
  rw [hmay]
  clear r1 r2 r3 r4 r5 r6 hc hp hmay hpl hl6
  generalize c.kind = ck at *
  cases hb : inB a n4 with
  | false =>
    have KI : Hid (∀ w, Calls Try.prog 26 #[.int .i64 a, .int .i64 n4] w fun e w' => e = .returned (.bool false) ∧ w = w') := Lib.hid fun w => by have := in_any a n4 w; rwa [hb] at this
    clear hb
    by_cases hk : ck = 3
    · subst hk
      rw [if_pos (by simp)]
      go_enter Try.func28, Try.ntmps28
      go_wp2_with (first | ((with_reducible refine (KN.out _).mono ?_); rintro e w2 ⟨rfl, rfl⟩) | ((with_reducible refine (KC.out _).mono ?_); rintro e w2 ⟨rfl, rfl⟩) | ((with_reducible refine (KJ.out _).mono ?_); rintro e w2 ⟨rfl, rfl⟩) | ((with_reducible refine (KI.out _).mono ?_); rintro e w2 ⟨rfl, rfl⟩))
      go_ret
      exact ⟨rfl, (by repeat (first | exact Below.refl _ _ | assumption | refine Below.setCell ?_ (by first | (simp; done) | (simp; omega) | omega) _ | refine below_drewN ?_ _ | refine Below.drew ?_ | refine Below.alloc ?_ (by first | (simp; done) | (simp; omega) | omega) _))⟩
    · have hk1 : (ck == 3) = false := by simpa using hk
      have hk2 : (ck != 3) = true := by simpa using hk
      rw [if_pos (by simp [hk])]
      clear hk
      go_enter Try.func28, Try.ntmps28
      go_wp2_with (first | ((with_reducible refine (KN.out _).mono ?_); rintro e w2 ⟨rfl, rfl⟩) | ((with_reducible refine (KC.out _).mono ?_); rintro e w2 ⟨rfl, rfl⟩) | ((with_reducible refine (KJ.out _).mono ?_); rintro e w2 ⟨rfl, rfl⟩) | ((with_reducible refine (KI.out _).mono ?_); rintro e w2 ⟨rfl, rfl⟩))
      go_ret
      exact ⟨rfl, (by repeat (first | exact Below.refl _ _ | assumption | refine Below.setCell ?_ (by first | (simp; done) | (simp; omega) | omega) _ | refine below_drewN ?_ _ | refine Below.drew ?_ | refine Below.alloc ?_ (by first | (simp; done) | (simp; omega) | omega) _))⟩
  | true =>
    have KI : Hid (∀ w, Calls Try.prog 26 #[.int .i64 a, .int .i64 n4] w fun e w' => e = .returned (.bool true) ∧ w = w') := Lib.hid fun w => by have := in_any a n4 w; rwa [hb] at this
    clear hb
    by_cases hk : ck = 3
    · subst hk
      rw [if_neg (by simp), if_neg (by simp)]
      go_enter Try.func28, Try.ntmps28
      go_wp2_with (first | ((with_reducible refine (KN.out _).mono ?_); rintro e w2 ⟨rfl, rfl⟩) | ((with_reducible refine (KC.out _).mono ?_); rintro e w2 ⟨rfl, rfl⟩) | ((with_reducible refine (KJ.out _).mono ?_); rintro e w2 ⟨rfl, rfl⟩) | ((with_reducible refine (KI.out _).mono ?_); rintro e w2 ⟨rfl, rfl⟩))
      go_ret
      exact ⟨rfl, (by repeat (first | exact Below.refl _ _ | assumption | refine Below.setCell ?_ (by first | (simp; done) | (simp; omega) | omega) _ | refine below_drewN ?_ _ | refine Below.drew ?_ | refine Below.alloc ?_ (by first | (simp; done) | (simp; omega) | omega) _))⟩
    · have hk1 : (ck == 3) = false := by simpa using hk
      have hk2 : (ck != 3) = true := by simpa using hk
      rw [if_pos (by simp [hk])]
      clear hk
      go_enter Try.func28, Try.ntmps28
      go_wp2_with (first | ((with_reducible refine (KN.out _).mono ?_); rintro e w2 ⟨rfl, rfl⟩) | ((with_reducible refine (KC.out _).mono ?_); rintro e w2 ⟨rfl, rfl⟩) | ((with_reducible refine (KJ.out _).mono ?_); rintro e w2 ⟨rfl, rfl⟩) | ((with_reducible refine (KI.out _).mono ?_); rintro e w2 ⟨rfl, rfl⟩))
      go_ret
      exact ⟨rfl, (by repeat (first | exact Below.refl _ _ | assumption | refine Below.setCell ?_ (by first | (simp; done) | (simp; omega) | omega) _ | refine below_drewN ?_ _ | refine Below.drew ?_ | refine Below.alloc ?_ (by first | (simp; done) | (simp; omega) | omega) _))⟩
set_option maxRecDepth 100000 in
set_option maxHeartbeats 4000000 in
theorem rwrong_18 {w : World} {p : ProgD} {c : CodeD} {cs : List Value} {A : Option Addr} {n k : Nat} (hp : ProgAt w A n k p) (hc : CodeAt w c cs) {op a : Int} (hop : 18 ≤ op ∧ op ≤ 19) :
    Calls Try.prog 28 #[.slice A n k, .agg cs.toArray, .agg #[.int .i64 op, .int .i64 a]] w (SaysR w (wrongE p c (op, a))) := by
  obtain ⟨tk, lv, he⟩ : ∃ tk lv, effOf op = some (.names, tk, lv) := by
    rcases (by omega : op = 18 ∨ op = 19) with rfl | rfl <;> exact ⟨_, _, rfl⟩
  rw [wrongE_of he]
  clear he
  have hj : jumpsB op = false := decide_eq_false (by omega)
  rw [hj]
  clear hj
  have KN : Hid (∀ w, Calls Try.prog 56 #[.int .i64 op] w fun e w' => e = .returned (.bool true) ∧ w = w') := Lib.hid fun w => by have := named_any op w; rwa [show namedB op = true from decide_eq_true (by omega)] at this
  have KC : Hid (∀ w, Calls Try.prog 57 #[.int .i64 op] w fun e w' => e = .returned (.bool false) ∧ w = w') := Lib.hid fun w => by have := counted_any op w; rwa [show countedB op = false from decide_eq_false (by omega)] at this
  have KJ : Hid (∀ w, Calls Try.prog 58 #[.int .i64 op] w fun e w' => e = .returned (.bool false) ∧ w = w') := Lib.hid fun w => by have := rjumps_any op w; rwa [show rjumpsB op = false from decide_eq_false (by omega)] at this
  have f0 : decide (op < (1 : Int)) = false := decide_eq_false (by omega)
  have f1 : decide ((56 : Int) < op) = false := decide_eq_false (by omega)
  have f2 : (op == (1 : Int)) = false := by simp; omega
  have f3 : decide ((5 : Int) ≤ op) = true := decide_eq_true (by omega)
  have f4 : decide (op ≤ (7 : Int)) = false := decide_eq_false (by omega)
  have f5 : decide ((8 : Int) ≤ op) = true := decide_eq_true (by omega)
  have f6 : decide (op ≤ (11 : Int)) = false := decide_eq_false (by omega)
  have f7 : (op == (33 : Int)) = false := by simp; omega
  have f8 : (op == (34 : Int)) = false := by simp; omega
  have f9 : decide ((15 : Int) ≤ op) = true := decide_eq_true (by omega)
  have f10 : decide (op ≤ (17 : Int)) = false := decide_eq_false (by omega)
  have f11 : (op == (53 : Int)) = false := by simp; omega
  clear hop
  obtain ⟨A1, n1, c1, A2, n2, c2, A3, n3, c3, A4, n4, c4, A5, n5, c5, A6, n6, c6, rfl, r1, r2, r3, r4, r5, r6, m1, m2, m3, m4, m5, m6⟩ := hc.parts
  have hl6 := r6.1
  unfold Most at m1 m2 m3 m4 m5 m6
  have HP := Lib.hid hp
  have hn := hp.most
  have hpl := hp.len
  unfold Most at hn
  have hmay : Kd.may p c .names a = inB a n4 := by show decide (0 ≤ a ∧ a < (c.names.length : Int)) = _; rw [r4.1]; rfl
  rw [hmay]
  clear r1 r2 r3 r4 r5 r6 hc hp hmay hpl hl6
  cases hb : inB a n4 with
  | false =>
    have KI : Hid (∀ w, Calls Try.prog 26 #[.int .i64 a, .int .i64 n4] w fun e w' => e = .returned (.bool false) ∧ w = w') := Lib.hid fun w => by have := in_any a n4 w; rwa [hb] at this
    clear hb
    rw [if_pos rfl]
    go_enter Try.func28, Try.ntmps28
    go_wp2_with (first | ((with_reducible refine (KN.out _).mono ?_); rintro e w2 ⟨rfl, rfl⟩) | ((with_reducible refine (KC.out _).mono ?_); rintro e w2 ⟨rfl, rfl⟩) | ((with_reducible refine (KJ.out _).mono ?_); rintro e w2 ⟨rfl, rfl⟩) | ((with_reducible refine (KI.out _).mono ?_); rintro e w2 ⟨rfl, rfl⟩))
    go_ret
    exact ⟨rfl, (by repeat (first | exact Below.refl _ _ | assumption | refine Below.setCell ?_ (by first | (simp; done) | (simp; omega) | omega) _ | refine below_drewN ?_ _ | refine Below.drew ?_ | refine Below.alloc ?_ (by first | (simp; done) | (simp; omega) | omega) _))⟩
  | true =>
    have KI : Hid (∀ w, Calls Try.prog 26 #[.int .i64 a, .int .i64 n4] w fun e w' => e = .returned (.bool true) ∧ w = w') := Lib.hid fun w => by have := in_any a n4 w; rwa [hb] at this
    clear hb
    rw [if_neg (by decide), if_neg (by simp)]
    go_enter Try.func28, Try.ntmps28
    go_wp2_with (first | ((with_reducible refine (KN.out _).mono ?_); rintro e w2 ⟨rfl, rfl⟩) | ((with_reducible refine (KC.out _).mono ?_); rintro e w2 ⟨rfl, rfl⟩) | ((with_reducible refine (KJ.out _).mono ?_); rintro e w2 ⟨rfl, rfl⟩) | ((with_reducible refine (KI.out _).mono ?_); rintro e w2 ⟨rfl, rfl⟩))
    go_ret
    exact ⟨rfl, (by repeat (first | exact Below.refl _ _ | assumption | refine Below.setCell ?_ (by first | (simp; done) | (simp; omega) | omega) _ | refine below_drewN ?_ _ | refine Below.drew ?_ | refine Below.alloc ?_ (by first | (simp; done) | (simp; omega) | omega) _))⟩
set_option maxRecDepth 100000 in
set_option maxHeartbeats 4000000 in
theorem rwrong_20 {w : World} {p : ProgD} {c : CodeD} {cs : List Value} {A : Option Addr} {n k : Nat} (hp : ProgAt w A n k p) (hc : CodeAt w c cs) {op a : Int} (hop : 20 ≤ op ∧ op ≤ 21) :
    Calls Try.prog 28 #[.slice A n k, .agg cs.toArray, .agg #[.int .i64 op, .int .i64 a]] w (SaysR w (wrongE p c (op, a))) := by
  obtain ⟨tk, lv, he⟩ : ∃ tk lv, effOf op = some (.free, tk, lv) := by
    rcases (by omega : op = 20 ∨ op = 21) with rfl | rfl <;> exact ⟨_, _, rfl⟩
  rw [wrongE_of he]
  clear he
  have hj : jumpsB op = false := decide_eq_false (by omega)
  rw [hj]
  clear hj
  have KN : Hid (∀ w, Calls Try.prog 56 #[.int .i64 op] w fun e w' => e = .returned (.bool false) ∧ w = w') := Lib.hid fun w => by have := named_any op w; rwa [show namedB op = false from decide_eq_false (by omega)] at this
  have KC : Hid (∀ w, Calls Try.prog 57 #[.int .i64 op] w fun e w' => e = .returned (.bool false) ∧ w = w') := Lib.hid fun w => by have := counted_any op w; rwa [show countedB op = false from decide_eq_false (by omega)] at this
  have KJ : Hid (∀ w, Calls Try.prog 58 #[.int .i64 op] w fun e w' => e = .returned (.bool false) ∧ w = w') := Lib.hid fun w => by have := rjumps_any op w; rwa [show rjumpsB op = false from decide_eq_false (by omega)] at this
  have f0 : decide (op < (1 : Int)) = false := decide_eq_false (by omega)
  have f1 : decide ((56 : Int) < op) = false := decide_eq_false (by omega)
  have f2 : (op == (1 : Int)) = false := by simp; omega
  have f3 : decide ((5 : Int) ≤ op) = true := decide_eq_true (by omega)
  have f4 : decide (op ≤ (7 : Int)) = false := decide_eq_false (by omega)
  have f5 : decide ((8 : Int) ≤ op) = true := decide_eq_true (by omega)
  have f6 : decide (op ≤ (11 : Int)) = false := decide_eq_false (by omega)
  have f7 : (op == (33 : Int)) = false := by simp; omega
  have f8 : (op == (34 : Int)) = false := by simp; omega
  have f9 : decide ((15 : Int) ≤ op) = true := decide_eq_true (by omega)
  have f10 : decide (op ≤ (17 : Int)) = false := decide_eq_false (by omega)
  have f11 : (op == (53 : Int)) = false := by simp; omega
  clear hop
  obtain ⟨A1, n1, c1, A2, n2, c2, A3, n3, c3, A4, n4, c4, A5, n5, c5, A6, n6, c6, rfl, r1, r2, r3, r4, r5, r6, m1, m2, m3, m4, m5, m6⟩ := hc.parts
  have hl6 := r6.1
  unfold Most at m1 m2 m3 m4 m5 m6
  have HP := Lib.hid hp
  have hn := hp.most
  have hpl := hp.len
  unfold Most at hn
  rw [if_neg (by simp [Kd.may]), if_neg (by simp)]
  clear r1 r2 r3 r4 r5 r6 hc hp hpl hl6
  go_enter Try.func28, Try.ntmps28
  go_wp2_with (first | ((with_reducible refine (KN.out _).mono ?_); rintro e w2 ⟨rfl, rfl⟩) | ((with_reducible refine (KC.out _).mono ?_); rintro e w2 ⟨rfl, rfl⟩) | ((with_reducible refine (KJ.out _).mono ?_); rintro e w2 ⟨rfl, rfl⟩))
  go_ret
  exact ⟨rfl, (by repeat (first | exact Below.refl _ _ | assumption | refine Below.setCell ?_ (by first | (simp; done) | (simp; omega) | omega) _ | refine below_drewN ?_ _ | refine Below.drew ?_ | refine Below.alloc ?_ (by first | (simp; done) | (simp; omega) | omega) _))⟩

set_option maxRecDepth 100000 in
set_option maxHeartbeats 4000000 in
theorem rwrong_22 {w : World} {p : ProgD} {c : CodeD} {cs : List Value} {A : Option Addr} {n k : Nat} (hp : ProgAt w A n k p) (hc : CodeAt w c cs) {op a : Int} (hop : 22 ≤ op ∧ op ≤ 24) :
    Calls Try.prog 28 #[.slice A n k, .agg cs.toArray, .agg #[.int .i64 op, .int .i64 a]] w (SaysR w (wrongE p c (op, a))) := by
  obtain ⟨tk, lv, he⟩ : ∃ tk lv, effOf op = some (.count, tk, lv) := by
    rcases (by omega : op = 22 ∨ op = 23 ∨ op = 24) with rfl | rfl | rfl <;> exact ⟨_, _, rfl⟩
  rw [wrongE_of he]
  clear he
  have hj : jumpsB op = false := decide_eq_false (by omega)
  rw [hj]
  clear hj
  have KN : Hid (∀ w, Calls Try.prog 56 #[.int .i64 op] w fun e w' => e = .returned (.bool false) ∧ w = w') := Lib.hid fun w => by have := named_any op w; rwa [show namedB op = false from decide_eq_false (by omega)] at this
  have KC : Hid (∀ w, Calls Try.prog 57 #[.int .i64 op] w fun e w' => e = .returned (.bool true) ∧ w = w') := Lib.hid fun w => by have := counted_any op w; rwa [show countedB op = true from decide_eq_true (by omega)] at this
  have KJ : Hid (∀ w, Calls Try.prog 58 #[.int .i64 op] w fun e w' => e = .returned (.bool false) ∧ w = w') := Lib.hid fun w => by have := rjumps_any op w; rwa [show rjumpsB op = false from decide_eq_false (by omega)] at this
  have f0 : decide (op < (1 : Int)) = false := decide_eq_false (by omega)
  have f1 : decide ((56 : Int) < op) = false := decide_eq_false (by omega)
  have f2 : (op == (1 : Int)) = false := by simp; omega
  have f3 : decide ((5 : Int) ≤ op) = true := decide_eq_true (by omega)
  have f4 : decide (op ≤ (7 : Int)) = false := decide_eq_false (by omega)
  have f5 : decide ((8 : Int) ≤ op) = true := decide_eq_true (by omega)
  have f6 : decide (op ≤ (11 : Int)) = false := decide_eq_false (by omega)
  have f7 : (op == (33 : Int)) = false := by simp; omega
  have f8 : (op == (34 : Int)) = false := by simp; omega
  have f9 : decide ((15 : Int) ≤ op) = true := decide_eq_true (by omega)
  have f10 : decide (op ≤ (17 : Int)) = false := decide_eq_false (by omega)
  have f11 : (op == (53 : Int)) = false := by simp; omega
  clear hop
  obtain ⟨A1, n1, c1, A2, n2, c2, A3, n3, c3, A4, n4, c4, A5, n5, c5, A6, n6, c6, rfl, r1, r2, r3, r4, r5, r6, m1, m2, m3, m4, m5, m6⟩ := hc.parts
  have hl6 := r6.1
  unfold Most at m1 m2 m3 m4 m5 m6
  have HP := Lib.hid hp
  have hn := hp.most
  have hpl := hp.len
  unfold Most at hn
  by_cases h0 : a < 0
  · have d0 : decide (a < 0) = true := decide_eq_true h0
    rw [if_pos (by simp [Kd.may]; omega)]
    clear r1 r2 r3 r4 r5 r6 hc hp hpl hl6 h0
    go_enter Try.func28, Try.ntmps28
    go_wp2_with (first | ((with_reducible refine (KN.out _).mono ?_); rintro e w2 ⟨rfl, rfl⟩) | ((with_reducible refine (KC.out _).mono ?_); rintro e w2 ⟨rfl, rfl⟩) | ((with_reducible refine (KJ.out _).mono ?_); rintro e w2 ⟨rfl, rfl⟩))
    go_ret
    exact ⟨rfl, (by repeat (first | exact Below.refl _ _ | assumption | refine Below.setCell ?_ (by first | (simp; done) | (simp; omega) | omega) _ | refine below_drewN ?_ _ | refine Below.drew ?_ | refine Below.alloc ?_ (by first | (simp; done) | (simp; omega) | omega) _))⟩
  · have d0 : decide (a < 0) = false := decide_eq_false h0
    rw [if_neg (by simp [Kd.may]; omega)]
    rw [if_neg (by simp)]
    clear r1 r2 r3 r4 r5 r6 hc hp hpl hl6 h0
    go_enter Try.func28, Try.ntmps28
    go_wp2_with (first | ((with_reducible refine (KN.out _).mono ?_); rintro e w2 ⟨rfl, rfl⟩) | ((with_reducible refine (KC.out _).mono ?_); rintro e w2 ⟨rfl, rfl⟩) | ((with_reducible refine (KJ.out _).mono ?_); rintro e w2 ⟨rfl, rfl⟩))
    go_ret
    exact ⟨rfl, (by repeat (first | exact Below.refl _ _ | assumption | refine Below.setCell ?_ (by first | (simp; done) | (simp; omega) | omega) _ | refine below_drewN ?_ _ | refine Below.drew ?_ | refine Below.alloc ?_ (by first | (simp; done) | (simp; omega) | omega) _))⟩
set_option maxRecDepth 100000 in
set_option maxHeartbeats 4000000 in
theorem rwrong_25 {w : World} {p : ProgD} {c : CodeD} {cs : List Value} {A : Option Addr} {n k : Nat} (hp : ProgAt w A n k p) (hc : CodeAt w c cs) {op a : Int} (hop : 25 ≤ op ∧ op ≤ 27) :
    Calls Try.prog 28 #[.slice A n k, .agg cs.toArray, .agg #[.int .i64 op, .int .i64 a]] w (SaysR w (wrongE p c (op, a))) := by
  obtain ⟨tk, lv, he⟩ : ∃ tk lv, effOf op = some (.names, tk, lv) := by
    rcases (by omega : op = 25 ∨ op = 26 ∨ op = 27) with rfl | rfl | rfl <;> exact ⟨_, _, rfl⟩
  rw [wrongE_of he]
  clear he
  have hj : jumpsB op = false := decide_eq_false (by omega)
  rw [hj]
  clear hj
  have KN : Hid (∀ w, Calls Try.prog 56 #[.int .i64 op] w fun e w' => e = .returned (.bool true) ∧ w = w') := Lib.hid fun w => by have := named_any op w; rwa [show namedB op = true from decide_eq_true (by omega)] at this
  have KC : Hid (∀ w, Calls Try.prog 57 #[.int .i64 op] w fun e w' => e = .returned (.bool false) ∧ w = w') := Lib.hid fun w => by have := counted_any op w; rwa [show countedB op = false from decide_eq_false (by omega)] at this
  have KJ : Hid (∀ w, Calls Try.prog 58 #[.int .i64 op] w fun e w' => e = .returned (.bool false) ∧ w = w') := Lib.hid fun w => by have := rjumps_any op w; rwa [show rjumpsB op = false from decide_eq_false (by omega)] at this
  have f0 : decide (op < (1 : Int)) = false := decide_eq_false (by omega)
  have f1 : decide ((56 : Int) < op) = false := decide_eq_false (by omega)
  have f2 : (op == (1 : Int)) = false := by simp; omega
  have f3 : decide ((5 : Int) ≤ op) = true := decide_eq_true (by omega)
  have f4 : decide (op ≤ (7 : Int)) = false := decide_eq_false (by omega)
  have f5 : decide ((8 : Int) ≤ op) = true := decide_eq_true (by omega)
  have f6 : decide (op ≤ (11 : Int)) = false := decide_eq_false (by omega)
  have f7 : (op == (33 : Int)) = false := by simp; omega
  have f8 : (op == (34 : Int)) = false := by simp; omega
  have f9 : decide ((15 : Int) ≤ op) = true := decide_eq_true (by omega)
  have f10 : decide (op ≤ (17 : Int)) = false := decide_eq_false (by omega)
  have f11 : (op == (53 : Int)) = false := by simp; omega
  clear hop
  obtain ⟨A1, n1, c1, A2, n2, c2, A3, n3, c3, A4, n4, c4, A5, n5, c5, A6, n6, c6, rfl, r1, r2, r3, r4, r5, r6, m1, m2, m3, m4, m5, m6⟩ := hc.parts
  have hl6 := r6.1
  unfold Most at m1 m2 m3 m4 m5 m6
  have HP := Lib.hid hp
  have hn := hp.most
  have hpl := hp.len
  unfold Most at hn
  have hmay : Kd.may p c .names a = inB a n4 := by show decide (0 ≤ a ∧ a < (c.names.length : Int)) = _; rw [r4.1]; rfl
  rw [hmay]
  clear r1 r2 r3 r4 r5 r6 hc hp hmay hpl hl6
  cases hb : inB a n4 with
  | false =>
    have KI : Hid (∀ w, Calls Try.prog 26 #[.int .i64 a, .int .i64 n4] w fun e w' => e = .returned (.bool false) ∧ w = w') := Lib.hid fun w => by have := in_any a n4 w; rwa [hb] at this
    clear hb
    rw [if_pos rfl]
    go_enter Try.func28, Try.ntmps28
    go_wp2_with (first | ((with_reducible refine (KN.out _).mono ?_); rintro e w2 ⟨rfl, rfl⟩) | ((with_reducible refine (KC.out _).mono ?_); rintro e w2 ⟨rfl, rfl⟩) | ((with_reducible refine (KJ.out _).mono ?_); rintro e w2 ⟨rfl, rfl⟩) | ((with_reducible refine (KI.out _).mono ?_); rintro e w2 ⟨rfl, rfl⟩))
    go_ret
    exact ⟨rfl, (by repeat (first | exact Below.refl _ _ | assumption | refine Below.setCell ?_ (by first | (simp; done) | (simp; omega) | omega) _ | refine below_drewN ?_ _ | refine Below.drew ?_ | refine Below.alloc ?_ (by first | (simp; done) | (simp; omega) | omega) _))⟩
  | true =>
    have KI : Hid (∀ w, Calls Try.prog 26 #[.int .i64 a, .int .i64 n4] w fun e w' => e = .returned (.bool true) ∧ w = w') := Lib.hid fun w => by have := in_any a n4 w; rwa [hb] at this
    clear hb
    rw [if_neg (by decide), if_neg (by simp)]
    go_enter Try.func28, Try.ntmps28
    go_wp2_with (first | ((with_reducible refine (KN.out _).mono ?_); rintro e w2 ⟨rfl, rfl⟩) | ((with_reducible refine (KC.out _).mono ?_); rintro e w2 ⟨rfl, rfl⟩) | ((with_reducible refine (KJ.out _).mono ?_); rintro e w2 ⟨rfl, rfl⟩) | ((with_reducible refine (KI.out _).mono ?_); rintro e w2 ⟨rfl, rfl⟩))
    go_ret
    exact ⟨rfl, (by repeat (first | exact Below.refl _ _ | assumption | refine Below.setCell ?_ (by first | (simp; done) | (simp; omega) | omega) _ | refine below_drewN ?_ _ | refine Below.drew ?_ | refine Below.alloc ?_ (by first | (simp; done) | (simp; omega) | omega) _))⟩
set_option maxRecDepth 100000 in
set_option maxHeartbeats 4000000 in
theorem rwrong_28 {w : World} {p : ProgD} {c : CodeD} {cs : List Value} {A : Option Addr} {n k : Nat} (hp : ProgAt w A n k p) (hc : CodeAt w c cs) {op a : Int} (hop : 28 ≤ op ∧ op ≤ 31) :
    Calls Try.prog 28 #[.slice A n k, .agg cs.toArray, .agg #[.int .i64 op, .int .i64 a]] w (SaysR w (wrongE p c (op, a))) := by
  obtain ⟨tk, lv, he⟩ : ∃ tk lv, effOf op = some (.free, tk, lv) := by
    rcases (by omega : op = 28 ∨ op = 29 ∨ op = 30 ∨ op = 31) with rfl | rfl | rfl | rfl <;> exact ⟨_, _, rfl⟩
  rw [wrongE_of he]
  clear he
  have hj : jumpsB op = false := decide_eq_false (by omega)
  rw [hj]
  clear hj
  have KN : Hid (∀ w, Calls Try.prog 56 #[.int .i64 op] w fun e w' => e = .returned (.bool false) ∧ w = w') := Lib.hid fun w => by have := named_any op w; rwa [show namedB op = false from decide_eq_false (by omega)] at this
  have KC : Hid (∀ w, Calls Try.prog 57 #[.int .i64 op] w fun e w' => e = .returned (.bool false) ∧ w = w') := Lib.hid fun w => by have := counted_any op w; rwa [show countedB op = false from decide_eq_false (by omega)] at this
  have KJ : Hid (∀ w, Calls Try.prog 58 #[.int .i64 op] w fun e w' => e = .returned (.bool false) ∧ w = w') := Lib.hid fun w => by have := rjumps_any op w; rwa [show rjumpsB op = false from decide_eq_false (by omega)] at this
  have f0 : decide (op < (1 : Int)) = false := decide_eq_false (by omega)
  have f1 : decide ((56 : Int) < op) = false := decide_eq_false (by omega)
  have f2 : (op == (1 : Int)) = false := by simp; omega
  have f3 : decide ((5 : Int) ≤ op) = true := decide_eq_true (by omega)
  have f4 : decide (op ≤ (7 : Int)) = false := decide_eq_false (by omega)
  have f5 : decide ((8 : Int) ≤ op) = true := decide_eq_true (by omega)
  have f6 : decide (op ≤ (11 : Int)) = false := decide_eq_false (by omega)
  have f7 : (op == (33 : Int)) = false := by simp; omega
  have f8 : (op == (34 : Int)) = false := by simp; omega
  have f9 : decide ((15 : Int) ≤ op) = true := decide_eq_true (by omega)
  have f10 : decide (op ≤ (17 : Int)) = false := decide_eq_false (by omega)
  have f11 : (op == (53 : Int)) = false := by simp; omega
  clear hop
  obtain ⟨A1, n1, c1, A2, n2, c2, A3, n3, c3, A4, n4, c4, A5, n5, c5, A6, n6, c6, rfl, r1, r2, r3, r4, r5, r6, m1, m2, m3, m4, m5, m6⟩ := hc.parts
  have hl6 := r6.1
  unfold Most at m1 m2 m3 m4 m5 m6
  have HP := Lib.hid hp
  have hn := hp.most
  have hpl := hp.len
  unfold Most at hn
  rw [if_neg (by simp [Kd.may]), if_neg (by simp)]
  clear r1 r2 r3 r4 r5 r6 hc hp hpl hl6
  go_enter Try.func28, Try.ntmps28
  go_wp2_with (first | ((with_reducible refine (KN.out _).mono ?_); rintro e w2 ⟨rfl, rfl⟩) | ((with_reducible refine (KC.out _).mono ?_); rintro e w2 ⟨rfl, rfl⟩) | ((with_reducible refine (KJ.out _).mono ?_); rintro e w2 ⟨rfl, rfl⟩))
  go_ret
  exact ⟨rfl, (by repeat (first | exact Below.refl _ _ | assumption | refine Below.setCell ?_ (by first | (simp; done) | (simp; omega) | omega) _ | refine below_drewN ?_ _ | refine Below.drew ?_ | refine Below.alloc ?_ (by first | (simp; done) | (simp; omega) | omega) _))⟩
set_option maxRecDepth 100000 in
set_option maxHeartbeats 4000000 in
theorem rwrong_32 {w : World} {p : ProgD} {c : CodeD} {cs : List Value} {A : Option Addr} {n k : Nat} (hp : ProgAt w A n k p) (hc : CodeAt w c cs) {op a : Int} (hop : 32 ≤ op ∧ op ≤ 32) :
    Calls Try.prog 28 #[.slice A n k, .agg cs.toArray, .agg #[.int .i64 op, .int .i64 a]] w (SaysR w (wrongE p c (op, a))) := by
  obtain ⟨tk, lv, he⟩ : ∃ tk lv, effOf op = some (.count, tk, lv) := by
    rcases (by omega : op = 32) with rfl <;> exact ⟨_, _, rfl⟩
  rw [wrongE_of he]
  clear he
  have hj : jumpsB op = false := decide_eq_false (by omega)
  rw [hj]
  clear hj
  have KN : Hid (∀ w, Calls Try.prog 56 #[.int .i64 op] w fun e w' => e = .returned (.bool false) ∧ w = w') := Lib.hid fun w => by have := named_any op w; rwa [show namedB op = false from decide_eq_false (by omega)] at this
  have KC : Hid (∀ w, Calls Try.prog 57 #[.int .i64 op] w fun e w' => e = .returned (.bool true) ∧ w = w') := Lib.hid fun w => by have := counted_any op w; rwa [show countedB op = true from decide_eq_true (by omega)] at this
  have KJ : Hid (∀ w, Calls Try.prog 58 #[.int .i64 op] w fun e w' => e = .returned (.bool false) ∧ w = w') := Lib.hid fun w => by have := rjumps_any op w; rwa [show rjumpsB op = false from decide_eq_false (by omega)] at this
  obtain rfl : op = 32 := by omega
  clear hop
  obtain ⟨A1, n1, c1, A2, n2, c2, A3, n3, c3, A4, n4, c4, A5, n5, c5, A6, n6, c6, rfl, r1, r2, r3, r4, r5, r6, m1, m2, m3, m4, m5, m6⟩ := hc.parts
  have hl6 := r6.1
  unfold Most at m1 m2 m3 m4 m5 m6
  have HP := Lib.hid hp
  have hn := hp.most
  have hpl := hp.len
  unfold Most at hn
  by_cases h0 : a < 0
  · have d0 : decide (a < 0) = true := decide_eq_true h0
    rw [if_pos (by simp [Kd.may]; omega)]
    clear r1 r2 r3 r4 r5 r6 hc hp hpl hl6 h0
    go_enter Try.func28, Try.ntmps28
    go_wp2_with (first | ((with_reducible refine (KN.out _).mono ?_); rintro e w2 ⟨rfl, rfl⟩) | ((with_reducible refine (KC.out _).mono ?_); rintro e w2 ⟨rfl, rfl⟩) | ((with_reducible refine (KJ.out _).mono ?_); rintro e w2 ⟨rfl, rfl⟩))
    go_ret
    exact ⟨rfl, (by repeat (first | exact Below.refl _ _ | assumption | refine Below.setCell ?_ (by first | (simp; done) | (simp; omega) | omega) _ | refine below_drewN ?_ _ | refine Below.drew ?_ | refine Below.alloc ?_ (by first | (simp; done) | (simp; omega) | omega) _))⟩
  · have d0 : decide (a < 0) = false := decide_eq_false h0
    rw [if_neg (by simp [Kd.may]; omega)]
    rw [if_neg (by simp)]
    clear r1 r2 r3 r4 r5 r6 hc hp hpl hl6 h0
    go_enter Try.func28, Try.ntmps28
    go_wp2_with (first | ((with_reducible refine (KN.out _).mono ?_); rintro e w2 ⟨rfl, rfl⟩) | ((with_reducible refine (KC.out _).mono ?_); rintro e w2 ⟨rfl, rfl⟩) | ((with_reducible refine (KJ.out _).mono ?_); rintro e w2 ⟨rfl, rfl⟩))
    go_ret
    exact ⟨rfl, (by repeat (first | exact Below.refl _ _ | assumption | refine Below.setCell ?_ (by first | (simp; done) | (simp; omega) | omega) _ | refine below_drewN ?_ _ | refine Below.drew ?_ | refine Below.alloc ?_ (by first | (simp; done) | (simp; omega) | omega) _))⟩
set_option maxRecDepth 100000 in
set_option maxHeartbeats 4000000 in
theorem rwrong_33 {w : World} {p : ProgD} {c : CodeD} {cs : List Value} {A : Option Addr} {n k : Nat} (hp : ProgAt w A n k p) (hc : CodeAt w c cs) {op a : Int} (hop : 33 ≤ op ∧ op ≤ 33) :
    Calls Try.prog 28 #[.slice A n k, .agg cs.toArray, .agg #[.int .i64 op, .int .i64 a]] w (SaysR w (wrongE p c (op, a))) := by
  obtain ⟨tk, lv, he⟩ : ∃ tk lv, effOf op = some (.func, tk, lv) := by
    rcases (by omega : op = 33) with rfl <;> exact ⟨_, _, rfl⟩
  rw [wrongE_of he]
  clear he
  have hj : jumpsB op = false := decide_eq_false (by omega)
  rw [hj]
  clear hj
  have KN : Hid (∀ w, Calls Try.prog 56 #[.int .i64 op] w fun e w' => e = .returned (.bool false) ∧ w = w') := Lib.hid fun w => by have := named_any op w; rwa [show namedB op = false from decide_eq_false (by omega)] at this
  have KC : Hid (∀ w, Calls Try.prog 57 #[.int .i64 op] w fun e w' => e = .returned (.bool false) ∧ w = w') := Lib.hid fun w => by have := counted_any op w; rwa [show countedB op = false from decide_eq_false (by omega)] at this
  have KJ : Hid (∀ w, Calls Try.prog 58 #[.int .i64 op] w fun e w' => e = .returned (.bool false) ∧ w = w') := Lib.hid fun w => by have := rjumps_any op w; rwa [show rjumpsB op = false from decide_eq_false (by omega)] at this
  obtain rfl : op = 33 := by omega
  clear hop
  obtain ⟨A1, n1, c1, A2, n2, c2, A3, n3, c3, A4, n4, c4, A5, n5, c5, A6, n6, c6, rfl, r1, r2, r3, r4, r5, r6, m1, m2, m3, m4, m5, m6⟩ := hc.parts
  have hl6 := r6.1
  unfold Most at m1 m2 m3 m4 m5 m6
  have HP := Lib.hid hp
  have hn := hp.most
  have hpl := hp.len
  unfold Most at hn
  have hmay : Kd.may p c .func a = (codeAt p a 2).isSome := rfl
  rw [hmay]
  clear hmay
  cases hb : inB a n with
  | false =>
    have KI : Hid (∀ w, Calls Try.prog 26 #[.int .i64 a, .int .i64 n] w fun e w' => e = .returned (.bool false) ∧ w = w') := Lib.hid fun w => by have := in_any a n w; rwa [hb] at this
    rw [codeAt_out (by rw [hpl]; simpa [inB] using hb)]
    clear r1 r2 r3 r4 r5 r6 hc hp hpl hl6 hb
    rw [if_pos (show (none : Option CodeD).isSome = false from rfl)]
    go_enter Try.func28, Try.ntmps28
    go_wp2_with (first | ((with_reducible refine (KN.out _).mono ?_); rintro e w2 ⟨rfl, rfl⟩) | ((with_reducible refine (KC.out _).mono ?_); rintro e w2 ⟨rfl, rfl⟩) | ((with_reducible refine (KJ.out _).mono ?_); rintro e w2 ⟨rfl, rfl⟩) | ((with_reducible refine (KI.out _).mono ?_); rintro e w2 ⟨rfl, rfl⟩))
    go_ret
    exact ⟨rfl, (by repeat (first | exact Below.refl _ _ | assumption | refine Below.setCell ?_ (by first | (simp; done) | (simp; omega) | omega) _ | refine below_drewN ?_ _ | refine Below.drew ?_ | refine Below.alloc ?_ (by first | (simp; done) | (simp; omega) | omega) _))⟩
  | true =>
    have KI : Hid (∀ w, Calls Try.prog 26 #[.int .i64 a, .int .i64 n] w fun e w' => e = .returned (.bool true) ∧ w = w') := Lib.hid fun w => by have := in_any a n w; rwa [hb] at this
    have hb2 : 0 ≤ a ∧ a < n := of_decide_eq_true hb
    obtain ⟨i, rfl⟩ := Int.eq_ofNat_of_zero_le hb2.1
    have hin : i < n := by omega
    obtain ⟨x, hx⟩ : ∃ x, p[i]? = some x := ⟨_, List.getElem?_eq_getElem (by omega)⟩
    obtain ⟨b, o, ds, rfl, hbl, hca, hce⟩ := hp.at_ hx
    obtain ⟨B1, m1, d1, B2, m2, d2, B3, m3, d3, B4, m4, d4, B5, m5, d5, B6, m6, d6, rfl, -⟩ := hca.parts
    have e1 : w.cell? ⟨b, o + i * 11 + 1, none⟩ = some (.int .i64 x.kind) := hce 1 _ rfl
    have e3 : w.cell? ⟨b, o + i * 11 + 3, none⟩ = some (.int .i64 x.defaults) := hce 3 _ rfl
    rw [codeAt_at hx 2]
    obtain ⟨nm, xk, pa, xd, ge, lo, ce, fr, na, co, is⟩ := x
    simp only at e1 e3 ⊢
    clear r1 r2 r3 r4 r5 r6 hc hp hpl hl6 hb hb2 hca hce hx HP
    by_cases hk : xk = 2
    · subst hk
      by_cases hd : xd < 0
      · have d0 : decide (xd < 0) = true := decide_eq_true hd
        rw [if_pos (by simp [hd])]
        clear hd
        go_enter Try.func28, Try.ntmps28
        go_wp2_with (first | ((with_reducible refine (KN.out _).mono ?_); rintro e w2 ⟨rfl, rfl⟩) | ((with_reducible refine (KC.out _).mono ?_); rintro e w2 ⟨rfl, rfl⟩) | ((with_reducible refine (KJ.out _).mono ?_); rintro e w2 ⟨rfl, rfl⟩) | ((with_reducible refine (KI.out _).mono ?_); rintro e w2 ⟨rfl, rfl⟩))
        go_ret
        exact ⟨rfl, (by repeat (first | exact Below.refl _ _ | assumption | refine Below.setCell ?_ (by first | (simp; done) | (simp; omega) | omega) _ | refine below_drewN ?_ _ | refine Below.drew ?_ | refine Below.alloc ?_ (by first | (simp; done) | (simp; omega) | omega) _))⟩
      · have d0 : decide (xd < 0) = false := decide_eq_false hd
        rw [if_neg (by simp [hd]), if_neg (by simp)]
        clear hd
        go_enter Try.func28, Try.ntmps28
        go_wp2_with (first | ((with_reducible refine (KN.out _).mono ?_); rintro e w2 ⟨rfl, rfl⟩) | ((with_reducible refine (KC.out _).mono ?_); rintro e w2 ⟨rfl, rfl⟩) | ((with_reducible refine (KJ.out _).mono ?_); rintro e w2 ⟨rfl, rfl⟩) | ((with_reducible refine (KI.out _).mono ?_); rintro e w2 ⟨rfl, rfl⟩))
        go_ret
        exact ⟨rfl, (by repeat (first | exact Below.refl _ _ | assumption | refine Below.setCell ?_ (by first | (simp; done) | (simp; omega) | omega) _ | refine below_drewN ?_ _ | refine Below.drew ?_ | refine Below.alloc ?_ (by first | (simp; done) | (simp; omega) | omega) _))⟩
    · have hk1 : (xk == 2) = false := by simpa using hk
      have hk2 : (xk != 2) = true := by simpa using hk
      rw [if_pos (by simp [hk])]
      clear hk
      go_enter Try.func28, Try.ntmps28
      go_wp2_with (first | ((with_reducible refine (KN.out _).mono ?_); rintro e w2 ⟨rfl, rfl⟩) | ((with_reducible refine (KC.out _).mono ?_); rintro e w2 ⟨rfl, rfl⟩) | ((with_reducible refine (KJ.out _).mono ?_); rintro e w2 ⟨rfl, rfl⟩) | ((with_reducible refine (KI.out _).mono ?_); rintro e w2 ⟨rfl, rfl⟩))
      go_ret
      exact ⟨rfl, (by repeat (first | exact Below.refl _ _ | assumption | refine Below.setCell ?_ (by first | (simp; done) | (simp; omega) | omega) _ | refine below_drewN ?_ _ | refine Below.drew ?_ | refine Below.alloc ?_ (by first | (simp; done) | (simp; omega) | omega) _))⟩
set_option maxRecDepth 100000 in
set_option maxHeartbeats 4000000 in
theorem rwrong_34 {w : World} {p : ProgD} {c : CodeD} {cs : List Value} {A : Option Addr} {n k : Nat} (hp : ProgAt w A n k p) (hc : CodeAt w c cs) {op a : Int} (hop : 34 ≤ op ∧ op ≤ 34) :
    Calls Try.prog 28 #[.slice A n k, .agg cs.toArray, .agg #[.int .i64 op, .int .i64 a]] w (SaysR w (wrongE p c (op, a))) := by
  obtain ⟨tk, lv, he⟩ : ∃ tk lv, effOf op = some (.body, tk, lv) := by
    rcases (by omega : op = 34) with rfl <;> exact ⟨_, _, rfl⟩
  rw [wrongE_of he]
  clear he
  have hj : jumpsB op = false := decide_eq_false (by omega)
  rw [hj]
  clear hj
  have KN : Hid (∀ w, Calls Try.prog 56 #[.int .i64 op] w fun e w' => e = .returned (.bool false) ∧ w = w') := Lib.hid fun w => by have := named_any op w; rwa [show namedB op = false from decide_eq_false (by omega)] at this
  have KC : Hid (∀ w, Calls Try.prog 57 #[.int .i64 op] w fun e w' => e = .returned (.bool false) ∧ w = w') := Lib.hid fun w => by have := counted_any op w; rwa [show countedB op = false from decide_eq_false (by omega)] at this
  have KJ : Hid (∀ w, Calls Try.prog 58 #[.int .i64 op] w fun e w' => e = .returned (.bool false) ∧ w = w') := Lib.hid fun w => by have := rjumps_any op w; rwa [show rjumpsB op = false from decide_eq_false (by omega)] at this
  obtain rfl : op = 34 := by omega
  clear hop
  obtain ⟨A1, n1, c1, A2, n2, c2, A3, n3, c3, A4, n4, c4, A5, n5, c5, A6, n6, c6, rfl, r1, r2, r3, r4, r5, r6, m1, m2, m3, m4, m5, m6⟩ := hc.parts
  have hl6 := r6.1
  unfold Most at m1 m2 m3 m4 m5 m6
  have HP := Lib.hid hp
  have hn := hp.most
  have hpl := hp.len
  unfold Most at hn
  have hmay : Kd.may p c .body a = (codeAt p a 3).isSome := rfl
  rw [hmay]
  clear hmay
  cases hb : inB a n with
  | false =>
    have KI : Hid (∀ w, Calls Try.prog 26 #[.int .i64 a, .int .i64 n] w fun e w' => e = .returned (.bool false) ∧ w = w') := Lib.hid fun w => by have := in_any a n w; rwa [hb] at this
    rw [codeAt_out (by rw [hpl]; simpa [inB] using hb)]
    clear r1 r2 r3 r4 r5 r6 hc hp hpl hl6 hb
    rw [if_pos (show (none : Option CodeD).isSome = false from rfl)]
    go_enter Try.func28, Try.ntmps28
    go_wp2_with (first | ((with_reducible refine (KN.out _).mono ?_); rintro e w2 ⟨rfl, rfl⟩) | ((with_reducible refine (KC.out _).mono ?_); rintro e w2 ⟨rfl, rfl⟩) | ((with_reducible refine (KJ.out _).mono ?_); rintro e w2 ⟨rfl, rfl⟩) | ((with_reducible refine (KI.out _).mono ?_); rintro e w2 ⟨rfl, rfl⟩))
    go_ret
    exact ⟨rfl, (by repeat (first | exact Below.refl _ _ | assumption | refine Below.setCell ?_ (by first | (simp; done) | (simp; omega) | omega) _ | refine below_drewN ?_ _ | refine Below.drew ?_ | refine Below.alloc ?_ (by first | (simp; done) | (simp; omega) | omega) _))⟩
  | true =>
    have KI : Hid (∀ w, Calls Try.prog 26 #[.int .i64 a, .int .i64 n] w fun e w' => e = .returned (.bool true) ∧ w = w') := Lib.hid fun w => by have := in_any a n w; rwa [hb] at this
    have hb2 : 0 ≤ a ∧ a < n := of_decide_eq_true hb
    obtain ⟨i, rfl⟩ := Int.eq_ofNat_of_zero_le hb2.1
    have hin : i < n := by omega
    obtain ⟨x, hx⟩ : ∃ x, p[i]? = some x := ⟨_, List.getElem?_eq_getElem (by omega)⟩
    obtain ⟨b, o, ds, rfl, hbl, hca, hce⟩ := hp.at_ hx
    obtain ⟨B1, m1, d1, B2, m2, d2, B3, m3, d3, B4, m4, d4, B5, m5, d5, B6, m6, d6, rfl, -⟩ := hca.parts
    have e1 : w.cell? ⟨b, o + i * 11 + 1, none⟩ = some (.int .i64 x.kind) := hce 1 _ rfl
    have e3 : w.cell? ⟨b, o + i * 11 + 3, none⟩ = some (.int .i64 x.defaults) := hce 3 _ rfl
    rw [codeAt_at hx 3]
    obtain ⟨nm, xk, pa, xd, ge, lo, ce, fr, na, co, is⟩ := x
    simp only at e1 e3 ⊢
    clear r1 r2 r3 r4 r5 r6 hc hp hpl hl6 hb hb2 hca hce hx HP
    by_cases hk : xk = 3
    · subst hk
      rw [if_neg (by simp), if_neg (by simp)]
      go_enter Try.func28, Try.ntmps28
      go_wp2_with (first | ((with_reducible refine (KN.out _).mono ?_); rintro e w2 ⟨rfl, rfl⟩) | ((with_reducible refine (KC.out _).mono ?_); rintro e w2 ⟨rfl, rfl⟩) | ((with_reducible refine (KJ.out _).mono ?_); rintro e w2 ⟨rfl, rfl⟩) | ((with_reducible refine (KI.out _).mono ?_); rintro e w2 ⟨rfl, rfl⟩))
      go_ret
      exact ⟨rfl, (by repeat (first | exact Below.refl _ _ | assumption | refine Below.setCell ?_ (by first | (simp; done) | (simp; omega) | omega) _ | refine below_drewN ?_ _ | refine Below.drew ?_ | refine Below.alloc ?_ (by first | (simp; done) | (simp; omega) | omega) _))⟩
    · have hk1 : (xk == 3) = false := by simpa using hk
      have hk2 : (xk != 3) = true := by simpa using hk
      rw [if_pos (by simp [hk])]
      clear hk
      go_enter Try.func28, Try.ntmps28
      go_wp2_with (first | ((with_reducible refine (KN.out _).mono ?_); rintro e w2 ⟨rfl, rfl⟩) | ((with_reducible refine (KC.out _).mono ?_); rintro e w2 ⟨rfl, rfl⟩) | ((with_reducible refine (KJ.out _).mono ?_); rintro e w2 ⟨rfl, rfl⟩) | ((with_reducible refine (KI.out _).mono ?_); rintro e w2 ⟨rfl, rfl⟩))
      go_ret
      exact ⟨rfl, (by repeat (first | exact Below.refl _ _ | assumption | refine Below.setCell ?_ (by first | (simp; done) | (simp; omega) | omega) _ | refine below_drewN ?_ _ | refine Below.drew ?_ | refine Below.alloc ?_ (by first | (simp; done) | (simp; omega) | omega) _))⟩
set_option maxRecDepth 100000 in
set_option maxHeartbeats 4000000 in
theorem rwrong_35 {w : World} {p : ProgD} {c : CodeD} {cs : List Value} {A : Option Addr} {n k : Nat} (hp : ProgAt w A n k p) (hc : CodeAt w c cs) {op a : Int} (hop : 35 ≤ op ∧ op ≤ 35) :
    Calls Try.prog 28 #[.slice A n k, .agg cs.toArray, .agg #[.int .i64 op, .int .i64 a]] w (SaysR w (wrongE p c (op, a))) := by
  obtain ⟨tk, lv, he⟩ : ∃ tk lv, effOf op = some (.names, tk, lv) := by
    rcases (by omega : op = 35) with rfl <;> exact ⟨_, _, rfl⟩
  rw [wrongE_of he]
  clear he
  have hj : jumpsB op = false := decide_eq_false (by omega)
  rw [hj]
  clear hj
  have KN : Hid (∀ w, Calls Try.prog 56 #[.int .i64 op] w fun e w' => e = .returned (.bool true) ∧ w = w') := Lib.hid fun w => by have := named_any op w; rwa [show namedB op = true from decide_eq_true (by omega)] at this
  have KC : Hid (∀ w, Calls Try.prog 57 #[.int .i64 op] w fun e w' => e = .returned (.bool false) ∧ w = w') := Lib.hid fun w => by have := counted_any op w; rwa [show countedB op = false from decide_eq_false (by omega)] at this
  have KJ : Hid (∀ w, Calls Try.prog 58 #[.int .i64 op] w fun e w' => e = .returned (.bool false) ∧ w = w') := Lib.hid fun w => by have := rjumps_any op w; rwa [show rjumpsB op = false from decide_eq_false (by omega)] at this
  obtain rfl : op = 35 := by omega
  clear hop
  obtain ⟨A1, n1, c1, A2, n2, c2, A3, n3, c3, A4, n4, c4, A5, n5, c5, A6, n6, c6, rfl, r1, r2, r3, r4, r5, r6, m1, m2, m3, m4, m5, m6⟩ := hc.parts
  have hl6 := r6.1
  unfold Most at m1 m2 m3 m4 m5 m6
  have HP := Lib.hid hp
  have hn := hp.most
  have hpl := hp.len
  unfold Most at hn
  have hmay : Kd.may p c .names a = inB a n4 := by show decide (0 ≤ a ∧ a < (c.names.length : Int)) = _; rw [r4.1]; rfl
  rw [hmay]
  clear r1 r2 r3 r4 r5 r6 hc hp hmay hpl hl6
  cases hb : inB a n4 with
  | false =>
    have KI : Hid (∀ w, Calls Try.prog 26 #[.int .i64 a, .int .i64 n4] w fun e w' => e = .returned (.bool false) ∧ w = w') := Lib.hid fun w => by have := in_any a n4 w; rwa [hb] at this
    clear hb
    rw [if_pos rfl]
    go_enter Try.func28, Try.ntmps28
    go_wp2_with (first | ((with_reducible refine (KN.out _).mono ?_); rintro e w2 ⟨rfl, rfl⟩) | ((with_reducible refine (KC.out _).mono ?_); rintro e w2 ⟨rfl, rfl⟩) | ((with_reducible refine (KJ.out _).mono ?_); rintro e w2 ⟨rfl, rfl⟩) | ((with_reducible refine (KI.out _).mono ?_); rintro e w2 ⟨rfl, rfl⟩))
    go_ret
    exact ⟨rfl, (by repeat (first | exact Below.refl _ _ | assumption | refine Below.setCell ?_ (by first | (simp; done) | (simp; omega) | omega) _ | refine below_drewN ?_ _ | refine Below.drew ?_ | refine Below.alloc ?_ (by first | (simp; done) | (simp; omega) | omega) _))⟩
  | true =>
    have KI : Hid (∀ w, Calls Try.prog 26 #[.int .i64 a, .int .i64 n4] w fun e w' => e = .returned (.bool true) ∧ w = w') := Lib.hid fun w => by have := in_any a n4 w; rwa [hb] at this
    clear hb
    rw [if_neg (by decide), if_neg (by simp)]
    go_enter Try.func28, Try.ntmps28
    go_wp2_with (first | ((with_reducible refine (KN.out _).mono ?_); rintro e w2 ⟨rfl, rfl⟩) | ((with_reducible refine (KC.out _).mono ?_); rintro e w2 ⟨rfl, rfl⟩) | ((with_reducible refine (KJ.out _).mono ?_); rintro e w2 ⟨rfl, rfl⟩) | ((with_reducible refine (KI.out _).mono ?_); rintro e w2 ⟨rfl, rfl⟩))
    go_ret
    exact ⟨rfl, (by repeat (first | exact Below.refl _ _ | assumption | refine Below.setCell ?_ (by first | (simp; done) | (simp; omega) | omega) _ | refine below_drewN ?_ _ | refine Below.drew ?_ | refine Below.alloc ?_ (by first | (simp; done) | (simp; omega) | omega) _))⟩
set_option maxRecDepth 100000 in
set_option maxHeartbeats 4000000 in
theorem rwrong_36 {w : World} {p : ProgD} {c : CodeD} {cs : List Value} {A : Option Addr} {n k : Nat} (hp : ProgAt w A n k p) (hc : CodeAt w c cs) {op a : Int} (hop : 36 ≤ op ∧ op ≤ 40) :
    Calls Try.prog 28 #[.slice A n k, .agg cs.toArray, .agg #[.int .i64 op, .int .i64 a]] w (SaysR w (wrongE p c (op, a))) := by
  obtain ⟨tk, lv, he⟩ : ∃ tk lv, effOf op = some (.count, tk, lv) := by
    rcases (by omega : op = 36 ∨ op = 37 ∨ op = 38 ∨ op = 39 ∨ op = 40) with rfl | rfl | rfl | rfl | rfl <;> exact ⟨_, _, rfl⟩
  rw [wrongE_of he]
  clear he
  have hj : jumpsB op = true := decide_eq_true (by omega)
  rw [hj]
  clear hj
  have KN : Hid (∀ w, Calls Try.prog 56 #[.int .i64 op] w fun e w' => e = .returned (.bool false) ∧ w = w') := Lib.hid fun w => by have := named_any op w; rwa [show namedB op = false from decide_eq_false (by omega)] at this
  have KC : Hid (∀ w, Calls Try.prog 57 #[.int .i64 op] w fun e w' => e = .returned (.bool false) ∧ w = w') := Lib.hid fun w => by have := counted_any op w; rwa [show countedB op = false from decide_eq_false (by omega)] at this
  have KJ : Hid (∀ w, Calls Try.prog 58 #[.int .i64 op] w fun e w' => e = .returned (.bool true) ∧ w = w') := Lib.hid fun w => by have := rjumps_any op w; rwa [show rjumpsB op = true from decide_eq_true (by omega)] at this
  have f0 : decide (op < (1 : Int)) = false := decide_eq_false (by omega)
  have f1 : decide ((56 : Int) < op) = false := decide_eq_false (by omega)
  have f2 : (op == (1 : Int)) = false := by simp; omega
  have f3 : decide ((5 : Int) ≤ op) = true := decide_eq_true (by omega)
  have f4 : decide (op ≤ (7 : Int)) = false := decide_eq_false (by omega)
  have f5 : decide ((8 : Int) ≤ op) = true := decide_eq_true (by omega)
  have f6 : decide (op ≤ (11 : Int)) = false := decide_eq_false (by omega)
  have f7 : (op == (33 : Int)) = false := by simp; omega
  have f8 : (op == (34 : Int)) = false := by simp; omega
  have f9 : decide ((15 : Int) ≤ op) = true := decide_eq_true (by omega)
  have f10 : decide (op ≤ (17 : Int)) = false := decide_eq_false (by omega)
  have f11 : (op == (53 : Int)) = false := by simp; omega
  clear hop
  obtain ⟨A1, n1, c1, A2, n2, c2, A3, n3, c3, A4, n4, c4, A5, n5, c5, A6, n6, c6, rfl, r1, r2, r3, r4, r5, r6, m1, m2, m3, m4, m5, m6⟩ := hc.parts
  have hl6 := r6.1
  unfold Most at m1 m2 m3 m4 m5 m6
  have HP := Lib.hid hp
  have hn := hp.most
  have hpl := hp.len
  unfold Most at hn
  by_cases h0 : a < 0
  · have d0 : decide (a < 0) = true := decide_eq_true h0
    rw [if_pos (by simp [Kd.may]; omega)]
    clear r1 r2 r3 r4 r5 r6 hc hp hpl hl6 h0
    go_enter Try.func28, Try.ntmps28
    go_wp2_with (first | ((with_reducible refine (KN.out _).mono ?_); rintro e w2 ⟨rfl, rfl⟩) | ((with_reducible refine (KC.out _).mono ?_); rintro e w2 ⟨rfl, rfl⟩) | ((with_reducible refine (KJ.out _).mono ?_); rintro e w2 ⟨rfl, rfl⟩))
    go_ret
    exact ⟨rfl, (by repeat (first | exact Below.refl _ _ | assumption | refine Below.setCell ?_ (by first | (simp; done) | (simp; omega) | omega) _ | refine below_drewN ?_ _ | refine Below.drew ?_ | refine Below.alloc ?_ (by first | (simp; done) | (simp; omega) | omega) _))⟩
  · have d0 : decide (a < 0) = false := decide_eq_false h0
    rw [if_neg (by simp [Kd.may]; omega)]
    rw [hl6]
    by_cases h1 : (n6 : Int) ≤ a
    · have d1 : decide ((n6 : Int) ≤ a) = true := decide_eq_true h1
      rw [if_pos ⟨rfl, h1⟩]
      clear r1 r2 r3 r4 r5 r6 hc hp hpl hl6 h0 h1
      go_enter Try.func28, Try.ntmps28
      go_wp2_with (first | ((with_reducible refine (KN.out _).mono ?_); rintro e w2 ⟨rfl, rfl⟩) | ((with_reducible refine (KC.out _).mono ?_); rintro e w2 ⟨rfl, rfl⟩) | ((with_reducible refine (KJ.out _).mono ?_); rintro e w2 ⟨rfl, rfl⟩))
      go_ret
      exact ⟨rfl, (by repeat (first | exact Below.refl _ _ | assumption | refine Below.setCell ?_ (by first | (simp; done) | (simp; omega) | omega) _ | refine below_drewN ?_ _ | refine Below.drew ?_ | refine Below.alloc ?_ (by first | (simp; done) | (simp; omega) | omega) _))⟩
    · have d1 : decide ((n6 : Int) ≤ a) = false := decide_eq_false h1
      rw [if_neg (fun h => h1 h.2)]
      clear r1 r2 r3 r4 r5 r6 hc hp hpl hl6 h0 h1
      go_enter Try.func28, Try.ntmps28
      go_wp2_with (first | ((with_reducible refine (KN.out _).mono ?_); rintro e w2 ⟨rfl, rfl⟩) | ((with_reducible refine (KC.out _).mono ?_); rintro e w2 ⟨rfl, rfl⟩) | ((with_reducible refine (KJ.out _).mono ?_); rintro e w2 ⟨rfl, rfl⟩))
      go_ret
      exact ⟨rfl, (by repeat (first | exact Below.refl _ _ | assumption | refine Below.setCell ?_ (by first | (simp; done) | (simp; omega) | omega) _ | refine below_drewN ?_ _ | refine Below.drew ?_ | refine Below.alloc ?_ (by first | (simp; done) | (simp; omega) | omega) _))⟩

set_option maxRecDepth 100000 in
set_option maxHeartbeats 4000000 in
theorem rwrong_41 {w : World} {p : ProgD} {c : CodeD} {cs : List Value} {A : Option Addr} {n k : Nat} (hp : ProgAt w A n k p) (hc : CodeAt w c cs) {op a : Int} (hop : 41 ≤ op ∧ op ≤ 41) :
    Calls Try.prog 28 #[.slice A n k, .agg cs.toArray, .agg #[.int .i64 op, .int .i64 a]] w (SaysR w (wrongE p c (op, a))) := by
  obtain ⟨tk, lv, he⟩ : ∃ tk lv, effOf op = some (.free, tk, lv) := by
    rcases (by omega : op = 41) with rfl <;> exact ⟨_, _, rfl⟩
  rw [wrongE_of he]
  clear he
  have hj : jumpsB op = false := decide_eq_false (by omega)
  rw [hj]
  clear hj
  have KN : Hid (∀ w, Calls Try.prog 56 #[.int .i64 op] w fun e w' => e = .returned (.bool false) ∧ w = w') := Lib.hid fun w => by have := named_any op w; rwa [show namedB op = false from decide_eq_false (by omega)] at this
  have KC : Hid (∀ w, Calls Try.prog 57 #[.int .i64 op] w fun e w' => e = .returned (.bool false) ∧ w = w') := Lib.hid fun w => by have := counted_any op w; rwa [show countedB op = false from decide_eq_false (by omega)] at this
  have KJ : Hid (∀ w, Calls Try.prog 58 #[.int .i64 op] w fun e w' => e = .returned (.bool false) ∧ w = w') := Lib.hid fun w => by have := rjumps_any op w; rwa [show rjumpsB op = false from decide_eq_false (by omega)] at this
  obtain rfl : op = 41 := by omega
  clear hop
  obtain ⟨A1, n1, c1, A2, n2, c2, A3, n3, c3, A4, n4, c4, A5, n5, c5, A6, n6, c6, rfl, r1, r2, r3, r4, r5, r6, m1, m2, m3, m4, m5, m6⟩ := hc.parts
  have hl6 := r6.1
  unfold Most at m1 m2 m3 m4 m5 m6
  have HP := Lib.hid hp
  have hn := hp.most
  have hpl := hp.len
  unfold Most at hn
  rw [if_neg (by simp [Kd.may]), if_neg (by simp)]
  clear r1 r2 r3 r4 r5 r6 hc hp hpl hl6
  go_enter Try.func28, Try.ntmps28
  go_wp2_with (first | ((with_reducible refine (KN.out _).mono ?_); rintro e w2 ⟨rfl, rfl⟩) | ((with_reducible refine (KC.out _).mono ?_); rintro e w2 ⟨rfl, rfl⟩) | ((with_reducible refine (KJ.out _).mono ?_); rintro e w2 ⟨rfl, rfl⟩))
  go_ret
  exact ⟨rfl, (by repeat (first | exact Below.refl _ _ | assumption | refine Below.setCell ?_ (by first | (simp; done) | (simp; omega) | omega) _ | refine below_drewN ?_ _ | refine Below.drew ?_ | refine Below.alloc ?_ (by first | (simp; done) | (simp; omega) | omega) _))⟩
set_option maxRecDepth 100000 in
set_option maxHeartbeats 4000000 in
theorem rwrong_42 {w : World} {p : ProgD} {c : CodeD} {cs : List Value} {A : Option Addr} {n k : Nat} (hp : ProgAt w A n k p) (hc : CodeAt w c cs) {op a : Int} (hop : 42 ≤ op ∧ op ≤ 42) :
    Calls Try.prog 28 #[.slice A n k, .agg cs.toArray, .agg #[.int .i64 op, .int .i64 a]] w (SaysR w (wrongE p c (op, a))) := by
  obtain ⟨tk, lv, he⟩ : ∃ tk lv, effOf op = some (.count, tk, lv) := by
    rcases (by omega : op = 42) with rfl <;> exact ⟨_, _, rfl⟩
  rw [wrongE_of he]
  clear he
  have hj : jumpsB op = true := decide_eq_true (by omega)
  rw [hj]
  clear hj
  have KN : Hid (∀ w, Calls Try.prog 56 #[.int .i64 op] w fun e w' => e = .returned (.bool false) ∧ w = w') := Lib.hid fun w => by have := named_any op w; rwa [show namedB op = false from decide_eq_false (by omega)] at this
  have KC : Hid (∀ w, Calls Try.prog 57 #[.int .i64 op] w fun e w' => e = .returned (.bool false) ∧ w = w') := Lib.hid fun w => by have := counted_any op w; rwa [show countedB op = false from decide_eq_false (by omega)] at this
  have KJ : Hid (∀ w, Calls Try.prog 58 #[.int .i64 op] w fun e w' => e = .returned (.bool true) ∧ w = w') := Lib.hid fun w => by have := rjumps_any op w; rwa [show rjumpsB op = true from decide_eq_true (by omega)] at this
  obtain rfl : op = 42 := by omega
  clear hop
  obtain ⟨A1, n1, c1, A2, n2, c2, A3, n3, c3, A4, n4, c4, A5, n5, c5, A6, n6, c6, rfl, r1, r2, r3, r4, r5, r6, m1, m2, m3, m4, m5, m6⟩ := hc.parts
  have hl6 := r6.1
  unfold Most at m1 m2 m3 m4 m5 m6
  have HP := Lib.hid hp
  have hn := hp.most
  have hpl := hp.len
  unfold Most at hn
  by_cases h0 : a < 0
  · have d0 : decide (a < 0) = true := decide_eq_true h0
    rw [if_pos (by simp [Kd.may]; omega)]
    clear r1 r2 r3 r4 r5 r6 hc hp hpl hl6 h0
    go_enter Try.func28, Try.ntmps28
    go_wp2_with (first | ((with_reducible refine (KN.out _).mono ?_); rintro e w2 ⟨rfl, rfl⟩) | ((with_reducible refine (KC.out _).mono ?_); rintro e w2 ⟨rfl, rfl⟩) | ((with_reducible refine (KJ.out _).mono ?_); rintro e w2 ⟨rfl, rfl⟩))
    go_ret
    exact ⟨rfl, (by repeat (first | exact Below.refl _ _ | assumption | refine Below.setCell ?_ (by first | (simp; done) | (simp; omega) | omega) _ | refine below_drewN ?_ _ | refine Below.drew ?_ | refine Below.alloc ?_ (by first | (simp; done) | (simp; omega) | omega) _))⟩
  · have d0 : decide (a < 0) = false := decide_eq_false h0
    rw [if_neg (by simp [Kd.may]; omega)]
    rw [hl6]
    by_cases h1 : (n6 : Int) ≤ a
    · have d1 : decide ((n6 : Int) ≤ a) = true := decide_eq_true h1
      rw [if_pos ⟨rfl, h1⟩]
      clear r1 r2 r3 r4 r5 r6 hc hp hpl hl6 h0 h1
      go_enter Try.func28, Try.ntmps28
      go_wp2_with (first | ((with_reducible refine (KN.out _).mono ?_); rintro e w2 ⟨rfl, rfl⟩) | ((with_reducible refine (KC.out _).mono ?_); rintro e w2 ⟨rfl, rfl⟩) | ((with_reducible refine (KJ.out _).mono ?_); rintro e w2 ⟨rfl, rfl⟩))
      go_ret
      exact ⟨rfl, (by repeat (first | exact Below.refl _ _ | assumption | refine Below.setCell ?_ (by first | (simp; done) | (simp; omega) | omega) _ | refine below_drewN ?_ _ | refine Below.drew ?_ | refine Below.alloc ?_ (by first | (simp; done) | (simp; omega) | omega) _))⟩
    · have d1 : decide ((n6 : Int) ≤ a) = false := decide_eq_false h1
      rw [if_neg (fun h => h1 h.2)]
      clear r1 r2 r3 r4 r5 r6 hc hp hpl hl6 h0 h1
      go_enter Try.func28, Try.ntmps28
      go_wp2_with (first | ((with_reducible refine (KN.out _).mono ?_); rintro e w2 ⟨rfl, rfl⟩) | ((with_reducible refine (KC.out _).mono ?_); rintro e w2 ⟨rfl, rfl⟩) | ((with_reducible refine (KJ.out _).mono ?_); rintro e w2 ⟨rfl, rfl⟩))
      go_ret
      exact ⟨rfl, (by repeat (first | exact Below.refl _ _ | assumption | refine Below.setCell ?_ (by first | (simp; done) | (simp; omega) | omega) _ | refine below_drewN ?_ _ | refine Below.drew ?_ | refine Below.alloc ?_ (by first | (simp; done) | (simp; omega) | omega) _))⟩
set_option maxRecDepth 100000 in
set_option maxHeartbeats 4000000 in
theorem rwrong_43 {w : World} {p : ProgD} {c : CodeD} {cs : List Value} {A : Option Addr} {n k : Nat} (hp : ProgAt w A n k p) (hc : CodeAt w c cs) {op a : Int} (hop : 43 ≤ op ∧ op ≤ 45) :
    Calls Try.prog 28 #[.slice A n k, .agg cs.toArray, .agg #[.int .i64 op, .int .i64 a]] w (SaysR w (wrongE p c (op, a))) := by
  obtain ⟨tk, lv, he⟩ : ∃ tk lv, effOf op = some (.count, tk, lv) := by
    rcases (by omega : op = 43 ∨ op = 44 ∨ op = 45) with rfl | rfl | rfl <;> exact ⟨_, _, rfl⟩
  rw [wrongE_of he]
  clear he
  have hj : jumpsB op = false := decide_eq_false (by omega)
  rw [hj]
  clear hj
  have KN : Hid (∀ w, Calls Try.prog 56 #[.int .i64 op] w fun e w' => e = .returned (.bool false) ∧ w = w') := Lib.hid fun w => by have := named_any op w; rwa [show namedB op = false from decide_eq_false (by omega)] at this
  have KC : Hid (∀ w, Calls Try.prog 57 #[.int .i64 op] w fun e w' => e = .returned (.bool true) ∧ w = w') := Lib.hid fun w => by have := counted_any op w; rwa [show countedB op = true from decide_eq_true (by omega)] at this
  have KJ : Hid (∀ w, Calls Try.prog 58 #[.int .i64 op] w fun e w' => e = .returned (.bool false) ∧ w = w') := Lib.hid fun w => by have := rjumps_any op w; rwa [show rjumpsB op = false from decide_eq_false (by omega)] at this
  have f0 : decide (op < (1 : Int)) = false := decide_eq_false (by omega)
  have f1 : decide ((56 : Int) < op) = false := decide_eq_false (by omega)
  have f2 : (op == (1 : Int)) = false := by simp; omega
  have f3 : decide ((5 : Int) ≤ op) = true := decide_eq_true (by omega)
  have f4 : decide (op ≤ (7 : Int)) = false := decide_eq_false (by omega)
  have f5 : decide ((8 : Int) ≤ op) = true := decide_eq_true (by omega)
  have f6 : decide (op ≤ (11 : Int)) = false := decide_eq_false (by omega)
  have f7 : (op == (33 : Int)) = false := by simp; omega
  have f8 : (op == (34 : Int)) = false := by simp; omega
  have f9 : decide ((15 : Int) ≤ op) = true := decide_eq_true (by omega)
  have f10 : decide (op ≤ (17 : Int)) = false := decide_eq_false (by omega)
  have f11 : (op == (53 : Int)) = false := by simp; omega
  clear hop
  obtain ⟨A1, n1, c1, A2, n2, c2, A3, n3, c3, A4, n4, c4, A5, n5, c5, A6, n6, c6, rfl, r1, r2, r3, r4, r5, r6, m1, m2, m3, m4, m5, m6⟩ := hc.parts
  have hl6 := r6.1
  unfold Most at m1 m2 m3 m4 m5 m6
  have HP := Lib.hid hp
  have hn := hp.most
  have hpl := hp.len
  unfold Most at hn
  by_cases h0 : a < 0
  · have d0 : decide (a < 0) = true := decide_eq_true h0
    rw [if_pos (by simp [Kd.may]; omega)]
    clear r1 r2 r3 r4 r5 r6 hc hp hpl hl6 h0
    go_enter Try.func28, Try.ntmps28
    go_wp2_with (first | ((with_reducible refine (KN.out _).mono ?_); rintro e w2 ⟨rfl, rfl⟩) | ((with_reducible refine (KC.out _).mono ?_); rintro e w2 ⟨rfl, rfl⟩) | ((with_reducible refine (KJ.out _).mono ?_); rintro e w2 ⟨rfl, rfl⟩))
    go_ret
    exact ⟨rfl, (by repeat (first | exact Below.refl _ _ | assumption | refine Below.setCell ?_ (by first | (simp; done) | (simp; omega) | omega) _ | refine below_drewN ?_ _ | refine Below.drew ?_ | refine Below.alloc ?_ (by first | (simp; done) | (simp; omega) | omega) _))⟩
  · have d0 : decide (a < 0) = false := decide_eq_false h0
    rw [if_neg (by simp [Kd.may]; omega)]
    rw [if_neg (by simp)]
    clear r1 r2 r3 r4 r5 r6 hc hp hpl hl6 h0
    go_enter Try.func28, Try.ntmps28
    go_wp2_with (first | ((with_reducible refine (KN.out _).mono ?_); rintro e w2 ⟨rfl, rfl⟩) | ((with_reducible refine (KC.out _).mono ?_); rintro e w2 ⟨rfl, rfl⟩) | ((with_reducible refine (KJ.out _).mono ?_); rintro e w2 ⟨rfl, rfl⟩))
    go_ret
    exact ⟨rfl, (by repeat (first | exact Below.refl _ _ | assumption | refine Below.setCell ?_ (by first | (simp; done) | (simp; omega) | omega) _ | refine below_drewN ?_ _ | refine Below.drew ?_ | refine Below.alloc ?_ (by first | (simp; done) | (simp; omega) | omega) _))⟩
set_option maxRecDepth 100000 in
set_option maxHeartbeats 4000000 in
theorem rwrong_46 {w : World} {p : ProgD} {c : CodeD} {cs : List Value} {A : Option Addr} {n k : Nat} (hp : ProgAt w A n k p) (hc : CodeAt w c cs) {op a : Int} (hop : 46 ≤ op ∧ op ≤ 46) :
    Calls Try.prog 28 #[.slice A n k, .agg cs.toArray, .agg #[.int .i64 op, .int .i64 a]] w (SaysR w (wrongE p c (op, a))) := by
  obtain ⟨tk, lv, he⟩ : ∃ tk lv, effOf op = some (.free, tk, lv) := by
    rcases (by omega : op = 46) with rfl <;> exact ⟨_, _, rfl⟩
  rw [wrongE_of he]
  clear he
  have hj : jumpsB op = false := decide_eq_false (by omega)
  rw [hj]
  clear hj
  have KN : Hid (∀ w, Calls Try.prog 56 #[.int .i64 op] w fun e w' => e = .returned (.bool false) ∧ w = w') := Lib.hid fun w => by have := named_any op w; rwa [show namedB op = false from decide_eq_false (by omega)] at this
  have KC : Hid (∀ w, Calls Try.prog 57 #[.int .i64 op] w fun e w' => e = .returned (.bool false) ∧ w = w') := Lib.hid fun w => by have := counted_any op w; rwa [show countedB op = false from decide_eq_false (by omega)] at this
  have KJ : Hid (∀ w, Calls Try.prog 58 #[.int .i64 op] w fun e w' => e = .returned (.bool false) ∧ w = w') := Lib.hid fun w => by have := rjumps_any op w; rwa [show rjumpsB op = false from decide_eq_false (by omega)] at this
  obtain rfl : op = 46 := by omega
  clear hop
  obtain ⟨A1, n1, c1, A2, n2, c2, A3, n3, c3, A4, n4, c4, A5, n5, c5, A6, n6, c6, rfl, r1, r2, r3, r4, r5, r6, m1, m2, m3, m4, m5, m6⟩ := hc.parts
  have hl6 := r6.1
  unfold Most at m1 m2 m3 m4 m5 m6
  have HP := Lib.hid hp
  have hn := hp.most
  have hpl := hp.len
  unfold Most at hn
  rw [if_neg (by simp [Kd.may]), if_neg (by simp)]
  clear r1 r2 r3 r4 r5 r6 hc hp hpl hl6
  go_enter Try.func28, Try.ntmps28
  go_wp2_with (first | ((with_reducible refine (KN.out _).mono ?_); rintro e w2 ⟨rfl, rfl⟩) | ((with_reducible refine (KC.out _).mono ?_); rintro e w2 ⟨rfl, rfl⟩) | ((with_reducible refine (KJ.out _).mono ?_); rintro e w2 ⟨rfl, rfl⟩))
  go_ret
  exact ⟨rfl, (by repeat (first | exact Below.refl _ _ | assumption | refine Below.setCell ?_ (by first | (simp; done) | (simp; omega) | omega) _ | refine below_drewN ?_ _ | refine Below.drew ?_ | refine Below.alloc ?_ (by first | (simp; done) | (simp; omega) | omega) _))⟩
set_option maxRecDepth 100000 in
set_option maxHeartbeats 4000000 in
theorem rwrong_47 {w : World} {p : ProgD} {c : CodeD} {cs : List Value} {A : Option Addr} {n k : Nat} (hp : ProgAt w A n k p) (hc : CodeAt w c cs) {op a : Int} (hop : 47 ≤ op ∧ op ≤ 47) :
    Calls Try.prog 28 #[.slice A n k, .agg cs.toArray, .agg #[.int .i64 op, .int .i64 a]] w (SaysR w (wrongE p c (op, a))) := by
  obtain ⟨tk, lv, he⟩ : ∃ tk lv, effOf op = some (.count, tk, lv) := by
    rcases (by omega : op = 47) with rfl <;> exact ⟨_, _, rfl⟩
  rw [wrongE_of he]
  clear he
  have hj : jumpsB op = true := decide_eq_true (by omega)
  rw [hj]
  clear hj
  have KN : Hid (∀ w, Calls Try.prog 56 #[.int .i64 op] w fun e w' => e = .returned (.bool false) ∧ w = w') := Lib.hid fun w => by have := named_any op w; rwa [show namedB op = false from decide_eq_false (by omega)] at this
  have KC : Hid (∀ w, Calls Try.prog 57 #[.int .i64 op] w fun e w' => e = .returned (.bool false) ∧ w = w') := Lib.hid fun w => by have := counted_any op w; rwa [show countedB op = false from decide_eq_false (by omega)] at this
  have KJ : Hid (∀ w, Calls Try.prog 58 #[.int .i64 op] w fun e w' => e = .returned (.bool true) ∧ w = w') := Lib.hid fun w => by have := rjumps_any op w; rwa [show rjumpsB op = true from decide_eq_true (by omega)] at this
  obtain rfl : op = 47 := by omega
  clear hop
  obtain ⟨A1, n1, c1, A2, n2, c2, A3, n3, c3, A4, n4, c4, A5, n5, c5, A6, n6, c6, rfl, r1, r2, r3, r4, r5, r6, m1, m2, m3, m4, m5, m6⟩ := hc.parts
  have hl6 := r6.1
  unfold Most at m1 m2 m3 m4 m5 m6
  have HP := Lib.hid hp
  have hn := hp.most
  have hpl := hp.len
  unfold Most at hn
  by_cases h0 : a < 0
  · have d0 : decide (a < 0) = true := decide_eq_true h0
    rw [if_pos (by simp [Kd.may]; omega)]
    clear r1 r2 r3 r4 r5 r6 hc hp hpl hl6 h0
    go_enter Try.func28, Try.ntmps28
    go_wp2_with (first | ((with_reducible refine (KN.out _).mono ?_); rintro e w2 ⟨rfl, rfl⟩) | ((with_reducible refine (KC.out _).mono ?_); rintro e w2 ⟨rfl, rfl⟩) | ((with_reducible refine (KJ.out _).mono ?_); rintro e w2 ⟨rfl, rfl⟩))
    go_ret
    exact ⟨rfl, (by repeat (first | exact Below.refl _ _ | assumption | refine Below.setCell ?_ (by first | (simp; done) | (simp; omega) | omega) _ | refine below_drewN ?_ _ | refine Below.drew ?_ | refine Below.alloc ?_ (by first | (simp; done) | (simp; omega) | omega) _))⟩
  · have d0 : decide (a < 0) = false := decide_eq_false h0
    rw [if_neg (by simp [Kd.may]; omega)]
    rw [hl6]
    by_cases h1 : (n6 : Int) ≤ a
    · have d1 : decide ((n6 : Int) ≤ a) = true := decide_eq_true h1
      rw [if_pos ⟨rfl, h1⟩]
      clear r1 r2 r3 r4 r5 r6 hc hp hpl hl6 h0 h1
      go_enter Try.func28, Try.ntmps28
      go_wp2_with (first | ((with_reducible refine (KN.out _).mono ?_); rintro e w2 ⟨rfl, rfl⟩) | ((with_reducible refine (KC.out _).mono ?_); rintro e w2 ⟨rfl, rfl⟩) | ((with_reducible refine (KJ.out _).mono ?_); rintro e w2 ⟨rfl, rfl⟩))
      go_ret
      exact ⟨rfl, (by repeat (first | exact Below.refl _ _ | assumption | refine Below.setCell ?_ (by first | (simp; done) | (simp; omega) | omega) _ | refine below_drewN ?_ _ | refine Below.drew ?_ | refine Below.alloc ?_ (by first | (simp; done) | (simp; omega) | omega) _))⟩
    · have d1 : decide ((n6 : Int) ≤ a) = false := decide_eq_false h1
      rw [if_neg (fun h => h1 h.2)]
      clear r1 r2 r3 r4 r5 r6 hc hp hpl hl6 h0 h1
      go_enter Try.func28, Try.ntmps28
      go_wp2_with (first | ((with_reducible refine (KN.out _).mono ?_); rintro e w2 ⟨rfl, rfl⟩) | ((with_reducible refine (KC.out _).mono ?_); rintro e w2 ⟨rfl, rfl⟩) | ((with_reducible refine (KJ.out _).mono ?_); rintro e w2 ⟨rfl, rfl⟩))
      go_ret
      exact ⟨rfl, (by repeat (first | exact Below.refl _ _ | assumption | refine Below.setCell ?_ (by first | (simp; done) | (simp; omega) | omega) _ | refine below_drewN ?_ _ | refine Below.drew ?_ | refine Below.alloc ?_ (by first | (simp; done) | (simp; omega) | omega) _))⟩
set_option maxRecDepth 100000 in
set_option maxHeartbeats 4000000 in
theorem rwrong_48 {w : World} {p : ProgD} {c : CodeD} {cs : List Value} {A : Option Addr} {n k : Nat} (hp : ProgAt w A n k p) (hc : CodeAt w c cs) {op a : Int} (hop : 48 ≤ op ∧ op ≤ 52) :
    Calls Try.prog 28 #[.slice A n k, .agg cs.toArray, .agg #[.int .i64 op, .int .i64 a]] w (SaysR w (wrongE p c (op, a))) := by
  obtain ⟨tk, lv, he⟩ : ∃ tk lv, effOf op = some (.free, tk, lv) := by
    rcases (by omega : op = 48 ∨ op = 49 ∨ op = 50 ∨ op = 51 ∨ op = 52) with rfl | rfl | rfl | rfl | rfl <;> exact ⟨_, _, rfl⟩
  rw [wrongE_of he]
  clear he
  have hj : jumpsB op = false := decide_eq_false (by omega)
  rw [hj]
  clear hj
  have KN : Hid (∀ w, Calls Try.prog 56 #[.int .i64 op] w fun e w' => e = .returned (.bool false) ∧ w = w') := Lib.hid fun w => by have := named_any op w; rwa [show namedB op = false from decide_eq_false (by omega)] at this
  have KC : Hid (∀ w, Calls Try.prog 57 #[.int .i64 op] w fun e w' => e = .returned (.bool false) ∧ w = w') := Lib.hid fun w => by have := counted_any op w; rwa [show countedB op = false from decide_eq_false (by omega)] at this
  have KJ : Hid (∀ w, Calls Try.prog 58 #[.int .i64 op] w fun e w' => e = .returned (.bool false) ∧ w = w') := Lib.hid fun w => by have := rjumps_any op w; rwa [show rjumpsB op = false from decide_eq_false (by omega)] at this
  have f0 : decide (op < (1 : Int)) = false := decide_eq_false (by omega)
  have f1 : decide ((56 : Int) < op) = false := decide_eq_false (by omega)
  have f2 : (op == (1 : Int)) = false := by simp; omega
  have f3 : decide ((5 : Int) ≤ op) = true := decide_eq_true (by omega)
  have f4 : decide (op ≤ (7 : Int)) = false := decide_eq_false (by omega)
  have f5 : decide ((8 : Int) ≤ op) = true := decide_eq_true (by omega)
  have f6 : decide (op ≤ (11 : Int)) = false := decide_eq_false (by omega)
  have f7 : (op == (33 : Int)) = false := by simp; omega
  have f8 : (op == (34 : Int)) = false := by simp; omega
  have f9 : decide ((15 : Int) ≤ op) = true := decide_eq_true (by omega)
  have f10 : decide (op ≤ (17 : Int)) = false := decide_eq_false (by omega)
  have f11 : (op == (53 : Int)) = false := by simp; omega
  clear hop
  obtain ⟨A1, n1, c1, A2, n2, c2, A3, n3, c3, A4, n4, c4, A5, n5, c5, A6, n6, c6, rfl, r1, r2, r3, r4, r5, r6, m1, m2, m3, m4, m5, m6⟩ := hc.parts
  have hl6 := r6.1
  unfold Most at m1 m2 m3 m4 m5 m6
  have HP := Lib.hid hp
  have hn := hp.most
  have hpl := hp.len
  unfold Most at hn
  rw [if_neg (by simp [Kd.may]), if_neg (by simp)]
  clear r1 r2 r3 r4 r5 r6 hc hp hpl hl6
  go_enter Try.func28, Try.ntmps28
  go_wp2_with (first | ((with_reducible refine (KN.out _).mono ?_); rintro e w2 ⟨rfl, rfl⟩) | ((with_reducible refine (KC.out _).mono ?_); rintro e w2 ⟨rfl, rfl⟩) | ((with_reducible refine (KJ.out _).mono ?_); rintro e w2 ⟨rfl, rfl⟩))
  go_ret
  exact ⟨rfl, (by repeat (first | exact Below.refl _ _ | assumption | refine Below.setCell ?_ (by first | (simp; done) | (simp; omega) | omega) _ | refine below_drewN ?_ _ | refine Below.drew ?_ | refine Below.alloc ?_ (by first | (simp; done) | (simp; omega) | omega) _))⟩
set_option maxRecDepth 100000 in
set_option maxHeartbeats 4000000 in
theorem rwrong_53 {w : World} {p : ProgD} {c : CodeD} {cs : List Value} {A : Option Addr} {n k : Nat} (hp : ProgAt w A n k p) (hc : CodeAt w c cs) {op a : Int} (hop : 53 ≤ op ∧ op ≤ 53) :
    Calls Try.prog 28 #[.slice A n k, .agg cs.toArray, .agg #[.int .i64 op, .int .i64 a]] w (SaysR w (wrongE p c (op, a))) := by
  obtain ⟨tk, lv, he⟩ : ∃ tk lv, effOf op = some (.gen, tk, lv) := by
    rcases (by omega : op = 53) with rfl <;> exact ⟨_, _, rfl⟩
  rw [wrongE_of he]
  clear he
  have hj : jumpsB op = false := decide_eq_false (by omega)
  rw [hj]
  clear hj
  have KN : Hid (∀ w, Calls Try.prog 56 #[.int .i64 op] w fun e w' => e = .returned (.bool false) ∧ w = w') := Lib.hid fun w => by have := named_any op w; rwa [show namedB op = false from decide_eq_false (by omega)] at this
  have KC : Hid (∀ w, Calls Try.prog 57 #[.int .i64 op] w fun e w' => e = .returned (.bool false) ∧ w = w') := Lib.hid fun w => by have := counted_any op w; rwa [show countedB op = false from decide_eq_false (by omega)] at this
  have KJ : Hid (∀ w, Calls Try.prog 58 #[.int .i64 op] w fun e w' => e = .returned (.bool false) ∧ w = w') := Lib.hid fun w => by have := rjumps_any op w; rwa [show rjumpsB op = false from decide_eq_false (by omega)] at this
  obtain rfl : op = 53 := by omega
  clear hop
  obtain ⟨A1, n1, c1, A2, n2, c2, A3, n3, c3, A4, n4, c4, A5, n5, c5, A6, n6, c6, rfl, r1, r2, r3, r4, r5, r6, m1, m2, m3, m4, m5, m6⟩ := hc.parts
  have hl6 := r6.1
  unfold Most at m1 m2 m3 m4 m5 m6
  have HP := Lib.hid hp
  have hn := hp.most
  have hpl := hp.len
  unfold Most at hn
  have hmay : Kd.may p c .gen a = c.gen := rfl
  rw [hmay]
  clear r1 r2 r3 r4 r5 r6 hc hp hmay hpl hl6
  generalize c.gen = cg at *
  cases cg with
  | false =>
    rw [if_pos rfl]
    go_enter Try.func28, Try.ntmps28
    go_wp2_with (first | ((with_reducible refine (KN.out _).mono ?_); rintro e w2 ⟨rfl, rfl⟩) | ((with_reducible refine (KC.out _).mono ?_); rintro e w2 ⟨rfl, rfl⟩) | ((with_reducible refine (KJ.out _).mono ?_); rintro e w2 ⟨rfl, rfl⟩))
    go_ret
    exact ⟨rfl, (by repeat (first | exact Below.refl _ _ | assumption | refine Below.setCell ?_ (by first | (simp; done) | (simp; omega) | omega) _ | refine below_drewN ?_ _ | refine Below.drew ?_ | refine Below.alloc ?_ (by first | (simp; done) | (simp; omega) | omega) _))⟩
  | true =>
    rw [if_neg (by decide), if_neg (by simp)]
    go_enter Try.func28, Try.ntmps28
    go_wp2_with (first | ((with_reducible refine (KN.out _).mono ?_); rintro e w2 ⟨rfl, rfl⟩) | ((with_reducible refine (KC.out _).mono ?_); rintro e w2 ⟨rfl, rfl⟩) | ((with_reducible refine (KJ.out _).mono ?_); rintro e w2 ⟨rfl, rfl⟩))
    go_ret
    exact ⟨rfl, (by repeat (first | exact Below.refl _ _ | assumption | refine Below.setCell ?_ (by first | (simp; done) | (simp; omega) | omega) _ | refine below_drewN ?_ _ | refine Below.drew ?_ | refine Below.alloc ?_ (by first | (simp; done) | (simp; omega) | omega) _))⟩
set_option maxRecDepth 100000 in
set_option maxHeartbeats 4000000 in
theorem rwrong_54 {w : World} {p : ProgD} {c : CodeD} {cs : List Value} {A : Option Addr} {n k : Nat} (hp : ProgAt w A n k p) (hc : CodeAt w c cs) {op a : Int} (hop : 54 ≤ op ∧ op ≤ 54) :
    Calls Try.prog 28 #[.slice A n k, .agg cs.toArray, .agg #[.int .i64 op, .int .i64 a]] w (SaysR w (wrongE p c (op, a))) := by
  obtain ⟨tk, lv, he⟩ : ∃ tk lv, effOf op = some (.free, tk, lv) := by
    rcases (by omega : op = 54) with rfl <;> exact ⟨_, _, rfl⟩
  rw [wrongE_of he]
  clear he
  have hj : jumpsB op = false := decide_eq_false (by omega)
  rw [hj]
  clear hj
  have KN : Hid (∀ w, Calls Try.prog 56 #[.int .i64 op] w fun e w' => e = .returned (.bool false) ∧ w = w') := Lib.hid fun w => by have := named_any op w; rwa [show namedB op = false from decide_eq_false (by omega)] at this
  have KC : Hid (∀ w, Calls Try.prog 57 #[.int .i64 op] w fun e w' => e = .returned (.bool false) ∧ w = w') := Lib.hid fun w => by have := counted_any op w; rwa [show countedB op = false from decide_eq_false (by omega)] at this
  have KJ : Hid (∀ w, Calls Try.prog 58 #[.int .i64 op] w fun e w' => e = .returned (.bool false) ∧ w = w') := Lib.hid fun w => by have := rjumps_any op w; rwa [show rjumpsB op = false from decide_eq_false (by omega)] at this
  obtain rfl : op = 54 := by omega
  clear hop
  obtain ⟨A1, n1, c1, A2, n2, c2, A3, n3, c3, A4, n4, c4, A5, n5, c5, A6, n6, c6, rfl, r1, r2, r3, r4, r5, r6, m1, m2, m3, m4, m5, m6⟩ := hc.parts
  have hl6 := r6.1
  unfold Most at m1 m2 m3 m4 m5 m6
  have HP := Lib.hid hp
  have hn := hp.most
  have hpl := hp.len
  unfold Most at hn
  rw [if_neg (by simp [Kd.may]), if_neg (by simp)]
  clear r1 r2 r3 r4 r5 r6 hc hp hpl hl6
  go_enter Try.func28, Try.ntmps28
  go_wp2_with (first | ((with_reducible refine (KN.out _).mono ?_); rintro e w2 ⟨rfl, rfl⟩) | ((with_reducible refine (KC.out _).mono ?_); rintro e w2 ⟨rfl, rfl⟩) | ((with_reducible refine (KJ.out _).mono ?_); rintro e w2 ⟨rfl, rfl⟩))
  go_ret
  exact ⟨rfl, (by repeat (first | exact Below.refl _ _ | assumption | refine Below.setCell ?_ (by first | (simp; done) | (simp; omega) | omega) _ | refine below_drewN ?_ _ | refine Below.drew ?_ | refine Below.alloc ?_ (by first | (simp; done) | (simp; omega) | omega) _))⟩
set_option maxRecDepth 100000 in
set_option maxHeartbeats 4000000 in
theorem rwrong_55 {w : World} {p : ProgD} {c : CodeD} {cs : List Value} {A : Option Addr} {n k : Nat} (hp : ProgAt w A n k p) (hc : CodeAt w c cs) {op a : Int} (hop : 55 ≤ op ∧ op ≤ 56) :
    Calls Try.prog 28 #[.slice A n k, .agg cs.toArray, .agg #[.int .i64 op, .int .i64 a]] w (SaysR w (wrongE p c (op, a))) := by
  obtain ⟨tk, lv, he⟩ : ∃ tk lv, effOf op = some (.names, tk, lv) := by
    rcases (by omega : op = 55 ∨ op = 56) with rfl | rfl <;> exact ⟨_, _, rfl⟩
  rw [wrongE_of he]
  clear he
  have hj : jumpsB op = false := decide_eq_false (by omega)
  rw [hj]
  clear hj
  have KN : Hid (∀ w, Calls Try.prog 56 #[.int .i64 op] w fun e w' => e = .returned (.bool true) ∧ w = w') := Lib.hid fun w => by have := named_any op w; rwa [show namedB op = true from decide_eq_true (by omega)] at this
  have KC : Hid (∀ w, Calls Try.prog 57 #[.int .i64 op] w fun e w' => e = .returned (.bool false) ∧ w = w') := Lib.hid fun w => by have := counted_any op w; rwa [show countedB op = false from decide_eq_false (by omega)] at this
  have KJ : Hid (∀ w, Calls Try.prog 58 #[.int .i64 op] w fun e w' => e = .returned (.bool false) ∧ w = w') := Lib.hid fun w => by have := rjumps_any op w; rwa [show rjumpsB op = false from decide_eq_false (by omega)] at this
  have f0 : decide (op < (1 : Int)) = false := decide_eq_false (by omega)
  have f1 : decide ((56 : Int) < op) = false := decide_eq_false (by omega)
  have f2 : (op == (1 : Int)) = false := by simp; omega
  have f3 : decide ((5 : Int) ≤ op) = true := decide_eq_true (by omega)
  have f4 : decide (op ≤ (7 : Int)) = false := decide_eq_false (by omega)
  have f5 : decide ((8 : Int) ≤ op) = true := decide_eq_true (by omega)
  have f6 : decide (op ≤ (11 : Int)) = false := decide_eq_false (by omega)
  have f7 : (op == (33 : Int)) = false := by simp; omega
  have f8 : (op == (34 : Int)) = false := by simp; omega
  have f9 : decide ((15 : Int) ≤ op) = true := decide_eq_true (by omega)
  have f10 : decide (op ≤ (17 : Int)) = false := decide_eq_false (by omega)
  have f11 : (op == (53 : Int)) = false := by simp; omega
  clear hop
  obtain ⟨A1, n1, c1, A2, n2, c2, A3, n3, c3, A4, n4, c4, A5, n5, c5, A6, n6, c6, rfl, r1, r2, r3, r4, r5, r6, m1, m2, m3, m4, m5, m6⟩ := hc.parts
  have hl6 := r6.1
  unfold Most at m1 m2 m3 m4 m5 m6
  have HP := Lib.hid hp
  have hn := hp.most
  have hpl := hp.len
  unfold Most at hn
  have hmay : Kd.may p c .names a = inB a n4 := by show decide (0 ≤ a ∧ a < (c.names.length : Int)) = _; rw [r4.1]; rfl
  rw [hmay]
  clear r1 r2 r3 r4 r5 r6 hc hp hmay hpl hl6
  cases hb : inB a n4 with
  | false =>
    have KI : Hid (∀ w, Calls Try.prog 26 #[.int .i64 a, .int .i64 n4] w fun e w' => e = .returned (.bool false) ∧ w = w') := Lib.hid fun w => by have := in_any a n4 w; rwa [hb] at this
    clear hb
    rw [if_pos rfl]
    go_enter Try.func28, Try.ntmps28
    go_wp2_with (first | ((with_reducible refine (KN.out _).mono ?_); rintro e w2 ⟨rfl, rfl⟩) | ((with_reducible refine (KC.out _).mono ?_); rintro e w2 ⟨rfl, rfl⟩) | ((with_reducible refine (KJ.out _).mono ?_); rintro e w2 ⟨rfl, rfl⟩) | ((with_reducible refine (KI.out _).mono ?_); rintro e w2 ⟨rfl, rfl⟩))
    go_ret
    exact ⟨rfl, (by repeat (first | exact Below.refl _ _ | assumption | refine Below.setCell ?_ (by first | (simp; done) | (simp; omega) | omega) _ | refine below_drewN ?_ _ | refine Below.drew ?_ | refine Below.alloc ?_ (by first | (simp; done) | (simp; omega) | omega) _))⟩
  | true =>
    have KI : Hid (∀ w, Calls Try.prog 26 #[.int .i64 a, .int .i64 n4] w fun e w' => e = .returned (.bool true) ∧ w = w') := Lib.hid fun w => by have := in_any a n4 w; rwa [hb] at this
    clear hb
    rw [if_neg (by decide), if_neg (by simp)]
    go_enter Try.func28, Try.ntmps28
    go_wp2_with (first | ((with_reducible refine (KN.out _).mono ?_); rintro e w2 ⟨rfl, rfl⟩) | ((with_reducible refine (KC.out _).mono ?_); rintro e w2 ⟨rfl, rfl⟩) | ((with_reducible refine (KJ.out _).mono ?_); rintro e w2 ⟨rfl, rfl⟩) | ((with_reducible refine (KI.out _).mono ?_); rintro e w2 ⟨rfl, rfl⟩))
    go_ret
    exact ⟨rfl, (by repeat (first | exact Below.refl _ _ | assumption | refine Below.setCell ?_ (by first | (simp; done) | (simp; omega) | omega) _ | refine below_drewN ?_ _ | refine Below.drew ?_ | refine Below.alloc ?_ (by first | (simp; done) | (simp; omega) | omega) _))⟩

set_option maxRecDepth 100000 in
set_option maxHeartbeats 4000000 in
theorem rwrong_any {w : World} {p : ProgD} {c : CodeD} {cs : List Value} {A : Option Addr} {n k : Nat} (hp : ProgAt w A n k p) (hc : CodeAt w c cs) (op a : Int) :
    Calls Try.prog 28 #[.slice A n k, .agg cs.toArray, .agg #[.int .i64 op, .int .i64 a]] w (SaysR w (wrongE p c (op, a))) := by
  by_cases h0 : op < 1
  · have d0 : decide (op < 1) = true := decide_eq_true h0
    rw [show wrongE p c (op, a) = 50 by unfold wrongE effOf; rw [if_neg (by omega)]]
    obtain ⟨A1, n1, c1, A2, n2, c2, A3, n3, c3, A4, n4, c4, A5, n5, c5, A6, n6, c6, rfl, -⟩ := hc.parts
    clear h0 hc hp
    go_enter Try.func28, Try.ntmps28
    go_wp2_with fail
    go_ret
    exact ⟨rfl, (by repeat (first | exact Below.refl _ _ | assumption | refine Below.setCell ?_ (by first | (simp; done) | (simp; omega) | omega) _ | refine below_drewN ?_ _ | refine Below.drew ?_ | refine Below.alloc ?_ (by first | (simp; done) | (simp; omega) | omega) _))⟩
  by_cases h1 : 56 < op
  · have d0 : decide (op < 1) = false := decide_eq_false h0
    have d1 : decide (56 < op) = true := decide_eq_true h1
    rw [show wrongE p c (op, a) = 50 by unfold wrongE effOf; rw [if_pos (by omega), List.getElem?_eq_none (by have : effs.length = 56 := rfl; omega)]]
    obtain ⟨A1, n1, c1, A2, n2, c2, A3, n3, c3, A4, n4, c4, A5, n5, c5, A6, n6, c6, rfl, -⟩ := hc.parts
    clear h0 h1 hc hp
    go_enter Try.func28, Try.ntmps28
    go_wp2_with fail
    go_ret
    exact ⟨rfl, (by repeat (first | exact Below.refl _ _ | assumption | refine Below.setCell ?_ (by first | (simp; done) | (simp; omega) | omega) _ | refine below_drewN ?_ _ | refine Below.drew ?_ | refine Below.alloc ?_ (by first | (simp; done) | (simp; omega) | omega) _))⟩
  rcases (by omega : (1 ≤ op ∧ op ≤ 1) ∨ (2 ≤ op ∧ op ≤ 4) ∨ (5 ≤ op ∧ op ≤ 7) ∨ (8 ≤ op ∧ op ≤ 11) ∨ (12 ≤ op ∧ op ≤ 14) ∨ (15 ≤ op ∧ op ≤ 17) ∨ (18 ≤ op ∧ op ≤ 19) ∨ (20 ≤ op ∧ op ≤ 21) ∨ (22 ≤ op ∧ op ≤ 24) ∨ (25 ≤ op ∧ op ≤ 27) ∨ (28 ≤ op ∧ op ≤ 31) ∨ (32 ≤ op ∧ op ≤ 32) ∨ (33 ≤ op ∧ op ≤ 33) ∨ (34 ≤ op ∧ op ≤ 34) ∨ (35 ≤ op ∧ op ≤ 35) ∨ (36 ≤ op ∧ op ≤ 40) ∨ (41 ≤ op ∧ op ≤ 41) ∨ (42 ≤ op ∧ op ≤ 42) ∨ (43 ≤ op ∧ op ≤ 45) ∨ (46 ≤ op ∧ op ≤ 46) ∨ (47 ≤ op ∧ op ≤ 47) ∨ (48 ≤ op ∧ op ≤ 52) ∨ (53 ≤ op ∧ op ≤ 53) ∨ (54 ≤ op ∧ op ≤ 54) ∨ (55 ≤ op ∧ op ≤ 56)) with h | h | h | h | h | h | h | h | h | h | h | h | h | h | h | h | h | h | h | h | h | h | h | h | h
  · exact rwrong_1 hp hc h
  · exact rwrong_2 hp hc h
  · exact rwrong_5 hp hc h
  · exact rwrong_8 hp hc h
  · exact rwrong_12 hp hc h
  · exact rwrong_15 hp hc h
  · exact rwrong_18 hp hc h
  · exact rwrong_20 hp hc h
  · exact rwrong_22 hp hc h
  · exact rwrong_25 hp hc h
  · exact rwrong_28 hp hc h
  · exact rwrong_32 hp hc h
  · exact rwrong_33 hp hc h
  · exact rwrong_34 hp hc h
  · exact rwrong_35 hp hc h
  · exact rwrong_36 hp hc h
  · exact rwrong_41 hp hc h
  · exact rwrong_42 hp hc h
  · exact rwrong_43 hp hc h
  · exact rwrong_46 hp hc h
  · exact rwrong_47 hp hc h
  · exact rwrong_48 hp hc h
  · exact rwrong_53 hp hc h
  · exact rwrong_54 hp hc h
  · exact rwrong_55 hp hc h

end Go.Proofs.Ytgnejkmojfhfpaa
