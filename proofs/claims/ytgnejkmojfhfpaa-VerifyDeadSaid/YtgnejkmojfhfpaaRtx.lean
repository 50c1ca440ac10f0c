/- Takes of instructions that take a fixed number. Takes of instructions that take a fixed number. Takes of instructions that take a fixed number. Takes of instructions that count. Takes. -/
import Derived.Test.YtgnejkmojfhfpaaRfx
namespace Go.Proofs.Ytgnejkmojfhfpaa
open Go.RowKit
set_option linter.unusedVariables false
set_option linter.unusedSimpArgs false
set_option maxRecDepth 100000 in
set_option maxHeartbeats 8000000 in
theorem takes_0_1 (A : Option Addr) (n k : Nat) (a h : Int) (h0 : 0 ≤ h) (hm : h < 1099511627776) (w : World) {op : Int} (hop : op = 1 ∨ op = 5 ∨ op = 8 ∨ op = 11 ∨ op = 12 ∨ op = 15 ∨ op = 43 ∨ op = 45) :
    Calls Try.prog 19 #[.slice A n k, .agg #[.int .i64 op, .int .i64 a], .int .i64 h] w (TkR w 0 1) := by
  cases hd : decide (h < a)
  all_goals
    rcases hop with rfl | rfl | rfl | rfl | rfl | rfl | rfl | rfl
    all_goals
      go_enter Try.func19, Try.ntmps19
      go_wp2_with fail
      go_ret2
      exact ⟨rfl, (by repeat (first | exact Below.refl _ _ | assumption | refine Below.setCell ?_ (by first | (simp; done) | (simp; omega) | omega) _ | refine below_drewN ?_ _ | refine Below.drew ?_ | refine Below.alloc ?_ (by first | (simp; done) | (simp; omega) | omega) _))⟩
set_option maxRecDepth 100000 in
set_option maxHeartbeats 8000000 in
theorem takes_0_0 (A : Option Addr) (n k : Nat) (a h : Int) (h0 : 0 ≤ h) (hm : h < 1099511627776) (w : World) {op : Int} (hop : op = 7 ∨ op = 10 ∨ op = 14 ∨ op = 17 ∨ op = 36 ∨ op = 44 ∨ op = 47 ∨ op = 48 ∨ op = 54 ∨ op = 55) :
    Calls Try.prog 19 #[.slice A n k, .agg #[.int .i64 op, .int .i64 a], .int .i64 h] w (TkR w 0 0) := by
  cases hd : decide (h < a)
  all_goals
    rcases hop with rfl | rfl | rfl | rfl | rfl | rfl | rfl | rfl | rfl | rfl
    all_goals
      go_enter Try.func19, Try.ntmps19
      go_wp2_with fail
      go_ret2
      exact ⟨rfl, (by repeat (first | exact Below.refl _ _ | assumption | refine Below.setCell ?_ (by first | (simp; done) | (simp; omega) | omega) _ | refine below_drewN ?_ _ | refine Below.drew ?_ | refine Below.alloc ?_ (by first | (simp; done) | (simp; omega) | omega) _))⟩
set_option maxRecDepth 100000 in
set_option maxHeartbeats 8000000 in
theorem takes_1_1 (A : Option Addr) (n k : Nat) (a h : Int) (h0 : 0 ≤ h) (hm : h < 1099511627776) (w : World) {op : Int} (hop : op = 20 ∨ op = 21 ∨ op = 25 ∨ op = 41) :
    Calls Try.prog 19 #[.slice A n k, .agg #[.int .i64 op, .int .i64 a], .int .i64 h] w (TkR w 1 1) := by
  cases hd : decide (h < a)
  all_goals
    rcases hop with rfl | rfl | rfl | rfl
    all_goals
      go_enter Try.func19, Try.ntmps19
      go_wp2_with fail
      go_ret2
      exact ⟨rfl, (by repeat (first | exact Below.refl _ _ | assumption | refine Below.setCell ?_ (by first | (simp; done) | (simp; omega) | omega) _ | refine below_drewN ?_ _ | refine Below.drew ?_ | refine Below.alloc ?_ (by first | (simp; done) | (simp; omega) | omega) _))⟩

set_option maxRecDepth 100000 in
set_option maxHeartbeats 8000000 in
theorem takes_1_0 (A : Option Addr) (n k : Nat) (a h : Int) (h0 : 0 ≤ h) (hm : h < 1099511627776) (w : World) {op : Int} (hop : op = 2 ∨ op = 6 ∨ op = 9 ∨ op = 13 ∨ op = 16 ∨ op = 27 ∨ op = 37 ∨ op = 38 ∨ op = 39 ∨ op = 40 ∨ op = 50 ∨ op = 51 ∨ op = 52 ∨ op = 53 ∨ op = 56) :
    Calls Try.prog 19 #[.slice A n k, .agg #[.int .i64 op, .int .i64 a], .int .i64 h] w (TkR w 1 0) := by
  cases hd : decide (h < a)
  all_goals
    rcases hop with rfl | rfl | rfl | rfl | rfl | rfl | rfl | rfl | rfl | rfl | rfl | rfl | rfl | rfl | rfl
    all_goals
      go_enter Try.func19, Try.ntmps19
      go_wp2_with fail
      go_ret2
      exact ⟨rfl, (by repeat (first | exact Below.refl _ _ | assumption | refine Below.setCell ?_ (by first | (simp; done) | (simp; omega) | omega) _ | refine below_drewN ?_ _ | refine Below.drew ?_ | refine Below.alloc ?_ (by first | (simp; done) | (simp; omega) | omega) _))⟩
set_option maxRecDepth 100000 in
set_option maxHeartbeats 8000000 in
theorem takes_1_2 (A : Option Addr) (n k : Nat) (a h : Int) (h0 : 0 ≤ h) (hm : h < 1099511627776) (w : World) {op : Int} (hop : op = 3 ∨ op = 42) :
    Calls Try.prog 19 #[.slice A n k, .agg #[.int .i64 op, .int .i64 a], .int .i64 h] w (TkR w 1 2) := by
  cases hd : decide (h < a)
  all_goals
    rcases hop with rfl | rfl
    all_goals
      go_enter Try.func19, Try.ntmps19
      go_wp2_with fail
      go_ret2
      exact ⟨rfl, (by repeat (first | exact Below.refl _ _ | assumption | refine Below.setCell ?_ (by first | (simp; done) | (simp; omega) | omega) _ | refine below_drewN ?_ _ | refine Below.drew ?_ | refine Below.alloc ?_ (by first | (simp; done) | (simp; omega) | omega) _))⟩

set_option maxRecDepth 100000 in
set_option maxHeartbeats 8000000 in
theorem takes_2_2 (A : Option Addr) (n k : Nat) (a h : Int) (h0 : 0 ≤ h) (hm : h < 1099511627776) (w : World) {op : Int} (hop : op = 4 ∨ op = 49) :
    Calls Try.prog 19 #[.slice A n k, .agg #[.int .i64 op, .int .i64 a], .int .i64 h] w (TkR w 2 2) := by
  cases hd : decide (h < a)
  all_goals
    rcases hop with rfl | rfl
    all_goals
      go_enter Try.func19, Try.ntmps19
      go_wp2_with fail
      go_ret2
      exact ⟨rfl, (by repeat (first | exact Below.refl _ _ | assumption | refine Below.setCell ?_ (by first | (simp; done) | (simp; omega) | omega) _ | refine below_drewN ?_ _ | refine Below.drew ?_ | refine Below.alloc ?_ (by first | (simp; done) | (simp; omega) | omega) _))⟩
set_option maxRecDepth 100000 in
set_option maxHeartbeats 8000000 in
theorem takes_2_1 (A : Option Addr) (n k : Nat) (a h : Int) (h0 : 0 ≤ h) (hm : h < 1099511627776) (w : World) {op : Int} (hop : op = 18 ∨ op = 19 ∨ op = 28 ∨ op = 35) :
    Calls Try.prog 19 #[.slice A n k, .agg #[.int .i64 op, .int .i64 a], .int .i64 h] w (TkR w 2 1) := by
  cases hd : decide (h < a)
  all_goals
    rcases hop with rfl | rfl | rfl | rfl
    all_goals
      go_enter Try.func19, Try.ntmps19
      go_wp2_with fail
      go_ret2
      exact ⟨rfl, (by repeat (first | exact Below.refl _ _ | assumption | refine Below.setCell ?_ (by first | (simp; done) | (simp; omega) | omega) _ | refine below_drewN ?_ _ | refine Below.drew ?_ | refine Below.alloc ?_ (by first | (simp; done) | (simp; omega) | omega) _))⟩
set_option maxRecDepth 100000 in
set_option maxHeartbeats 8000000 in
theorem takes_2_0 (A : Option Addr) (n k : Nat) (a h : Int) (h0 : 0 ≤ h) (hm : h < 1099511627776) (w : World) {op : Int} (hop : op = 26 ∨ op = 30) :
    Calls Try.prog 19 #[.slice A n k, .agg #[.int .i64 op, .int .i64 a], .int .i64 h] w (TkR w 2 0) := by
  cases hd : decide (h < a)
  all_goals
    rcases hop with rfl | rfl
    all_goals
      go_enter Try.func19, Try.ntmps19
      go_wp2_with fail
      go_ret2
      exact ⟨rfl, (by repeat (first | exact Below.refl _ _ | assumption | refine Below.setCell ?_ (by first | (simp; done) | (simp; omega) | omega) _ | refine below_drewN ?_ _ | refine Below.drew ?_ | refine Below.alloc ?_ (by first | (simp; done) | (simp; omega) | omega) _))⟩
set_option maxRecDepth 100000 in
set_option maxHeartbeats 8000000 in
theorem takes_3_0 (A : Option Addr) (n k : Nat) (a h : Int) (h0 : 0 ≤ h) (hm : h < 1099511627776) (w : World) {op : Int} (hop : op = 29) :
    Calls Try.prog 19 #[.slice A n k, .agg #[.int .i64 op, .int .i64 a], .int .i64 h] w (TkR w 3 0) := by
  cases hd : decide (h < a)
  all_goals
    rcases hop with rfl
    all_goals
      go_enter Try.func19, Try.ntmps19
      go_wp2_with fail
      go_ret2
      exact ⟨rfl, (by repeat (first | exact Below.refl _ _ | assumption | refine Below.setCell ?_ (by first | (simp; done) | (simp; omega) | omega) _ | refine below_drewN ?_ _ | refine Below.drew ?_ | refine Below.alloc ?_ (by first | (simp; done) | (simp; omega) | omega) _))⟩
set_option maxRecDepth 100000 in
set_option maxHeartbeats 8000000 in
theorem takes_3_1 (A : Option Addr) (n k : Nat) (a h : Int) (h0 : 0 ≤ h) (hm : h < 1099511627776) (w : World) {op : Int} (hop : op = 31) :
    Calls Try.prog 19 #[.slice A n k, .agg #[.int .i64 op, .int .i64 a], .int .i64 h] w (TkR w 3 1) := by
  cases hd : decide (h < a)
  all_goals
    rcases hop with rfl
    all_goals
      go_enter Try.func19, Try.ntmps19
      go_wp2_with fail
      go_ret2
      exact ⟨rfl, (by repeat (first | exact Below.refl _ _ | assumption | refine Below.setCell ?_ (by first | (simp; done) | (simp; omega) | omega) _ | refine below_drewN ?_ _ | refine Below.drew ?_ | refine Below.alloc ?_ (by first | (simp; done) | (simp; omega) | omega) _))⟩
set_option maxRecDepth 100000 in
set_option maxHeartbeats 8000000 in
theorem takes_3_3 (A : Option Addr) (n k : Nat) (a h : Int) (h0 : 0 ≤ h) (hm : h < 1099511627776) (w : World) {op : Int} (hop : op = 46) :
    Calls Try.prog 19 #[.slice A n k, .agg #[.int .i64 op, .int .i64 a], .int .i64 h] w (TkR w 3 3) := by
  cases hd : decide (h < a)
  all_goals
    rcases hop with rfl
    all_goals
      go_enter Try.func19, Try.ntmps19
      go_wp2_with fail
      go_ret2
      exact ⟨rfl, (by repeat (first | exact Below.refl _ _ | assumption | refine Below.setCell ?_ (by first | (simp; done) | (simp; omega) | omega) _ | refine below_drewN ?_ _ | refine Below.drew ?_ | refine Below.alloc ?_ (by first | (simp; done) | (simp; omega) | omega) _))⟩

set_option maxRecDepth 100000 in
set_option maxHeartbeats 8000000 in
theorem takes_n1_true (A : Option Addr) (n k : Nat) (a h : Int) (h0 : 0 ≤ h) (hm : h < 1099511627776) (ha : 0 ≤ a) (hd : h < a) (w : World) {op : Int} (hop : op = 22 ∨ op = 23) :
    Calls Try.prog 19 #[.slice A n k, .agg #[.int .i64 op, .int .i64 a], .int .i64 h] w (TkR w (h + 1) 1) := by
  have d0 : decide (h < a) = true := decide_eq_true hd
  rcases hop with rfl | rfl
  all_goals
    go_enter Try.func19, Try.ntmps19
    go_wp2_with fail
    go_ret2
    exact ⟨rfl, (by repeat (first | exact Below.refl _ _ | assumption | refine Below.setCell ?_ (by first | (simp; done) | (simp; omega) | omega) _ | refine below_drewN ?_ _ | refine Below.drew ?_ | refine Below.alloc ?_ (by first | (simp; done) | (simp; omega) | omega) _))⟩
set_option maxRecDepth 100000 in
set_option maxHeartbeats 8000000 in
theorem takes_n1_false (A : Option Addr) (n k : Nat) (a h : Int) (h0 : 0 ≤ h) (hm : h < 1099511627776) (ha : 0 ≤ a) (hd : ¬ h < a) (w : World) {op : Int} (hop : op = 22 ∨ op = 23) :
    Calls Try.prog 19 #[.slice A n k, .agg #[.int .i64 op, .int .i64 a], .int .i64 h] w (TkR w (a) 1) := by
  have d0 : decide (h < a) = false := decide_eq_false hd
  rcases hop with rfl | rfl
  all_goals
    go_enter Try.func19, Try.ntmps19
    go_wp2_with fail
    go_ret2
    exact ⟨rfl, (by repeat (first | exact Below.refl _ _ | assumption | refine Below.setCell ?_ (by first | (simp; done) | (simp; omega) | omega) _ | refine below_drewN ?_ _ | refine Below.drew ?_ | refine Below.alloc ?_ (by first | (simp; done) | (simp; omega) | omega) _))⟩
set_option maxRecDepth 100000 in
set_option maxHeartbeats 8000000 in
theorem takes_n2_true (A : Option Addr) (n k : Nat) (a h : Int) (h0 : 0 ≤ h) (hm : h < 1099511627776) (ha : 0 ≤ a) (hd : h < a) (w : World) {op : Int} (hop : op = 24) :
    Calls Try.prog 19 #[.slice A n k, .agg #[.int .i64 op, .int .i64 a], .int .i64 h] w (TkR w (2 * (h + 1)) 1) := by
  have d0 : decide (h < a) = true := decide_eq_true hd
  subst hop
  all_goals
    go_enter Try.func19, Try.ntmps19
    go_wp2_with fail
    go_ret2
    exact ⟨rfl, (by repeat (first | exact Below.refl _ _ | assumption | refine Below.setCell ?_ (by first | (simp; done) | (simp; omega) | omega) _ | refine below_drewN ?_ _ | refine Below.drew ?_ | refine Below.alloc ?_ (by first | (simp; done) | (simp; omega) | omega) _))⟩
set_option maxRecDepth 100000 in
set_option maxHeartbeats 8000000 in
theorem takes_n2_false (A : Option Addr) (n k : Nat) (a h : Int) (h0 : 0 ≤ h) (hm : h < 1099511627776) (ha : 0 ≤ a) (hd : ¬ h < a) (w : World) {op : Int} (hop : op = 24) :
    Calls Try.prog 19 #[.slice A n k, .agg #[.int .i64 op, .int .i64 a], .int .i64 h] w (TkR w (2 * (a)) 1) := by
  have d0 : decide (h < a) = false := decide_eq_false hd
  subst hop
  all_goals
    go_enter Try.func19, Try.ntmps19
    go_wp2_with fail
    go_ret2
    exact ⟨rfl, (by repeat (first | exact Below.refl _ _ | assumption | refine Below.setCell ?_ (by first | (simp; done) | (simp; omega) | omega) _ | refine below_drewN ?_ _ | refine Below.drew ?_ | refine Below.alloc ?_ (by first | (simp; done) | (simp; omega) | omega) _))⟩
set_option maxRecDepth 100000 in
set_option maxHeartbeats 8000000 in
theorem takes_n3_true (A : Option Addr) (n k : Nat) (a h : Int) (h0 : 0 ≤ h) (hm : h < 1099511627776) (ha : 0 ≤ a) (hd : h < a) (w : World) {op : Int} (hop : op = 32) :
    Calls Try.prog 19 #[.slice A n k, .agg #[.int .i64 op, .int .i64 a], .int .i64 h] w (TkR w (h + 1 + 1) 1) := by
  have d0 : decide (h < a) = true := decide_eq_true hd
  subst hop
  all_goals
    go_enter Try.func19, Try.ntmps19
    go_wp2_with fail
    go_ret2
    exact ⟨rfl, (by repeat (first | exact Below.refl _ _ | assumption | refine Below.setCell ?_ (by first | (simp; done) | (simp; omega) | omega) _ | refine below_drewN ?_ _ | refine Below.drew ?_ | refine Below.alloc ?_ (by first | (simp; done) | (simp; omega) | omega) _))⟩
set_option maxRecDepth 100000 in
set_option maxHeartbeats 8000000 in
theorem takes_n3_false (A : Option Addr) (n k : Nat) (a h : Int) (h0 : 0 ≤ h) (hm : h < 1099511627776) (ha : 0 ≤ a) (hd : ¬ h < a) (w : World) {op : Int} (hop : op = 32) :
    Calls Try.prog 19 #[.slice A n k, .agg #[.int .i64 op, .int .i64 a], .int .i64 h] w (TkR w (a + 1) 1) := by
  have d0 : decide (h < a) = false := decide_eq_false hd
  subst hop
  all_goals
    go_enter Try.func19, Try.ntmps19
    go_wp2_with fail
    go_ret2
    exact ⟨rfl, (by repeat (first | exact Below.refl _ _ | assumption | refine Below.setCell ?_ (by first | (simp; done) | (simp; omega) | omega) _ | refine below_drewN ?_ _ | refine Below.drew ?_ | refine Below.alloc ?_ (by first | (simp; done) | (simp; omega) | omega) _))⟩
set_option maxRecDepth 100000 in
set_option maxHeartbeats 8000000 in
theorem takes_fn_true {A : Option Addr} {n k : Nat} {p : ProgD} {w : World} (hp : ProgAt w A n k p) (h : Int) (h0 : 0 ≤ h) (hm : h < 1099511627776) {i : Nat} {x : CodeD} (hx : p[i]? = some x) (hdf : 0 ≤ x.defaults) (hd : h < x.defaults) :
    Calls Try.prog 19 #[.slice A n k, .agg #[.int .i64 33, .int .i64 i], .int .i64 h] w (TkR w (h + 1 + x.free.length) 1) := by
  have hin : i < n := by rw [← hp.len]; exact (List.getElem?_eq_some_iff.1 hx).1
  have hmost := hp.most
  unfold Most at hmost
  obtain ⟨b, o, cs, rfl, hb, hca, hce⟩ := hp.at_ hx
  obtain ⟨B1, m1, d1, B2, m2, d2, B3, m3, d3, B4, m4, d4, B5, m5, d5, B6, m6, d6, rfl, -, -, r3, -, -, -, -, -, b3, -⟩ := hca.parts
  unfold Most at b3
  have e3 : w.cell? ⟨b, o + i * 11 + 3, none⟩ = some (.int .i64 x.defaults) := hce 3 _ rfl
  have e7 : w.cell? ⟨b, o + i * 11 + 7, none⟩ = some (.slice B3 m3 d3) := hce 7 _ rfl
  rw [show x.free.length = m3 from r3.1]
  have d0 : decide (h < x.defaults) = true := decide_eq_true hd
  generalize x.defaults = de at *
  clear hca hce hx hp r3
  cases hq : decide (h < (i : Int))
  all_goals
    go_enter Try.func19, Try.ntmps19
    go_wp2_with fail
    go_ret2
    exact ⟨rfl, (by repeat (first | exact Below.refl _ _ | assumption | refine Below.setCell ?_ (by first | (simp; done) | (simp; omega) | omega) _ | refine below_drewN ?_ _ | refine Below.drew ?_ | refine Below.alloc ?_ (by first | (simp; done) | (simp; omega) | omega) _))⟩
set_option maxRecDepth 100000 in
set_option maxHeartbeats 8000000 in
theorem takes_fn_false {A : Option Addr} {n k : Nat} {p : ProgD} {w : World} (hp : ProgAt w A n k p) (h : Int) (h0 : 0 ≤ h) (hm : h < 1099511627776) {i : Nat} {x : CodeD} (hx : p[i]? = some x) (hdf : 0 ≤ x.defaults) (hd : ¬ h < x.defaults) :
    Calls Try.prog 19 #[.slice A n k, .agg #[.int .i64 33, .int .i64 i], .int .i64 h] w (TkR w (x.defaults + x.free.length) 1) := by
  have hin : i < n := by rw [← hp.len]; exact (List.getElem?_eq_some_iff.1 hx).1
  have hmost := hp.most
  unfold Most at hmost
  obtain ⟨b, o, cs, rfl, hb, hca, hce⟩ := hp.at_ hx
  obtain ⟨B1, m1, d1, B2, m2, d2, B3, m3, d3, B4, m4, d4, B5, m5, d5, B6, m6, d6, rfl, -, -, r3, -, -, -, -, -, b3, -⟩ := hca.parts
  unfold Most at b3
  have e3 : w.cell? ⟨b, o + i * 11 + 3, none⟩ = some (.int .i64 x.defaults) := hce 3 _ rfl
  have e7 : w.cell? ⟨b, o + i * 11 + 7, none⟩ = some (.slice B3 m3 d3) := hce 7 _ rfl
  rw [show x.free.length = m3 from r3.1]
  have d0 : decide (h < x.defaults) = false := decide_eq_false hd
  generalize x.defaults = de at *
  clear hca hce hx hp r3
  cases hq : decide (h < (i : Int))
  all_goals
    go_enter Try.func19, Try.ntmps19
    go_wp2_with fail
    go_ret2
    exact ⟨rfl, (by repeat (first | exact Below.refl _ _ | assumption | refine Below.setCell ?_ (by first | (simp; done) | (simp; omega) | omega) _ | refine below_drewN ?_ _ | refine Below.drew ?_ | refine Below.alloc ?_ (by first | (simp; done) | (simp; omega) | omega) _))⟩
set_option maxRecDepth 100000 in
set_option maxHeartbeats 8000000 in
theorem takes_bd_any {A : Option Addr} {n k : Nat} {p : ProgD} {w : World} (hp : ProgAt w A n k p) (h : Int) (h0 : 0 ≤ h) (hm : h < 1099511627776) {i : Nat} {x : CodeD} (hx : p[i]? = some x) :
    Calls Try.prog 19 #[.slice A n k, .agg #[.int .i64 34, .int .i64 i], .int .i64 h] w (TkR w (x.free.length) 1) := by
  have hin : i < n := by rw [← hp.len]; exact (List.getElem?_eq_some_iff.1 hx).1
  have hmost := hp.most
  unfold Most at hmost
  obtain ⟨b, o, cs, rfl, hb, hca, hce⟩ := hp.at_ hx
  obtain ⟨B1, m1, d1, B2, m2, d2, B3, m3, d3, B4, m4, d4, B5, m5, d5, B6, m6, d6, rfl, -, -, r3, -, -, -, -, -, b3, -⟩ := hca.parts
  unfold Most at b3
  have e3 : w.cell? ⟨b, o + i * 11 + 3, none⟩ = some (.int .i64 x.defaults) := hce 3 _ rfl
  have e7 : w.cell? ⟨b, o + i * 11 + 7, none⟩ = some (.slice B3 m3 d3) := hce 7 _ rfl
  rw [show x.free.length = m3 from r3.1]
  skip
  clear hca hce hx hp r3
  cases hq : decide (h < (i : Int))
  all_goals
    go_enter Try.func19, Try.ntmps19
    go_wp2_with fail
    go_ret2
    exact ⟨rfl, (by repeat (first | exact Below.refl _ _ | assumption | refine Below.setCell ?_ (by first | (simp; done) | (simp; omega) | omega) _ | refine below_drewN ?_ _ | refine Below.drew ?_ | refine Below.alloc ?_ (by first | (simp; done) | (simp; omega) | omega) _))⟩

theorem may_of {p : ProgD} {c : CodeD} {op a : Int} {kd : Kd} (h : wrongE p c (op, a) = 0) (hk : (effOf op).map (·.1) = some kd) : kd.may p c a = true := by
  obtain ⟨kd', tk, lv, he, hm, _⟩ := right_parts h
  rw [he] at hk
  obtain rfl : kd' = kd := by simpa using hk
  exact hm
theorem count_pos {p : ProgD} {c : CodeD} {op a : Int} {kd : Kd} (h : wrongE p c (op, a) = 0) (hk : (effOf op).map (·.1) = some kd) (e : kd = .count) : 0 ≤ a := by
  subst e
  simpa [Kd.may] using may_of h hk

set_option maxHeartbeats 4000000 in
theorem takes_any {A : Option Addr} {n k : Nat} {p : ProgD} {c : CodeD} {w : World} (hp : ProgAt w A n k p) {op a h : Int} (hx : wrongE p c (op, a) = 0) (h0 : 0 ≤ h) (hm : h < 1099511627776) :
    Calls Try.prog 19 #[.slice A n k, .agg #[.int .i64 op, .int .i64 a], .int .i64 h] w (TkR w (takesE p (op, a) h).1 (takesE p (op, a) h).2) := by
  obtain ⟨kd, tk, lv, he, _, _⟩ := right_parts hx
  obtain ⟨_, _, l1, l2⟩ := effOf_le he
  clear he
  simp only at l1 l2
  rcases (by omega : op = 1 ∨ op = 2 ∨ op = 3 ∨ op = 4 ∨ op = 5 ∨ op = 6 ∨ op = 7 ∨ op = 8 ∨ op = 9 ∨ op = 10 ∨ op = 11 ∨ op = 12 ∨ op = 13 ∨ op = 14 ∨ op = 15 ∨ op = 16 ∨ op = 17 ∨ op = 18 ∨ op = 19 ∨ op = 20 ∨ op = 21 ∨ op = 22 ∨ op = 23 ∨ op = 24 ∨ op = 25 ∨ op = 26 ∨ op = 27 ∨ op = 28 ∨ op = 29 ∨ op = 30 ∨ op = 31 ∨ op = 32 ∨ op = 33 ∨ op = 34 ∨ op = 35 ∨ op = 36 ∨ op = 37 ∨ op = 38 ∨ op = 39 ∨ op = 40 ∨ op = 41 ∨ op = 42 ∨ op = 43 ∨ op = 44 ∨ op = 45 ∨ op = 46 ∨ op = 47 ∨ op = 48 ∨ op = 49 ∨ op = 50 ∨ op = 51 ∨ op = 52 ∨ op = 53 ∨ op = 54 ∨ op = 55 ∨ op = 56) with rfl | rfl | rfl | rfl | rfl | rfl | rfl | rfl | rfl | rfl | rfl | rfl | rfl | rfl | rfl | rfl | rfl | rfl | rfl | rfl | rfl | rfl | rfl | rfl | rfl | rfl | rfl | rfl | rfl | rfl | rfl | rfl | rfl | rfl | rfl | rfl | rfl | rfl | rfl | rfl | rfl | rfl | rfl | rfl | rfl | rfl | rfl | rfl | rfl | rfl | rfl | rfl | rfl | rfl | rfl | rfl
  · exact takes_0_1 A n k a h h0 hm w (by omega)
  · exact takes_1_0 A n k a h h0 hm w (by omega)
  · exact takes_1_2 A n k a h h0 hm w (by omega)
  · exact takes_2_2 A n k a h h0 hm w (by omega)
  · exact takes_0_1 A n k a h h0 hm w (by omega)
  · exact takes_1_0 A n k a h h0 hm w (by omega)
  · exact takes_0_0 A n k a h h0 hm w (by omega)
  · exact takes_0_1 A n k a h h0 hm w (by omega)
  · exact takes_1_0 A n k a h h0 hm w (by omega)
  · exact takes_0_0 A n k a h h0 hm w (by omega)
  · exact takes_0_1 A n k a h h0 hm w (by omega)
  · exact takes_0_1 A n k a h h0 hm w (by omega)
  · exact takes_1_0 A n k a h h0 hm w (by omega)
  · exact takes_0_0 A n k a h h0 hm w (by omega)
  · exact takes_0_1 A n k a h h0 hm w (by omega)
  · exact takes_1_0 A n k a h h0 hm w (by omega)
  · exact takes_0_0 A n k a h h0 hm w (by omega)
  · exact takes_2_1 A n k a h h0 hm w (by omega)
  · exact takes_2_1 A n k a h h0 hm w (by omega)
  · exact takes_1_1 A n k a h h0 hm w (by omega)
  · exact takes_1_1 A n k a h h0 hm w (by omega)
  · have ha : 0 ≤ a := count_pos hx (kd := .count) rfl rfl
    by_cases hd : h < a
    · rw [show takesE p (22, a) h = (1 * (h + 1) + 0, 1) by simp [takesE, effOf, effs, Tk.takesR, capE, hd]]
      refine Calls.mono (takes_n1_true A n k a h h0 hm ha hd w (by omega)) fun e w' hr => ?_
      simpa using hr
    · rw [show takesE p (22, a) h = (1 * a + 0, 1) by simp [takesE, effOf, effs, Tk.takesR, capE, hd]]
      refine Calls.mono (takes_n1_false A n k a h h0 hm ha hd w (by omega)) fun e w' hr => ?_
      simpa using hr
  · have ha : 0 ≤ a := count_pos hx (kd := .count) rfl rfl
    by_cases hd : h < a
    · rw [show takesE p (23, a) h = (1 * (h + 1) + 0, 1) by simp [takesE, effOf, effs, Tk.takesR, capE, hd]]
      refine Calls.mono (takes_n1_true A n k a h h0 hm ha hd w (by omega)) fun e w' hr => ?_
      simpa using hr
    · rw [show takesE p (23, a) h = (1 * a + 0, 1) by simp [takesE, effOf, effs, Tk.takesR, capE, hd]]
      refine Calls.mono (takes_n1_false A n k a h h0 hm ha hd w (by omega)) fun e w' hr => ?_
      simpa using hr
  · have ha : 0 ≤ a := count_pos hx (kd := .count) rfl rfl
    by_cases hd : h < a
    · rw [show takesE p (24, a) h = (2 * (h + 1) + 0, 1) by simp [takesE, effOf, effs, Tk.takesR, capE, hd]]
      refine Calls.mono (takes_n2_true A n k a h h0 hm ha hd w (by omega)) fun e w' hr => ?_
      simpa using hr
    · rw [show takesE p (24, a) h = (2 * a + 0, 1) by simp [takesE, effOf, effs, Tk.takesR, capE, hd]]
      refine Calls.mono (takes_n2_false A n k a h h0 hm ha hd w (by omega)) fun e w' hr => ?_
      simpa using hr
  · exact takes_1_1 A n k a h h0 hm w (by omega)
  · exact takes_2_0 A n k a h h0 hm w (by omega)
  · exact takes_1_0 A n k a h h0 hm w (by omega)
  · exact takes_2_1 A n k a h h0 hm w (by omega)
  · exact takes_3_0 A n k a h h0 hm w (by omega)
  · exact takes_2_0 A n k a h h0 hm w (by omega)
  · exact takes_3_1 A n k a h h0 hm w (by omega)
  · have ha : 0 ≤ a := count_pos hx (kd := .count) rfl rfl
    by_cases hd : h < a
    · rw [show takesE p (32, a) h = (1 * (h + 1) + 1, 1) by simp [takesE, effOf, effs, Tk.takesR, capE, hd]]
      refine Calls.mono (takes_n3_true A n k a h h0 hm ha hd w (by omega)) fun e w' hr => ?_
      simpa using hr
    · rw [show takesE p (32, a) h = (1 * a + 1, 1) by simp [takesE, effOf, effs, Tk.takesR, capE, hd]]
      refine Calls.mono (takes_n3_false A n k a h h0 hm ha hd w (by omega)) fun e w' hr => ?_
      simpa using hr
  · obtain ⟨i, x, rfl, hi, hc⟩ := func_at (show (codeAt p a 2).isSome = true from may_of hx (kd := .func) rfl)
    have hdf := codeAt_def hc
    by_cases hd : h < x.defaults
    · rw [show takesE p (33, (i : Int)) h = (h + 1 + x.free.length, 1) by simp [takesE, effOf, effs, Tk.takesR, hc, capE, hd]]
      exact takes_fn_true hp h h0 hm hi hdf hd
    · rw [show takesE p (33, (i : Int)) h = (x.defaults + x.free.length, 1) by simp [takesE, effOf, effs, Tk.takesR, hc, capE, hd]]
      exact takes_fn_false hp h h0 hm hi hdf hd
  · obtain ⟨i, x, rfl, hi, hc⟩ := func_at (show (codeAt p a 3).isSome = true from may_of hx (kd := .body) rfl)
    rw [show takesE p (34, (i : Int)) h = ((x.free.length : Int), 1) by simp [takesE, effOf, effs, Tk.takesR, hc]]
    exact takes_bd_any hp h h0 hm hi
  · exact takes_2_1 A n k a h h0 hm w (by omega)
  · exact takes_0_0 A n k a h h0 hm w (by omega)
  · exact takes_1_0 A n k a h h0 hm w (by omega)
  · exact takes_1_0 A n k a h h0 hm w (by omega)
  · exact takes_1_0 A n k a h h0 hm w (by omega)
  · exact takes_1_0 A n k a h h0 hm w (by omega)
  · exact takes_1_1 A n k a h h0 hm w (by omega)
  · exact takes_1_2 A n k a h h0 hm w (by omega)
  · exact takes_0_1 A n k a h h0 hm w (by omega)
  · exact takes_0_0 A n k a h h0 hm w (by omega)
  · exact takes_0_1 A n k a h h0 hm w (by omega)
  · exact takes_3_3 A n k a h h0 hm w (by omega)
  · exact takes_0_0 A n k a h h0 hm w (by omega)
  · exact takes_0_0 A n k a h h0 hm w (by omega)
  · exact takes_2_2 A n k a h h0 hm w (by omega)
  · exact takes_1_0 A n k a h h0 hm w (by omega)
  · exact takes_1_0 A n k a h h0 hm w (by omega)
  · exact takes_1_0 A n k a h h0 hm w (by omega)
  · exact takes_1_0 A n k a h h0 hm w (by omega)
  · exact takes_0_0 A n k a h h0 hm w (by omega)
  · exact takes_0_0 A n k a h h0 hm w (by omega)
  · exact takes_1_0 A n k a h h0 hm w (by omega)

end Go.Proofs.Ytgnejkmojfhfpaa
