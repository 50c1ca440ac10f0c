/- verify.wrong. -/
import Derived.Test.YtgnejkmojfhfpaaLku
namespace Go.Proofs.Ytgnejkmojfhfpaa
open Go.RowKit
set_option linter.unusedVariables false
set_option linter.unusedSimpArgs false

/-- it answers a number, and leaves all as it was -/
def SaysI (w : World) (n : Int) (e : Ending) (w' : World) : Prop := e = .returned (.int .i64 n) ∧ Below w.heap.size w w'
set_option maxRecDepth 100000 in
set_option maxHeartbeats 1000000 in
theorem wrong_none {w : World} {p : ProgD} {c : CodeD} {us : List Value} {g : Nat} (h : UnitAt w p c us) (hg : IsEff w g) {op a : Int} (he : effOf op = none) :
    Calls Try.prog 22 #[.agg us.toArray, .map (some g), .agg #[.int .i64 op, .int .i64 a]] w (SaysI w 50) := by
  have hb : Below w.heap.size w ((w.alloc (.cells us.toArray 58)).alloc (.cells #[.int .i64 op, .int .i64 a] 43)) := (by repeat (first | exact Below.refl _ _ | assumption | refine Below.setCell ?_ (by first | (simp; done) | (simp; omega) | omega) _ | refine below_drewN ?_ _ | refine Below.drew ?_ | refine Below.alloc ?_ (by first | (simp; done) | (simp; omega) | omega) _))
  have hlk := look_none hg he (hb.block g hg.lt)
  obtain ⟨A, n, kk, cs, rfl, hp, hc⟩ := h.parts
  obtain ⟨A1, n1, c1, A2, n2, c2, A3, n3, c3, A4, n4, c4, A5, n5, c5, A6, n6, c6, rfl, r1, r2, r3, r4, r5, r6, m1, m2, m3, m4, m5, m6⟩ := hc.parts
  clear hb r1 r2 r3 r4 r5 r6 m1 m2 m3 m4 m5 m6 hp hc h hg he
  go_enter Try.func22, Try.ntmps22
  go_wp2_with fail
  go_ret
  exact ⟨rfl, (by repeat (first | exact Below.refl _ _ | assumption | refine Below.setCell ?_ (by first | (simp; done) | (simp; omega) | omega) _ | refine below_drewN ?_ _ | refine Below.drew ?_ | refine Below.alloc ?_ (by first | (simp; done) | (simp; omega) | omega) _))⟩
set_option maxRecDepth 100000 in
set_option maxHeartbeats 2000000 in
theorem wrong_consts {w : World} {p : ProgD} {c : CodeD} {us : List Value} {g : Nat} (h : UnitAt w p c us) {op a lv : Int} {vt : Value} (hvt : IsFn vt) {b : Nat} (hb : Blk w b 91 #[.func (.func 43) #[] #[]])
    (hlk : ∀ w', Below w.heap.size w w' → (Instr.lookup 60 (.map (some g)) (.int .i64 op) true).run Try.prog w' = .ok (.tuple #[.agg #[.func (.func 40) #[] #[.pointer (some ⟨b, 0, none⟩)], vt, .int .i64 lv], .bool true]) w') :
    Calls Try.prog 22 #[.agg us.toArray, .map (some g), .agg #[.int .i64 op, .int .i64 a]] w (SaysI w (if Kd.may p c .consts a = false then 53 else if jumpsB op = true ∧ (c.ins.length : Int) ≤ a then 51 else 0)) := by
  have hb2 : Below w.heap.size w ((w.alloc (.cells us.toArray 58)).alloc (.cells #[.int .i64 op, .int .i64 a] 43)) := (by repeat (first | exact Below.refl _ _ | assumption | refine Below.setCell ?_ (by first | (simp; done) | (simp; omega) | omega) _ | refine below_drewN ?_ _ | refine Below.drew ?_ | refine Below.alloc ?_ (by first | (simp; done) | (simp; omega) | omega) _))
  have hlk := hlk _ hb2
  have KM : Hid (∀ w', Below w.heap.size w w' → Calls Try.prog 40 #[.agg us.toArray, .int .i64 a, .pointer (some ⟨b, 0, none⟩)] w' fun e w'' => e = .returned (.bool (Kd.may p c .consts a)) ∧ Below w'.heap.size w' w'') := Lib.hid fun w' hw => consts_may (h.new hw) (hb.new' hw) a
  obtain ⟨f2, x2, y2, rfl⟩ := hvt
  obtain ⟨A, n, kk, cs, rfl, hp, hc⟩ := h.parts
  obtain ⟨A1, n1, c1, A2, n2, c2, A3, n3, c3, A4, n4, c4, A5, n5, c5, A6, n6, c6, rfl, r1, r2, r3, r4, r5, r6, m1, m2, m3, m4, m5, m6⟩ := hc.parts
  rw [r6.1]
  generalize Kd.may p c .consts a = m at *
  clear hb2 r1 r2 r3 r4 r5 r6 m1 m2 m3 m4 m5 m6 hp hc h hb
  cases m with
  | false =>
    rw [if_pos rfl]
    go_enter Try.func22, Try.ntmps22
    go_wp2_with ((with_reducible refine (KM.out _ (by exact (by repeat (first | exact Below.refl _ _ | assumption | refine Below.setCell ?_ (by first | (simp; done) | (simp; omega) | omega) _ | refine below_drewN ?_ _ | refine Below.drew ?_ | refine Below.alloc ?_ (by first | (simp; done) | (simp; omega) | omega) _)))).mono ?_); rintro e w2 ⟨rfl, hw2⟩; have HW2 := Lib.hid hw2; clear hw2)
    go_ret
    exact ⟨rfl, Below.trans (by exact (by repeat (first | exact Below.refl _ _ | assumption | refine Below.setCell ?_ (by first | (simp; done) | (simp; omega) | omega) _ | refine below_drewN ?_ _ | refine Below.drew ?_ | refine Below.alloc ?_ (by first | (simp; done) | (simp; omega) | omega) _))) (HW2.out.mono (by simp; omega))⟩
  | true =>
    rw [if_neg (by decide)]
    cases hj : jumpsB op with
    | false =>
      have HJ := Lib.hid hj
      rw [if_neg (by simp)]
      clear hj
      go_enter Try.func22, Try.ntmps22
      go_wp2_with (first
        | ((with_reducible refine (KM.out _ (by exact (by repeat (first | exact Below.refl _ _ | assumption | refine Below.setCell ?_ (by first | (simp; done) | (simp; omega) | omega) _ | refine below_drewN ?_ _ | refine Below.drew ?_ | refine Below.alloc ?_ (by first | (simp; done) | (simp; omega) | omega) _)))).mono ?_); rintro e w2 ⟨rfl, hw2⟩; have HW2 := Lib.hid hw2; obtain ⟨hc2, hf2⟩ := bcell hw2; have hz2 := hw2.size; simp at hz2; clear hw2)
        | ((with_reducible refine (jumps_any op _).mono ?_); rintro e w3 ⟨rfl, rfl⟩; rw [HJ.out]))
      go_ret
      exact ⟨rfl, Below.trans (by exact (by repeat (first | exact Below.refl _ _ | assumption | refine Below.setCell ?_ (by first | (simp; done) | (simp; omega) | omega) _ | refine below_drewN ?_ _ | refine Below.drew ?_ | refine Below.alloc ?_ (by first | (simp; done) | (simp; omega) | omega) _))) (HW2.out.mono (by simp; omega))⟩
    | true =>
      have HJ := Lib.hid hj
      clear hj
      by_cases hle : (n6 : Int) ≤ a
      · rw [if_pos ⟨rfl, hle⟩]
        go_enter Try.func22, Try.ntmps22
        go_wp2_with (first
          | ((with_reducible refine (KM.out _ (by exact (by repeat (first | exact Below.refl _ _ | assumption | refine Below.setCell ?_ (by first | (simp; done) | (simp; omega) | omega) _ | refine below_drewN ?_ _ | refine Below.drew ?_ | refine Below.alloc ?_ (by first | (simp; done) | (simp; omega) | omega) _)))).mono ?_); rintro e w2 ⟨rfl, hw2⟩; have HW2 := Lib.hid hw2; obtain ⟨hc2, hf2⟩ := bcell hw2; have hz2 := hw2.size; simp at hz2; clear hw2)
          | ((with_reducible refine (jumps_any op _).mono ?_); rintro e w3 ⟨rfl, rfl⟩; rw [HJ.out]))
        go_ret
        exact ⟨rfl, Below.trans (by exact (by repeat (first | exact Below.refl _ _ | assumption | refine Below.setCell ?_ (by first | (simp; done) | (simp; omega) | omega) _ | refine below_drewN ?_ _ | refine Below.drew ?_ | refine Below.alloc ?_ (by first | (simp; done) | (simp; omega) | omega) _))) (HW2.out.mono (by simp; omega))⟩
      · rw [if_neg (fun h => hle h.2)]
        have d1 : decide ((n6 : Int) ≤ a) = false := decide_eq_false hle
        go_enter Try.func22, Try.ntmps22
        go_wp2_with (first
          | ((with_reducible refine (KM.out _ (by exact (by repeat (first | exact Below.refl _ _ | assumption | refine Below.setCell ?_ (by first | (simp; done) | (simp; omega) | omega) _ | refine below_drewN ?_ _ | refine Below.drew ?_ | refine Below.alloc ?_ (by first | (simp; done) | (simp; omega) | omega) _)))).mono ?_); rintro e w2 ⟨rfl, hw2⟩; have HW2 := Lib.hid hw2; obtain ⟨hc2, hf2⟩ := bcell hw2; have hz2 := hw2.size; simp at hz2; clear hw2)
          | ((with_reducible refine (jumps_any op _).mono ?_); rintro e w3 ⟨rfl, rfl⟩; rw [HJ.out]))
        go_ret
        exact ⟨rfl, Below.trans (by exact (by repeat (first | exact Below.refl _ _ | assumption | refine Below.setCell ?_ (by first | (simp; done) | (simp; omega) | omega) _ | refine below_drewN ?_ _ | refine Below.drew ?_ | refine Below.alloc ?_ (by first | (simp; done) | (simp; omega) | omega) _))) (HW2.out.mono (by simp; omega))⟩
set_option maxRecDepth 100000 in
set_option maxHeartbeats 2000000 in
theorem wrong_locals {w : World} {p : ProgD} {c : CodeD} {us : List Value} {g : Nat} (h : UnitAt w p c us) {op a lv : Int} {vt : Value} (hvt : IsFn vt) {b : Nat} (hb : Blk w b 91 #[.func (.func 44) #[] #[]])
    (hlk : ∀ w', Below w.heap.size w w' → (Instr.lookup 60 (.map (some g)) (.int .i64 op) true).run Try.prog w' = .ok (.tuple #[.agg #[.func (.func 40) #[] #[.pointer (some ⟨b, 0, none⟩)], vt, .int .i64 lv], .bool true]) w') :
    Calls Try.prog 22 #[.agg us.toArray, .map (some g), .agg #[.int .i64 op, .int .i64 a]] w (SaysI w (if Kd.may p c .locals a = false then 53 else if jumpsB op = true ∧ (c.ins.length : Int) ≤ a then 51 else 0)) := by
  have hb2 : Below w.heap.size w ((w.alloc (.cells us.toArray 58)).alloc (.cells #[.int .i64 op, .int .i64 a] 43)) := (by repeat (first | exact Below.refl _ _ | assumption | refine Below.setCell ?_ (by first | (simp; done) | (simp; omega) | omega) _ | refine below_drewN ?_ _ | refine Below.drew ?_ | refine Below.alloc ?_ (by first | (simp; done) | (simp; omega) | omega) _))
  have hlk := hlk _ hb2
  have KM : Hid (∀ w', Below w.heap.size w w' → Calls Try.prog 40 #[.agg us.toArray, .int .i64 a, .pointer (some ⟨b, 0, none⟩)] w' fun e w'' => e = .returned (.bool (Kd.may p c .locals a)) ∧ Below w'.heap.size w' w'') := Lib.hid fun w' hw => locals_may (h.new hw) (hb.new' hw) a
  obtain ⟨f2, x2, y2, rfl⟩ := hvt
  obtain ⟨A, n, kk, cs, rfl, hp, hc⟩ := h.parts
  obtain ⟨A1, n1, c1, A2, n2, c2, A3, n3, c3, A4, n4, c4, A5, n5, c5, A6, n6, c6, rfl, r1, r2, r3, r4, r5, r6, m1, m2, m3, m4, m5, m6⟩ := hc.parts
  rw [r6.1]
  generalize Kd.may p c .locals a = m at *
  clear hb2 r1 r2 r3 r4 r5 r6 m1 m2 m3 m4 m5 m6 hp hc h hb
  cases m with
  | false =>
    rw [if_pos rfl]
    go_enter Try.func22, Try.ntmps22
    go_wp2_with ((with_reducible refine (KM.out _ (by exact (by repeat (first | exact Below.refl _ _ | assumption | refine Below.setCell ?_ (by first | (simp; done) | (simp; omega) | omega) _ | refine below_drewN ?_ _ | refine Below.drew ?_ | refine Below.alloc ?_ (by first | (simp; done) | (simp; omega) | omega) _)))).mono ?_); rintro e w2 ⟨rfl, hw2⟩; have HW2 := Lib.hid hw2; clear hw2)
    go_ret
    exact ⟨rfl, Below.trans (by exact (by repeat (first | exact Below.refl _ _ | assumption | refine Below.setCell ?_ (by first | (simp; done) | (simp; omega) | omega) _ | refine below_drewN ?_ _ | refine Below.drew ?_ | refine Below.alloc ?_ (by first | (simp; done) | (simp; omega) | omega) _))) (HW2.out.mono (by simp; omega))⟩
  | true =>
    rw [if_neg (by decide)]
    cases hj : jumpsB op with
    | false =>
      have HJ := Lib.hid hj
      rw [if_neg (by simp)]
      clear hj
      go_enter Try.func22, Try.ntmps22
      go_wp2_with (first
        | ((with_reducible refine (KM.out _ (by exact (by repeat (first | exact Below.refl _ _ | assumption | refine Below.setCell ?_ (by first | (simp; done) | (simp; omega) | omega) _ | refine below_drewN ?_ _ | refine Below.drew ?_ | refine Below.alloc ?_ (by first | (simp; done) | (simp; omega) | omega) _)))).mono ?_); rintro e w2 ⟨rfl, hw2⟩; have HW2 := Lib.hid hw2; obtain ⟨hc2, hf2⟩ := bcell hw2; have hz2 := hw2.size; simp at hz2; clear hw2)
        | ((with_reducible refine (jumps_any op _).mono ?_); rintro e w3 ⟨rfl, rfl⟩; rw [HJ.out]))
      go_ret
      exact ⟨rfl, Below.trans (by exact (by repeat (first | exact Below.refl _ _ | assumption | refine Below.setCell ?_ (by first | (simp; done) | (simp; omega) | omega) _ | refine below_drewN ?_ _ | refine Below.drew ?_ | refine Below.alloc ?_ (by first | (simp; done) | (simp; omega) | omega) _))) (HW2.out.mono (by simp; omega))⟩
    | true =>
      have HJ := Lib.hid hj
      clear hj
      by_cases hle : (n6 : Int) ≤ a
      · rw [if_pos ⟨rfl, hle⟩]
        go_enter Try.func22, Try.ntmps22
        go_wp2_with (first
          | ((with_reducible refine (KM.out _ (by exact (by repeat (first | exact Below.refl _ _ | assumption | refine Below.setCell ?_ (by first | (simp; done) | (simp; omega) | omega) _ | refine below_drewN ?_ _ | refine Below.drew ?_ | refine Below.alloc ?_ (by first | (simp; done) | (simp; omega) | omega) _)))).mono ?_); rintro e w2 ⟨rfl, hw2⟩; have HW2 := Lib.hid hw2; obtain ⟨hc2, hf2⟩ := bcell hw2; have hz2 := hw2.size; simp at hz2; clear hw2)
          | ((with_reducible refine (jumps_any op _).mono ?_); rintro e w3 ⟨rfl, rfl⟩; rw [HJ.out]))
        go_ret
        exact ⟨rfl, Below.trans (by exact (by repeat (first | exact Below.refl _ _ | assumption | refine Below.setCell ?_ (by first | (simp; done) | (simp; omega) | omega) _ | refine below_drewN ?_ _ | refine Below.drew ?_ | refine Below.alloc ?_ (by first | (simp; done) | (simp; omega) | omega) _))) (HW2.out.mono (by simp; omega))⟩
      · rw [if_neg (fun h => hle h.2)]
        have d1 : decide ((n6 : Int) ≤ a) = false := decide_eq_false hle
        go_enter Try.func22, Try.ntmps22
        go_wp2_with (first
          | ((with_reducible refine (KM.out _ (by exact (by repeat (first | exact Below.refl _ _ | assumption | refine Below.setCell ?_ (by first | (simp; done) | (simp; omega) | omega) _ | refine below_drewN ?_ _ | refine Below.drew ?_ | refine Below.alloc ?_ (by first | (simp; done) | (simp; omega) | omega) _)))).mono ?_); rintro e w2 ⟨rfl, hw2⟩; have HW2 := Lib.hid hw2; obtain ⟨hc2, hf2⟩ := bcell hw2; have hz2 := hw2.size; simp at hz2; clear hw2)
          | ((with_reducible refine (jumps_any op _).mono ?_); rintro e w3 ⟨rfl, rfl⟩; rw [HJ.out]))
        go_ret
        exact ⟨rfl, Below.trans (by exact (by repeat (first | exact Below.refl _ _ | assumption | refine Below.setCell ?_ (by first | (simp; done) | (simp; omega) | omega) _ | refine below_drewN ?_ _ | refine Below.drew ?_ | refine Below.alloc ?_ (by first | (simp; done) | (simp; omega) | omega) _))) (HW2.out.mono (by simp; omega))⟩
set_option maxRecDepth 100000 in
set_option maxHeartbeats 2000000 in
theorem wrong_cells {w : World} {p : ProgD} {c : CodeD} {us : List Value} {g : Nat} (h : UnitAt w p c us) {op a lv : Int} {vt : Value} (hvt : IsFn vt) {b : Nat} (hb : Blk w b 91 #[.func (.func 45) #[] #[]])
    (hlk : ∀ w', Below w.heap.size w w' → (Instr.lookup 60 (.map (some g)) (.int .i64 op) true).run Try.prog w' = .ok (.tuple #[.agg #[.func (.func 40) #[] #[.pointer (some ⟨b, 0, none⟩)], vt, .int .i64 lv], .bool true]) w') :
    Calls Try.prog 22 #[.agg us.toArray, .map (some g), .agg #[.int .i64 op, .int .i64 a]] w (SaysI w (if Kd.may p c .cells a = false then 53 else if jumpsB op = true ∧ (c.ins.length : Int) ≤ a then 51 else 0)) := by
  have hb2 : Below w.heap.size w ((w.alloc (.cells us.toArray 58)).alloc (.cells #[.int .i64 op, .int .i64 a] 43)) := (by repeat (first | exact Below.refl _ _ | assumption | refine Below.setCell ?_ (by first | (simp; done) | (simp; omega) | omega) _ | refine below_drewN ?_ _ | refine Below.drew ?_ | refine Below.alloc ?_ (by first | (simp; done) | (simp; omega) | omega) _))
  have hlk := hlk _ hb2
  have KM : Hid (∀ w', Below w.heap.size w w' → Calls Try.prog 40 #[.agg us.toArray, .int .i64 a, .pointer (some ⟨b, 0, none⟩)] w' fun e w'' => e = .returned (.bool (Kd.may p c .cells a)) ∧ Below w'.heap.size w' w'') := Lib.hid fun w' hw => cells_may (h.new hw) (hb.new' hw) a
  obtain ⟨f2, x2, y2, rfl⟩ := hvt
  obtain ⟨A, n, kk, cs, rfl, hp, hc⟩ := h.parts
  obtain ⟨A1, n1, c1, A2, n2, c2, A3, n3, c3, A4, n4, c4, A5, n5, c5, A6, n6, c6, rfl, r1, r2, r3, r4, r5, r6, m1, m2, m3, m4, m5, m6⟩ := hc.parts
  rw [r6.1]
  generalize Kd.may p c .cells a = m at *
  clear hb2 r1 r2 r3 r4 r5 r6 m1 m2 m3 m4 m5 m6 hp hc h hb
  cases m with
  | false =>
    rw [if_pos rfl]
    go_enter Try.func22, Try.ntmps22
    go_wp2_with ((with_reducible refine (KM.out _ (by exact (by repeat (first | exact Below.refl _ _ | assumption | refine Below.setCell ?_ (by first | (simp; done) | (simp; omega) | omega) _ | refine below_drewN ?_ _ | refine Below.drew ?_ | refine Below.alloc ?_ (by first | (simp; done) | (simp; omega) | omega) _)))).mono ?_); rintro e w2 ⟨rfl, hw2⟩; have HW2 := Lib.hid hw2; clear hw2)
    go_ret
    exact ⟨rfl, Below.trans (by exact (by repeat (first | exact Below.refl _ _ | assumption | refine Below.setCell ?_ (by first | (simp; done) | (simp; omega) | omega) _ | refine below_drewN ?_ _ | refine Below.drew ?_ | refine Below.alloc ?_ (by first | (simp; done) | (simp; omega) | omega) _))) (HW2.out.mono (by simp; omega))⟩
  | true =>
    rw [if_neg (by decide)]
    cases hj : jumpsB op with
    | false =>
      have HJ := Lib.hid hj
      rw [if_neg (by simp)]
      clear hj
      go_enter Try.func22, Try.ntmps22
      go_wp2_with (first
        | ((with_reducible refine (KM.out _ (by exact (by repeat (first | exact Below.refl _ _ | assumption | refine Below.setCell ?_ (by first | (simp; done) | (simp; omega) | omega) _ | refine below_drewN ?_ _ | refine Below.drew ?_ | refine Below.alloc ?_ (by first | (simp; done) | (simp; omega) | omega) _)))).mono ?_); rintro e w2 ⟨rfl, hw2⟩; have HW2 := Lib.hid hw2; obtain ⟨hc2, hf2⟩ := bcell hw2; have hz2 := hw2.size; simp at hz2; clear hw2)
        | ((with_reducible refine (jumps_any op _).mono ?_); rintro e w3 ⟨rfl, rfl⟩; rw [HJ.out]))
      go_ret
      exact ⟨rfl, Below.trans (by exact (by repeat (first | exact Below.refl _ _ | assumption | refine Below.setCell ?_ (by first | (simp; done) | (simp; omega) | omega) _ | refine below_drewN ?_ _ | refine Below.drew ?_ | refine Below.alloc ?_ (by first | (simp; done) | (simp; omega) | omega) _))) (HW2.out.mono (by simp; omega))⟩
    | true =>
      have HJ := Lib.hid hj
      clear hj
      by_cases hle : (n6 : Int) ≤ a
      · rw [if_pos ⟨rfl, hle⟩]
        go_enter Try.func22, Try.ntmps22
        go_wp2_with (first
          | ((with_reducible refine (KM.out _ (by exact (by repeat (first | exact Below.refl _ _ | assumption | refine Below.setCell ?_ (by first | (simp; done) | (simp; omega) | omega) _ | refine below_drewN ?_ _ | refine Below.drew ?_ | refine Below.alloc ?_ (by first | (simp; done) | (simp; omega) | omega) _)))).mono ?_); rintro e w2 ⟨rfl, hw2⟩; have HW2 := Lib.hid hw2; obtain ⟨hc2, hf2⟩ := bcell hw2; have hz2 := hw2.size; simp at hz2; clear hw2)
          | ((with_reducible refine (jumps_any op _).mono ?_); rintro e w3 ⟨rfl, rfl⟩; rw [HJ.out]))
        go_ret
        exact ⟨rfl, Below.trans (by exact (by repeat (first | exact Below.refl _ _ | assumption | refine Below.setCell ?_ (by first | (simp; done) | (simp; omega) | omega) _ | refine below_drewN ?_ _ | refine Below.drew ?_ | refine Below.alloc ?_ (by first | (simp; done) | (simp; omega) | omega) _))) (HW2.out.mono (by simp; omega))⟩
      · rw [if_neg (fun h => hle h.2)]
        have d1 : decide ((n6 : Int) ≤ a) = false := decide_eq_false hle
        go_enter Try.func22, Try.ntmps22
        go_wp2_with (first
          | ((with_reducible refine (KM.out _ (by exact (by repeat (first | exact Below.refl _ _ | assumption | refine Below.setCell ?_ (by first | (simp; done) | (simp; omega) | omega) _ | refine below_drewN ?_ _ | refine Below.drew ?_ | refine Below.alloc ?_ (by first | (simp; done) | (simp; omega) | omega) _)))).mono ?_); rintro e w2 ⟨rfl, hw2⟩; have HW2 := Lib.hid hw2; obtain ⟨hc2, hf2⟩ := bcell hw2; have hz2 := hw2.size; simp at hz2; clear hw2)
          | ((with_reducible refine (jumps_any op _).mono ?_); rintro e w3 ⟨rfl, rfl⟩; rw [HJ.out]))
        go_ret
        exact ⟨rfl, Below.trans (by exact (by repeat (first | exact Below.refl _ _ | assumption | refine Below.setCell ?_ (by first | (simp; done) | (simp; omega) | omega) _ | refine below_drewN ?_ _ | refine Below.drew ?_ | refine Below.alloc ?_ (by first | (simp; done) | (simp; omega) | omega) _))) (HW2.out.mono (by simp; omega))⟩
set_option maxRecDepth 100000 in
set_option maxHeartbeats 2000000 in
theorem wrong_names {w : World} {p : ProgD} {c : CodeD} {us : List Value} {g : Nat} (h : UnitAt w p c us) {op a lv : Int} {vt : Value} (hvt : IsFn vt) {b : Nat} (hb : Blk w b 91 #[.func (.func 46) #[] #[]])
    (hlk : ∀ w', Below w.heap.size w w' → (Instr.lookup 60 (.map (some g)) (.int .i64 op) true).run Try.prog w' = .ok (.tuple #[.agg #[.func (.func 40) #[] #[.pointer (some ⟨b, 0, none⟩)], vt, .int .i64 lv], .bool true]) w') :
    Calls Try.prog 22 #[.agg us.toArray, .map (some g), .agg #[.int .i64 op, .int .i64 a]] w (SaysI w (if Kd.may p c .names a = false then 53 else if jumpsB op = true ∧ (c.ins.length : Int) ≤ a then 51 else 0)) := by
  have hb2 : Below w.heap.size w ((w.alloc (.cells us.toArray 58)).alloc (.cells #[.int .i64 op, .int .i64 a] 43)) := (by repeat (first | exact Below.refl _ _ | assumption | refine Below.setCell ?_ (by first | (simp; done) | (simp; omega) | omega) _ | refine below_drewN ?_ _ | refine Below.drew ?_ | refine Below.alloc ?_ (by first | (simp; done) | (simp; omega) | omega) _))
  have hlk := hlk _ hb2
  have KM : Hid (∀ w', Below w.heap.size w w' → Calls Try.prog 40 #[.agg us.toArray, .int .i64 a, .pointer (some ⟨b, 0, none⟩)] w' fun e w'' => e = .returned (.bool (Kd.may p c .names a)) ∧ Below w'.heap.size w' w'') := Lib.hid fun w' hw => names_may (h.new hw) (hb.new' hw) a
  obtain ⟨f2, x2, y2, rfl⟩ := hvt
  obtain ⟨A, n, kk, cs, rfl, hp, hc⟩ := h.parts
  obtain ⟨A1, n1, c1, A2, n2, c2, A3, n3, c3, A4, n4, c4, A5, n5, c5, A6, n6, c6, rfl, r1, r2, r3, r4, r5, r6, m1, m2, m3, m4, m5, m6⟩ := hc.parts
  rw [r6.1]
  generalize Kd.may p c .names a = m at *
  clear hb2 r1 r2 r3 r4 r5 r6 m1 m2 m3 m4 m5 m6 hp hc h hb
  cases m with
  | false =>
    rw [if_pos rfl]
    go_enter Try.func22, Try.ntmps22
    go_wp2_with ((with_reducible refine (KM.out _ (by exact (by repeat (first | exact Below.refl _ _ | assumption | refine Below.setCell ?_ (by first | (simp; done) | (simp; omega) | omega) _ | refine below_drewN ?_ _ | refine Below.drew ?_ | refine Below.alloc ?_ (by first | (simp; done) | (simp; omega) | omega) _)))).mono ?_); rintro e w2 ⟨rfl, hw2⟩; have HW2 := Lib.hid hw2; clear hw2)
    go_ret
    exact ⟨rfl, Below.trans (by exact (by repeat (first | exact Below.refl _ _ | assumption | refine Below.setCell ?_ (by first | (simp; done) | (simp; omega) | omega) _ | refine below_drewN ?_ _ | refine Below.drew ?_ | refine Below.alloc ?_ (by first | (simp; done) | (simp; omega) | omega) _))) (HW2.out.mono (by simp; omega))⟩
  | true =>
    rw [if_neg (by decide)]
    cases hj : jumpsB op with
    | false =>
      have HJ := Lib.hid hj
      rw [if_neg (by simp)]
      clear hj
      go_enter Try.func22, Try.ntmps22
      go_wp2_with (first
        | ((with_reducible refine (KM.out _ (by exact (by repeat (first | exact Below.refl _ _ | assumption | refine Below.setCell ?_ (by first | (simp; done) | (simp; omega) | omega) _ | refine below_drewN ?_ _ | refine Below.drew ?_ | refine Below.alloc ?_ (by first | (simp; done) | (simp; omega) | omega) _)))).mono ?_); rintro e w2 ⟨rfl, hw2⟩; have HW2 := Lib.hid hw2; obtain ⟨hc2, hf2⟩ := bcell hw2; have hz2 := hw2.size; simp at hz2; clear hw2)
        | ((with_reducible refine (jumps_any op _).mono ?_); rintro e w3 ⟨rfl, rfl⟩; rw [HJ.out]))
      go_ret
      exact ⟨rfl, Below.trans (by exact (by repeat (first | exact Below.refl _ _ | assumption | refine Below.setCell ?_ (by first | (simp; done) | (simp; omega) | omega) _ | refine below_drewN ?_ _ | refine Below.drew ?_ | refine Below.alloc ?_ (by first | (simp; done) | (simp; omega) | omega) _))) (HW2.out.mono (by simp; omega))⟩
    | true =>
      have HJ := Lib.hid hj
      clear hj
      by_cases hle : (n6 : Int) ≤ a
      · rw [if_pos ⟨rfl, hle⟩]
        go_enter Try.func22, Try.ntmps22
        go_wp2_with (first
          | ((with_reducible refine (KM.out _ (by exact (by repeat (first | exact Below.refl _ _ | assumption | refine Below.setCell ?_ (by first | (simp; done) | (simp; omega) | omega) _ | refine below_drewN ?_ _ | refine Below.drew ?_ | refine Below.alloc ?_ (by first | (simp; done) | (simp; omega) | omega) _)))).mono ?_); rintro e w2 ⟨rfl, hw2⟩; have HW2 := Lib.hid hw2; obtain ⟨hc2, hf2⟩ := bcell hw2; have hz2 := hw2.size; simp at hz2; clear hw2)
          | ((with_reducible refine (jumps_any op _).mono ?_); rintro e w3 ⟨rfl, rfl⟩; rw [HJ.out]))
        go_ret
        exact ⟨rfl, Below.trans (by exact (by repeat (first | exact Below.refl _ _ | assumption | refine Below.setCell ?_ (by first | (simp; done) | (simp; omega) | omega) _ | refine below_drewN ?_ _ | refine Below.drew ?_ | refine Below.alloc ?_ (by first | (simp; done) | (simp; omega) | omega) _))) (HW2.out.mono (by simp; omega))⟩
      · rw [if_neg (fun h => hle h.2)]
        have d1 : decide ((n6 : Int) ≤ a) = false := decide_eq_false hle
        go_enter Try.func22, Try.ntmps22
        go_wp2_with (first
          | ((with_reducible refine (KM.out _ (by exact (by repeat (first | exact Below.refl _ _ | assumption | refine Below.setCell ?_ (by first | (simp; done) | (simp; omega) | omega) _ | refine below_drewN ?_ _ | refine Below.drew ?_ | refine Below.alloc ?_ (by first | (simp; done) | (simp; omega) | omega) _)))).mono ?_); rintro e w2 ⟨rfl, hw2⟩; have HW2 := Lib.hid hw2; obtain ⟨hc2, hf2⟩ := bcell hw2; have hz2 := hw2.size; simp at hz2; clear hw2)
          | ((with_reducible refine (jumps_any op _).mono ?_); rintro e w3 ⟨rfl, rfl⟩; rw [HJ.out]))
        go_ret
        exact ⟨rfl, Below.trans (by exact (by repeat (first | exact Below.refl _ _ | assumption | refine Below.setCell ?_ (by first | (simp; done) | (simp; omega) | omega) _ | refine below_drewN ?_ _ | refine Below.drew ?_ | refine Below.alloc ?_ (by first | (simp; done) | (simp; omega) | omega) _))) (HW2.out.mono (by simp; omega))⟩
set_option maxRecDepth 100000 in
set_option maxHeartbeats 2000000 in
theorem wrong_free {w : World} {p : ProgD} {c : CodeD} {us : List Value} {g : Nat} (h : UnitAt w p c us) {op a lv : Int} {vt : Value} (hvt : IsFn vt) 
    (hlk : ∀ w', Below w.heap.size w w' → (Instr.lookup 60 (.map (some g)) (.int .i64 op) true).run Try.prog w' = .ok (.tuple #[.agg #[.func (.func 41) #[] #[], vt, .int .i64 lv], .bool true]) w') :
    Calls Try.prog 22 #[.agg us.toArray, .map (some g), .agg #[.int .i64 op, .int .i64 a]] w (SaysI w (if Kd.may p c .free a = false then 53 else if jumpsB op = true ∧ (c.ins.length : Int) ≤ a then 51 else 0)) := by
  have hb2 : Below w.heap.size w ((w.alloc (.cells us.toArray 58)).alloc (.cells #[.int .i64 op, .int .i64 a] 43)) := (by repeat (first | exact Below.refl _ _ | assumption | refine Below.setCell ?_ (by first | (simp; done) | (simp; omega) | omega) _ | refine below_drewN ?_ _ | refine Below.drew ?_ | refine Below.alloc ?_ (by first | (simp; done) | (simp; omega) | omega) _))
  have hlk := hlk _ hb2
  have KM : Hid (∀ w', Below w.heap.size w w' → Calls Try.prog 41 #[.agg us.toArray, .int .i64 a] w' fun e w'' => e = .returned (.bool (Kd.may p c .free a)) ∧ Below w'.heap.size w' w'') := Lib.hid fun w' hw => free_may (h.new hw) a
  obtain ⟨f2, x2, y2, rfl⟩ := hvt
  obtain ⟨A, n, kk, cs, rfl, hp, hc⟩ := h.parts
  obtain ⟨A1, n1, c1, A2, n2, c2, A3, n3, c3, A4, n4, c4, A5, n5, c5, A6, n6, c6, rfl, r1, r2, r3, r4, r5, r6, m1, m2, m3, m4, m5, m6⟩ := hc.parts
  rw [r6.1]
  generalize Kd.may p c .free a = m at *
  clear hb2 r1 r2 r3 r4 r5 r6 m1 m2 m3 m4 m5 m6 hp hc h
  cases m with
  | false =>
    rw [if_pos rfl]
    go_enter Try.func22, Try.ntmps22
    go_wp2_with ((with_reducible refine (KM.out _ (by exact (by repeat (first | exact Below.refl _ _ | assumption | refine Below.setCell ?_ (by first | (simp; done) | (simp; omega) | omega) _ | refine below_drewN ?_ _ | refine Below.drew ?_ | refine Below.alloc ?_ (by first | (simp; done) | (simp; omega) | omega) _)))).mono ?_); rintro e w2 ⟨rfl, hw2⟩; have HW2 := Lib.hid hw2; clear hw2)
    go_ret
    exact ⟨rfl, Below.trans (by exact (by repeat (first | exact Below.refl _ _ | assumption | refine Below.setCell ?_ (by first | (simp; done) | (simp; omega) | omega) _ | refine below_drewN ?_ _ | refine Below.drew ?_ | refine Below.alloc ?_ (by first | (simp; done) | (simp; omega) | omega) _))) (HW2.out.mono (by simp; omega))⟩
  | true =>
    rw [if_neg (by decide)]
    cases hj : jumpsB op with
    | false =>
      have HJ := Lib.hid hj
      rw [if_neg (by simp)]
      clear hj
      go_enter Try.func22, Try.ntmps22
      go_wp2_with (first
        | ((with_reducible refine (KM.out _ (by exact (by repeat (first | exact Below.refl _ _ | assumption | refine Below.setCell ?_ (by first | (simp; done) | (simp; omega) | omega) _ | refine below_drewN ?_ _ | refine Below.drew ?_ | refine Below.alloc ?_ (by first | (simp; done) | (simp; omega) | omega) _)))).mono ?_); rintro e w2 ⟨rfl, hw2⟩; have HW2 := Lib.hid hw2; obtain ⟨hc2, hf2⟩ := bcell hw2; have hz2 := hw2.size; simp at hz2; clear hw2)
        | ((with_reducible refine (jumps_any op _).mono ?_); rintro e w3 ⟨rfl, rfl⟩; rw [HJ.out]))
      go_ret
      exact ⟨rfl, Below.trans (by exact (by repeat (first | exact Below.refl _ _ | assumption | refine Below.setCell ?_ (by first | (simp; done) | (simp; omega) | omega) _ | refine below_drewN ?_ _ | refine Below.drew ?_ | refine Below.alloc ?_ (by first | (simp; done) | (simp; omega) | omega) _))) (HW2.out.mono (by simp; omega))⟩
    | true =>
      have HJ := Lib.hid hj
      clear hj
      by_cases hle : (n6 : Int) ≤ a
      · rw [if_pos ⟨rfl, hle⟩]
        go_enter Try.func22, Try.ntmps22
        go_wp2_with (first
          | ((with_reducible refine (KM.out _ (by exact (by repeat (first | exact Below.refl _ _ | assumption | refine Below.setCell ?_ (by first | (simp; done) | (simp; omega) | omega) _ | refine below_drewN ?_ _ | refine Below.drew ?_ | refine Below.alloc ?_ (by first | (simp; done) | (simp; omega) | omega) _)))).mono ?_); rintro e w2 ⟨rfl, hw2⟩; have HW2 := Lib.hid hw2; obtain ⟨hc2, hf2⟩ := bcell hw2; have hz2 := hw2.size; simp at hz2; clear hw2)
          | ((with_reducible refine (jumps_any op _).mono ?_); rintro e w3 ⟨rfl, rfl⟩; rw [HJ.out]))
        go_ret
        exact ⟨rfl, Below.trans (by exact (by repeat (first | exact Below.refl _ _ | assumption | refine Below.setCell ?_ (by first | (simp; done) | (simp; omega) | omega) _ | refine below_drewN ?_ _ | refine Below.drew ?_ | refine Below.alloc ?_ (by first | (simp; done) | (simp; omega) | omega) _))) (HW2.out.mono (by simp; omega))⟩
      · rw [if_neg (fun h => hle h.2)]
        have d1 : decide ((n6 : Int) ≤ a) = false := decide_eq_false hle
        go_enter Try.func22, Try.ntmps22
        go_wp2_with (first
          | ((with_reducible refine (KM.out _ (by exact (by repeat (first | exact Below.refl _ _ | assumption | refine Below.setCell ?_ (by first | (simp; done) | (simp; omega) | omega) _ | refine below_drewN ?_ _ | refine Below.drew ?_ | refine Below.alloc ?_ (by first | (simp; done) | (simp; omega) | omega) _)))).mono ?_); rintro e w2 ⟨rfl, hw2⟩; have HW2 := Lib.hid hw2; obtain ⟨hc2, hf2⟩ := bcell hw2; have hz2 := hw2.size; simp at hz2; clear hw2)
          | ((with_reducible refine (jumps_any op _).mono ?_); rintro e w3 ⟨rfl, rfl⟩; rw [HJ.out]))
        go_ret
        exact ⟨rfl, Below.trans (by exact (by repeat (first | exact Below.refl _ _ | assumption | refine Below.setCell ?_ (by first | (simp; done) | (simp; omega) | omega) _ | refine below_drewN ?_ _ | refine Below.drew ?_ | refine Below.alloc ?_ (by first | (simp; done) | (simp; omega) | omega) _))) (HW2.out.mono (by simp; omega))⟩
set_option maxRecDepth 100000 in
set_option maxHeartbeats 2000000 in
theorem wrong_count {w : World} {p : ProgD} {c : CodeD} {us : List Value} {g : Nat} (h : UnitAt w p c us) {op a lv : Int} {vt : Value} (hvt : IsFn vt) 
    (hlk : ∀ w', Below w.heap.size w w' → (Instr.lookup 60 (.map (some g)) (.int .i64 op) true).run Try.prog w' = .ok (.tuple #[.agg #[.func (.func 42) #[] #[], vt, .int .i64 lv], .bool true]) w') :
    Calls Try.prog 22 #[.agg us.toArray, .map (some g), .agg #[.int .i64 op, .int .i64 a]] w (SaysI w (if Kd.may p c .count a = false then 53 else if jumpsB op = true ∧ (c.ins.length : Int) ≤ a then 51 else 0)) := by
  have hb2 : Below w.heap.size w ((w.alloc (.cells us.toArray 58)).alloc (.cells #[.int .i64 op, .int .i64 a] 43)) := (by repeat (first | exact Below.refl _ _ | assumption | refine Below.setCell ?_ (by first | (simp; done) | (simp; omega) | omega) _ | refine below_drewN ?_ _ | refine Below.drew ?_ | refine Below.alloc ?_ (by first | (simp; done) | (simp; omega) | omega) _))
  have hlk := hlk _ hb2
  have KM : Hid (∀ w', Below w.heap.size w w' → Calls Try.prog 42 #[.agg us.toArray, .int .i64 a] w' fun e w'' => e = .returned (.bool (Kd.may p c .count a)) ∧ Below w'.heap.size w' w'') := Lib.hid fun w' hw => count_may (h.new hw) a
  obtain ⟨f2, x2, y2, rfl⟩ := hvt
  obtain ⟨A, n, kk, cs, rfl, hp, hc⟩ := h.parts
  obtain ⟨A1, n1, c1, A2, n2, c2, A3, n3, c3, A4, n4, c4, A5, n5, c5, A6, n6, c6, rfl, r1, r2, r3, r4, r5, r6, m1, m2, m3, m4, m5, m6⟩ := hc.parts
  rw [r6.1]
  generalize Kd.may p c .count a = m at *
  clear hb2 r1 r2 r3 r4 r5 r6 m1 m2 m3 m4 m5 m6 hp hc h
  cases m with
  | false =>
    rw [if_pos rfl]
    go_enter Try.func22, Try.ntmps22
    go_wp2_with ((with_reducible refine (KM.out _ (by exact (by repeat (first | exact Below.refl _ _ | assumption | refine Below.setCell ?_ (by first | (simp; done) | (simp; omega) | omega) _ | refine below_drewN ?_ _ | refine Below.drew ?_ | refine Below.alloc ?_ (by first | (simp; done) | (simp; omega) | omega) _)))).mono ?_); rintro e w2 ⟨rfl, hw2⟩; have HW2 := Lib.hid hw2; clear hw2)
    go_ret
    exact ⟨rfl, Below.trans (by exact (by repeat (first | exact Below.refl _ _ | assumption | refine Below.setCell ?_ (by first | (simp; done) | (simp; omega) | omega) _ | refine below_drewN ?_ _ | refine Below.drew ?_ | refine Below.alloc ?_ (by first | (simp; done) | (simp; omega) | omega) _))) (HW2.out.mono (by simp; omega))⟩
  | true =>
    rw [if_neg (by decide)]
    cases hj : jumpsB op with
    | false =>
      have HJ := Lib.hid hj
      rw [if_neg (by simp)]
      clear hj
      go_enter Try.func22, Try.ntmps22
      go_wp2_with (first
        | ((with_reducible refine (KM.out _ (by exact (by repeat (first | exact Below.refl _ _ | assumption | refine Below.setCell ?_ (by first | (simp; done) | (simp; omega) | omega) _ | refine below_drewN ?_ _ | refine Below.drew ?_ | refine Below.alloc ?_ (by first | (simp; done) | (simp; omega) | omega) _)))).mono ?_); rintro e w2 ⟨rfl, hw2⟩; have HW2 := Lib.hid hw2; obtain ⟨hc2, hf2⟩ := bcell hw2; have hz2 := hw2.size; simp at hz2; clear hw2)
        | ((with_reducible refine (jumps_any op _).mono ?_); rintro e w3 ⟨rfl, rfl⟩; rw [HJ.out]))
      go_ret
      exact ⟨rfl, Below.trans (by exact (by repeat (first | exact Below.refl _ _ | assumption | refine Below.setCell ?_ (by first | (simp; done) | (simp; omega) | omega) _ | refine below_drewN ?_ _ | refine Below.drew ?_ | refine Below.alloc ?_ (by first | (simp; done) | (simp; omega) | omega) _))) (HW2.out.mono (by simp; omega))⟩
    | true =>
      have HJ := Lib.hid hj
      clear hj
      by_cases hle : (n6 : Int) ≤ a
      · rw [if_pos ⟨rfl, hle⟩]
        go_enter Try.func22, Try.ntmps22
        go_wp2_with (first
          | ((with_reducible refine (KM.out _ (by exact (by repeat (first | exact Below.refl _ _ | assumption | refine Below.setCell ?_ (by first | (simp; done) | (simp; omega) | omega) _ | refine below_drewN ?_ _ | refine Below.drew ?_ | refine Below.alloc ?_ (by first | (simp; done) | (simp; omega) | omega) _)))).mono ?_); rintro e w2 ⟨rfl, hw2⟩; have HW2 := Lib.hid hw2; obtain ⟨hc2, hf2⟩ := bcell hw2; have hz2 := hw2.size; simp at hz2; clear hw2)
          | ((with_reducible refine (jumps_any op _).mono ?_); rintro e w3 ⟨rfl, rfl⟩; rw [HJ.out]))
        go_ret
        exact ⟨rfl, Below.trans (by exact (by repeat (first | exact Below.refl _ _ | assumption | refine Below.setCell ?_ (by first | (simp; done) | (simp; omega) | omega) _ | refine below_drewN ?_ _ | refine Below.drew ?_ | refine Below.alloc ?_ (by first | (simp; done) | (simp; omega) | omega) _))) (HW2.out.mono (by simp; omega))⟩
      · rw [if_neg (fun h => hle h.2)]
        have d1 : decide ((n6 : Int) ≤ a) = false := decide_eq_false hle
        go_enter Try.func22, Try.ntmps22
        go_wp2_with (first
          | ((with_reducible refine (KM.out _ (by exact (by repeat (first | exact Below.refl _ _ | assumption | refine Below.setCell ?_ (by first | (simp; done) | (simp; omega) | omega) _ | refine below_drewN ?_ _ | refine Below.drew ?_ | refine Below.alloc ?_ (by first | (simp; done) | (simp; omega) | omega) _)))).mono ?_); rintro e w2 ⟨rfl, hw2⟩; have HW2 := Lib.hid hw2; obtain ⟨hc2, hf2⟩ := bcell hw2; have hz2 := hw2.size; simp at hz2; clear hw2)
          | ((with_reducible refine (jumps_any op _).mono ?_); rintro e w3 ⟨rfl, rfl⟩; rw [HJ.out]))
        go_ret
        exact ⟨rfl, Below.trans (by exact (by repeat (first | exact Below.refl _ _ | assumption | refine Below.setCell ?_ (by first | (simp; done) | (simp; omega) | omega) _ | refine below_drewN ?_ _ | refine Below.drew ?_ | refine Below.alloc ?_ (by first | (simp; done) | (simp; omega) | omega) _))) (HW2.out.mono (by simp; omega))⟩
set_option maxRecDepth 100000 in
set_option maxHeartbeats 2000000 in
theorem wrong_space {w : World} {p : ProgD} {c : CodeD} {us : List Value} {g : Nat} (h : UnitAt w p c us) {op a lv : Int} {vt : Value} (hvt : IsFn vt) {d b : Nat} (hd : Blk w d 73 #[.func (.func 40) #[] #[.pointer (some ⟨b, 0, none⟩)]]) (hb : Blk w b 91 #[.func (.func 46) #[] #[]])
    (hlk : ∀ w', Below w.heap.size w w' → (Instr.lookup 60 (.map (some g)) (.int .i64 op) true).run Try.prog w' = .ok (.tuple #[.agg #[.func (.func 47) #[] #[.pointer (some ⟨d, 0, none⟩)], vt, .int .i64 lv], .bool true]) w') :
    Calls Try.prog 22 #[.agg us.toArray, .map (some g), .agg #[.int .i64 op, .int .i64 a]] w (SaysI w (if Kd.may p c .space a = false then 53 else if jumpsB op = true ∧ (c.ins.length : Int) ≤ a then 51 else 0)) := by
  have hb2 : Below w.heap.size w ((w.alloc (.cells us.toArray 58)).alloc (.cells #[.int .i64 op, .int .i64 a] 43)) := (by repeat (first | exact Below.refl _ _ | assumption | refine Below.setCell ?_ (by first | (simp; done) | (simp; omega) | omega) _ | refine below_drewN ?_ _ | refine Below.drew ?_ | refine Below.alloc ?_ (by first | (simp; done) | (simp; omega) | omega) _))
  have hlk := hlk _ hb2
  have KM : Hid (∀ w', Below w.heap.size w w' → Calls Try.prog 47 #[.agg us.toArray, .int .i64 a, .pointer (some ⟨d, 0, none⟩)] w' fun e w'' => e = .returned (.bool (Kd.may p c .space a)) ∧ Below w'.heap.size w' w'') := Lib.hid fun w' hw => space_may (h.new hw) (hd.new' hw) (hb.new' hw) a
  obtain ⟨f2, x2, y2, rfl⟩ := hvt
  obtain ⟨A, n, kk, cs, rfl, hp, hc⟩ := h.parts
  obtain ⟨A1, n1, c1, A2, n2, c2, A3, n3, c3, A4, n4, c4, A5, n5, c5, A6, n6, c6, rfl, r1, r2, r3, r4, r5, r6, m1, m2, m3, m4, m5, m6⟩ := hc.parts
  rw [r6.1]
  generalize Kd.may p c .space a = m at *
  clear hb2 r1 r2 r3 r4 r5 r6 m1 m2 m3 m4 m5 m6 hp hc h hb hd
  cases m with
  | false =>
    rw [if_pos rfl]
    go_enter Try.func22, Try.ntmps22
    go_wp2_with ((with_reducible refine (KM.out _ (by exact (by repeat (first | exact Below.refl _ _ | assumption | refine Below.setCell ?_ (by first | (simp; done) | (simp; omega) | omega) _ | refine below_drewN ?_ _ | refine Below.drew ?_ | refine Below.alloc ?_ (by first | (simp; done) | (simp; omega) | omega) _)))).mono ?_); rintro e w2 ⟨rfl, hw2⟩; have HW2 := Lib.hid hw2; clear hw2)
    go_ret
    exact ⟨rfl, Below.trans (by exact (by repeat (first | exact Below.refl _ _ | assumption | refine Below.setCell ?_ (by first | (simp; done) | (simp; omega) | omega) _ | refine below_drewN ?_ _ | refine Below.drew ?_ | refine Below.alloc ?_ (by first | (simp; done) | (simp; omega) | omega) _))) (HW2.out.mono (by simp; omega))⟩
  | true =>
    rw [if_neg (by decide)]
    cases hj : jumpsB op with
    | false =>
      have HJ := Lib.hid hj
      rw [if_neg (by simp)]
      clear hj
      go_enter Try.func22, Try.ntmps22
      go_wp2_with (first
        | ((with_reducible refine (KM.out _ (by exact (by repeat (first | exact Below.refl _ _ | assumption | refine Below.setCell ?_ (by first | (simp; done) | (simp; omega) | omega) _ | refine below_drewN ?_ _ | refine Below.drew ?_ | refine Below.alloc ?_ (by first | (simp; done) | (simp; omega) | omega) _)))).mono ?_); rintro e w2 ⟨rfl, hw2⟩; have HW2 := Lib.hid hw2; obtain ⟨hc2, hf2⟩ := bcell hw2; have hz2 := hw2.size; simp at hz2; clear hw2)
        | ((with_reducible refine (jumps_any op _).mono ?_); rintro e w3 ⟨rfl, rfl⟩; rw [HJ.out]))
      go_ret
      exact ⟨rfl, Below.trans (by exact (by repeat (first | exact Below.refl _ _ | assumption | refine Below.setCell ?_ (by first | (simp; done) | (simp; omega) | omega) _ | refine below_drewN ?_ _ | refine Below.drew ?_ | refine Below.alloc ?_ (by first | (simp; done) | (simp; omega) | omega) _))) (HW2.out.mono (by simp; omega))⟩
    | true =>
      have HJ := Lib.hid hj
      clear hj
      by_cases hle : (n6 : Int) ≤ a
      · rw [if_pos ⟨rfl, hle⟩]
        go_enter Try.func22, Try.ntmps22
        go_wp2_with (first
          | ((with_reducible refine (KM.out _ (by exact (by repeat (first | exact Below.refl _ _ | assumption | refine Below.setCell ?_ (by first | (simp; done) | (simp; omega) | omega) _ | refine below_drewN ?_ _ | refine Below.drew ?_ | refine Below.alloc ?_ (by first | (simp; done) | (simp; omega) | omega) _)))).mono ?_); rintro e w2 ⟨rfl, hw2⟩; have HW2 := Lib.hid hw2; obtain ⟨hc2, hf2⟩ := bcell hw2; have hz2 := hw2.size; simp at hz2; clear hw2)
          | ((with_reducible refine (jumps_any op _).mono ?_); rintro e w3 ⟨rfl, rfl⟩; rw [HJ.out]))
        go_ret
        exact ⟨rfl, Below.trans (by exact (by repeat (first | exact Below.refl _ _ | assumption | refine Below.setCell ?_ (by first | (simp; done) | (simp; omega) | omega) _ | refine below_drewN ?_ _ | refine Below.drew ?_ | refine Below.alloc ?_ (by first | (simp; done) | (simp; omega) | omega) _))) (HW2.out.mono (by simp; omega))⟩
      · rw [if_neg (fun h => hle h.2)]
        have d1 : decide ((n6 : Int) ≤ a) = false := decide_eq_false hle
        go_enter Try.func22, Try.ntmps22
        go_wp2_with (first
          | ((with_reducible refine (KM.out _ (by exact (by repeat (first | exact Below.refl _ _ | assumption | refine Below.setCell ?_ (by first | (simp; done) | (simp; omega) | omega) _ | refine below_drewN ?_ _ | refine Below.drew ?_ | refine Below.alloc ?_ (by first | (simp; done) | (simp; omega) | omega) _)))).mono ?_); rintro e w2 ⟨rfl, hw2⟩; have HW2 := Lib.hid hw2; obtain ⟨hc2, hf2⟩ := bcell hw2; have hz2 := hw2.size; simp at hz2; clear hw2)
          | ((with_reducible refine (jumps_any op _).mono ?_); rintro e w3 ⟨rfl, rfl⟩; rw [HJ.out]))
        go_ret
        exact ⟨rfl, Below.trans (by exact (by repeat (first | exact Below.refl _ _ | assumption | refine Below.setCell ?_ (by first | (simp; done) | (simp; omega) | omega) _ | refine below_drewN ?_ _ | refine Below.drew ?_ | refine Below.alloc ?_ (by first | (simp; done) | (simp; omega) | omega) _))) (HW2.out.mono (by simp; omega))⟩
set_option maxRecDepth 100000 in
set_option maxHeartbeats 2000000 in
theorem wrong_func {w : World} {p : ProgD} {c : CodeD} {us : List Value} {g : Nat} (h : UnitAt w p c us) {op a lv : Int} {vt : Value} (hvt : IsFn vt) 
    (hlk : ∀ w', Below w.heap.size w w' → (Instr.lookup 60 (.map (some g)) (.int .i64 op) true).run Try.prog w' = .ok (.tuple #[.agg #[.func (.func 48) #[] #[], vt, .int .i64 lv], .bool true]) w') :
    Calls Try.prog 22 #[.agg us.toArray, .map (some g), .agg #[.int .i64 op, .int .i64 a]] w (SaysI w (if Kd.may p c .func a = false then 53 else if jumpsB op = true ∧ (c.ins.length : Int) ≤ a then 51 else 0)) := by
  have hb2 : Below w.heap.size w ((w.alloc (.cells us.toArray 58)).alloc (.cells #[.int .i64 op, .int .i64 a] 43)) := (by repeat (first | exact Below.refl _ _ | assumption | refine Below.setCell ?_ (by first | (simp; done) | (simp; omega) | omega) _ | refine below_drewN ?_ _ | refine Below.drew ?_ | refine Below.alloc ?_ (by first | (simp; done) | (simp; omega) | omega) _))
  have hlk := hlk _ hb2
  have KM : Hid (∀ w', Below w.heap.size w w' → Calls Try.prog 48 #[.agg us.toArray, .int .i64 a] w' fun e w'' => e = .returned (.bool (Kd.may p c .func a)) ∧ Below w'.heap.size w' w'') := Lib.hid fun w' hw => func_may (h.new hw) a
  obtain ⟨f2, x2, y2, rfl⟩ := hvt
  obtain ⟨A, n, kk, cs, rfl, hp, hc⟩ := h.parts
  obtain ⟨A1, n1, c1, A2, n2, c2, A3, n3, c3, A4, n4, c4, A5, n5, c5, A6, n6, c6, rfl, r1, r2, r3, r4, r5, r6, m1, m2, m3, m4, m5, m6⟩ := hc.parts
  rw [r6.1]
  generalize Kd.may p c .func a = m at *
  clear hb2 r1 r2 r3 r4 r5 r6 m1 m2 m3 m4 m5 m6 hp hc h
  cases m with
  | false =>
    rw [if_pos rfl]
    go_enter Try.func22, Try.ntmps22
    go_wp2_with ((with_reducible refine (KM.out _ (by exact (by repeat (first | exact Below.refl _ _ | assumption | refine Below.setCell ?_ (by first | (simp; done) | (simp; omega) | omega) _ | refine below_drewN ?_ _ | refine Below.drew ?_ | refine Below.alloc ?_ (by first | (simp; done) | (simp; omega) | omega) _)))).mono ?_); rintro e w2 ⟨rfl, hw2⟩; have HW2 := Lib.hid hw2; clear hw2)
    go_ret
    exact ⟨rfl, Below.trans (by exact (by repeat (first | exact Below.refl _ _ | assumption | refine Below.setCell ?_ (by first | (simp; done) | (simp; omega) | omega) _ | refine below_drewN ?_ _ | refine Below.drew ?_ | refine Below.alloc ?_ (by first | (simp; done) | (simp; omega) | omega) _))) (HW2.out.mono (by simp; omega))⟩
  | true =>
    rw [if_neg (by decide)]
    cases hj : jumpsB op with
    | false =>
      have HJ := Lib.hid hj
      rw [if_neg (by simp)]
      clear hj
      go_enter Try.func22, Try.ntmps22
      go_wp2_with (first
        | ((with_reducible refine (KM.out _ (by exact (by repeat (first | exact Below.refl _ _ | assumption | refine Below.setCell ?_ (by first | (simp; done) | (simp; omega) | omega) _ | refine below_drewN ?_ _ | refine Below.drew ?_ | refine Below.alloc ?_ (by first | (simp; done) | (simp; omega) | omega) _)))).mono ?_); rintro e w2 ⟨rfl, hw2⟩; have HW2 := Lib.hid hw2; obtain ⟨hc2, hf2⟩ := bcell hw2; have hz2 := hw2.size; simp at hz2; clear hw2)
        | ((with_reducible refine (jumps_any op _).mono ?_); rintro e w3 ⟨rfl, rfl⟩; rw [HJ.out]))
      go_ret
      exact ⟨rfl, Below.trans (by exact (by repeat (first | exact Below.refl _ _ | assumption | refine Below.setCell ?_ (by first | (simp; done) | (simp; omega) | omega) _ | refine below_drewN ?_ _ | refine Below.drew ?_ | refine Below.alloc ?_ (by first | (simp; done) | (simp; omega) | omega) _))) (HW2.out.mono (by simp; omega))⟩
    | true =>
      have HJ := Lib.hid hj
      clear hj
      by_cases hle : (n6 : Int) ≤ a
      · rw [if_pos ⟨rfl, hle⟩]
        go_enter Try.func22, Try.ntmps22
        go_wp2_with (first
          | ((with_reducible refine (KM.out _ (by exact (by repeat (first | exact Below.refl _ _ | assumption | refine Below.setCell ?_ (by first | (simp; done) | (simp; omega) | omega) _ | refine below_drewN ?_ _ | refine Below.drew ?_ | refine Below.alloc ?_ (by first | (simp; done) | (simp; omega) | omega) _)))).mono ?_); rintro e w2 ⟨rfl, hw2⟩; have HW2 := Lib.hid hw2; obtain ⟨hc2, hf2⟩ := bcell hw2; have hz2 := hw2.size; simp at hz2; clear hw2)
          | ((with_reducible refine (jumps_any op _).mono ?_); rintro e w3 ⟨rfl, rfl⟩; rw [HJ.out]))
        go_ret
        exact ⟨rfl, Below.trans (by exact (by repeat (first | exact Below.refl _ _ | assumption | refine Below.setCell ?_ (by first | (simp; done) | (simp; omega) | omega) _ | refine below_drewN ?_ _ | refine Below.drew ?_ | refine Below.alloc ?_ (by first | (simp; done) | (simp; omega) | omega) _))) (HW2.out.mono (by simp; omega))⟩
      · rw [if_neg (fun h => hle h.2)]
        have d1 : decide ((n6 : Int) ≤ a) = false := decide_eq_false hle
        go_enter Try.func22, Try.ntmps22
        go_wp2_with (first
          | ((with_reducible refine (KM.out _ (by exact (by repeat (first | exact Below.refl _ _ | assumption | refine Below.setCell ?_ (by first | (simp; done) | (simp; omega) | omega) _ | refine below_drewN ?_ _ | refine Below.drew ?_ | refine Below.alloc ?_ (by first | (simp; done) | (simp; omega) | omega) _)))).mono ?_); rintro e w2 ⟨rfl, hw2⟩; have HW2 := Lib.hid hw2; obtain ⟨hc2, hf2⟩ := bcell hw2; have hz2 := hw2.size; simp at hz2; clear hw2)
          | ((with_reducible refine (jumps_any op _).mono ?_); rintro e w3 ⟨rfl, rfl⟩; rw [HJ.out]))
        go_ret
        exact ⟨rfl, Below.trans (by exact (by repeat (first | exact Below.refl _ _ | assumption | refine Below.setCell ?_ (by first | (simp; done) | (simp; omega) | omega) _ | refine below_drewN ?_ _ | refine Below.drew ?_ | refine Below.alloc ?_ (by first | (simp; done) | (simp; omega) | omega) _))) (HW2.out.mono (by simp; omega))⟩
set_option maxRecDepth 100000 in
set_option maxHeartbeats 2000000 in
theorem wrong_body {w : World} {p : ProgD} {c : CodeD} {us : List Value} {g : Nat} (h : UnitAt w p c us) {op a lv : Int} {vt : Value} (hvt : IsFn vt) 
    (hlk : ∀ w', Below w.heap.size w w' → (Instr.lookup 60 (.map (some g)) (.int .i64 op) true).run Try.prog w' = .ok (.tuple #[.agg #[.func (.func 50) #[] #[], vt, .int .i64 lv], .bool true]) w') :
    Calls Try.prog 22 #[.agg us.toArray, .map (some g), .agg #[.int .i64 op, .int .i64 a]] w (SaysI w (if Kd.may p c .body a = false then 53 else if jumpsB op = true ∧ (c.ins.length : Int) ≤ a then 51 else 0)) := by
  have hb2 : Below w.heap.size w ((w.alloc (.cells us.toArray 58)).alloc (.cells #[.int .i64 op, .int .i64 a] 43)) := (by repeat (first | exact Below.refl _ _ | assumption | refine Below.setCell ?_ (by first | (simp; done) | (simp; omega) | omega) _ | refine below_drewN ?_ _ | refine Below.drew ?_ | refine Below.alloc ?_ (by first | (simp; done) | (simp; omega) | omega) _))
  have hlk := hlk _ hb2
  have KM : Hid (∀ w', Below w.heap.size w w' → Calls Try.prog 50 #[.agg us.toArray, .int .i64 a] w' fun e w'' => e = .returned (.bool (Kd.may p c .body a)) ∧ Below w'.heap.size w' w'') := Lib.hid fun w' hw => body_may (h.new hw) a
  obtain ⟨f2, x2, y2, rfl⟩ := hvt
  obtain ⟨A, n, kk, cs, rfl, hp, hc⟩ := h.parts
  obtain ⟨A1, n1, c1, A2, n2, c2, A3, n3, c3, A4, n4, c4, A5, n5, c5, A6, n6, c6, rfl, r1, r2, r3, r4, r5, r6, m1, m2, m3, m4, m5, m6⟩ := hc.parts
  rw [r6.1]
  generalize Kd.may p c .body a = m at *
  clear hb2 r1 r2 r3 r4 r5 r6 m1 m2 m3 m4 m5 m6 hp hc h
  cases m with
  | false =>
    rw [if_pos rfl]
    go_enter Try.func22, Try.ntmps22
    go_wp2_with ((with_reducible refine (KM.out _ (by exact (by repeat (first | exact Below.refl _ _ | assumption | refine Below.setCell ?_ (by first | (simp; done) | (simp; omega) | omega) _ | refine below_drewN ?_ _ | refine Below.drew ?_ | refine Below.alloc ?_ (by first | (simp; done) | (simp; omega) | omega) _)))).mono ?_); rintro e w2 ⟨rfl, hw2⟩; have HW2 := Lib.hid hw2; clear hw2)
    go_ret
    exact ⟨rfl, Below.trans (by exact (by repeat (first | exact Below.refl _ _ | assumption | refine Below.setCell ?_ (by first | (simp; done) | (simp; omega) | omega) _ | refine below_drewN ?_ _ | refine Below.drew ?_ | refine Below.alloc ?_ (by first | (simp; done) | (simp; omega) | omega) _))) (HW2.out.mono (by simp; omega))⟩
  | true =>
    rw [if_neg (by decide)]
    cases hj : jumpsB op with
    | false =>
      have HJ := Lib.hid hj
      rw [if_neg (by simp)]
      clear hj
      go_enter Try.func22, Try.ntmps22
      go_wp2_with (first
        | ((with_reducible refine (KM.out _ (by exact (by repeat (first | exact Below.refl _ _ | assumption | refine Below.setCell ?_ (by first | (simp; done) | (simp; omega) | omega) _ | refine below_drewN ?_ _ | refine Below.drew ?_ | refine Below.alloc ?_ (by first | (simp; done) | (simp; omega) | omega) _)))).mono ?_); rintro e w2 ⟨rfl, hw2⟩; have HW2 := Lib.hid hw2; obtain ⟨hc2, hf2⟩ := bcell hw2; have hz2 := hw2.size; simp at hz2; clear hw2)
        | ((with_reducible refine (jumps_any op _).mono ?_); rintro e w3 ⟨rfl, rfl⟩; rw [HJ.out]))
      go_ret
      exact ⟨rfl, Below.trans (by exact (by repeat (first | exact Below.refl _ _ | assumption | refine Below.setCell ?_ (by first | (simp; done) | (simp; omega) | omega) _ | refine below_drewN ?_ _ | refine Below.drew ?_ | refine Below.alloc ?_ (by first | (simp; done) | (simp; omega) | omega) _))) (HW2.out.mono (by simp; omega))⟩
    | true =>
      have HJ := Lib.hid hj
      clear hj
      by_cases hle : (n6 : Int) ≤ a
      · rw [if_pos ⟨rfl, hle⟩]
        go_enter Try.func22, Try.ntmps22
        go_wp2_with (first
          | ((with_reducible refine (KM.out _ (by exact (by repeat (first | exact Below.refl _ _ | assumption | refine Below.setCell ?_ (by first | (simp; done) | (simp; omega) | omega) _ | refine below_drewN ?_ _ | refine Below.drew ?_ | refine Below.alloc ?_ (by first | (simp; done) | (simp; omega) | omega) _)))).mono ?_); rintro e w2 ⟨rfl, hw2⟩; have HW2 := Lib.hid hw2; obtain ⟨hc2, hf2⟩ := bcell hw2; have hz2 := hw2.size; simp at hz2; clear hw2)
          | ((with_reducible refine (jumps_any op _).mono ?_); rintro e w3 ⟨rfl, rfl⟩; rw [HJ.out]))
        go_ret
        exact ⟨rfl, Below.trans (by exact (by repeat (first | exact Below.refl _ _ | assumption | refine Below.setCell ?_ (by first | (simp; done) | (simp; omega) | omega) _ | refine below_drewN ?_ _ | refine Below.drew ?_ | refine Below.alloc ?_ (by first | (simp; done) | (simp; omega) | omega) _))) (HW2.out.mono (by simp; omega))⟩
      · rw [if_neg (fun h => hle h.2)]
        have d1 : decide ((n6 : Int) ≤ a) = false := decide_eq_false hle
        go_enter Try.func22, Try.ntmps22
        go_wp2_with (first
          | ((with_reducible refine (KM.out _ (by exact (by repeat (first | exact Below.refl _ _ | assumption | refine Below.setCell ?_ (by first | (simp; done) | (simp; omega) | omega) _ | refine below_drewN ?_ _ | refine Below.drew ?_ | refine Below.alloc ?_ (by first | (simp; done) | (simp; omega) | omega) _)))).mono ?_); rintro e w2 ⟨rfl, hw2⟩; have HW2 := Lib.hid hw2; obtain ⟨hc2, hf2⟩ := bcell hw2; have hz2 := hw2.size; simp at hz2; clear hw2)
          | ((with_reducible refine (jumps_any op _).mono ?_); rintro e w3 ⟨rfl, rfl⟩; rw [HJ.out]))
        go_ret
        exact ⟨rfl, Below.trans (by exact (by repeat (first | exact Below.refl _ _ | assumption | refine Below.setCell ?_ (by first | (simp; done) | (simp; omega) | omega) _ | refine below_drewN ?_ _ | refine Below.drew ?_ | refine Below.alloc ?_ (by first | (simp; done) | (simp; omega) | omega) _))) (HW2.out.mono (by simp; omega))⟩
set_option maxRecDepth 100000 in
set_option maxHeartbeats 2000000 in
theorem wrong_gen {w : World} {p : ProgD} {c : CodeD} {us : List Value} {g : Nat} (h : UnitAt w p c us) {op a lv : Int} {vt : Value} (hvt : IsFn vt) 
    (hlk : ∀ w', Below w.heap.size w w' → (Instr.lookup 60 (.map (some g)) (.int .i64 op) true).run Try.prog w' = .ok (.tuple #[.agg #[.func (.func 51) #[] #[], vt, .int .i64 lv], .bool true]) w') :
    Calls Try.prog 22 #[.agg us.toArray, .map (some g), .agg #[.int .i64 op, .int .i64 a]] w (SaysI w (if Kd.may p c .gen a = false then 53 else if jumpsB op = true ∧ (c.ins.length : Int) ≤ a then 51 else 0)) := by
  have hb2 : Below w.heap.size w ((w.alloc (.cells us.toArray 58)).alloc (.cells #[.int .i64 op, .int .i64 a] 43)) := (by repeat (first | exact Below.refl _ _ | assumption | refine Below.setCell ?_ (by first | (simp; done) | (simp; omega) | omega) _ | refine below_drewN ?_ _ | refine Below.drew ?_ | refine Below.alloc ?_ (by first | (simp; done) | (simp; omega) | omega) _))
  have hlk := hlk _ hb2
  have KM : Hid (∀ w', Below w.heap.size w w' → Calls Try.prog 51 #[.agg us.toArray, .int .i64 a] w' fun e w'' => e = .returned (.bool (Kd.may p c .gen a)) ∧ Below w'.heap.size w' w'') := Lib.hid fun w' hw => gen_may (h.new hw) a
  obtain ⟨f2, x2, y2, rfl⟩ := hvt
  obtain ⟨A, n, kk, cs, rfl, hp, hc⟩ := h.parts
  obtain ⟨A1, n1, c1, A2, n2, c2, A3, n3, c3, A4, n4, c4, A5, n5, c5, A6, n6, c6, rfl, r1, r2, r3, r4, r5, r6, m1, m2, m3, m4, m5, m6⟩ := hc.parts
  rw [r6.1]
  generalize Kd.may p c .gen a = m at *
  clear hb2 r1 r2 r3 r4 r5 r6 m1 m2 m3 m4 m5 m6 hp hc h
  cases m with
  | false =>
    rw [if_pos rfl]
    go_enter Try.func22, Try.ntmps22
    go_wp2_with ((with_reducible refine (KM.out _ (by exact (by repeat (first | exact Below.refl _ _ | assumption | refine Below.setCell ?_ (by first | (simp; done) | (simp; omega) | omega) _ | refine below_drewN ?_ _ | refine Below.drew ?_ | refine Below.alloc ?_ (by first | (simp; done) | (simp; omega) | omega) _)))).mono ?_); rintro e w2 ⟨rfl, hw2⟩; have HW2 := Lib.hid hw2; clear hw2)
    go_ret
    exact ⟨rfl, Below.trans (by exact (by repeat (first | exact Below.refl _ _ | assumption | refine Below.setCell ?_ (by first | (simp; done) | (simp; omega) | omega) _ | refine below_drewN ?_ _ | refine Below.drew ?_ | refine Below.alloc ?_ (by first | (simp; done) | (simp; omega) | omega) _))) (HW2.out.mono (by simp; omega))⟩
  | true =>
    rw [if_neg (by decide)]
    cases hj : jumpsB op with
    | false =>
      have HJ := Lib.hid hj
      rw [if_neg (by simp)]
      clear hj
      go_enter Try.func22, Try.ntmps22
      go_wp2_with (first
        | ((with_reducible refine (KM.out _ (by exact (by repeat (first | exact Below.refl _ _ | assumption | refine Below.setCell ?_ (by first | (simp; done) | (simp; omega) | omega) _ | refine below_drewN ?_ _ | refine Below.drew ?_ | refine Below.alloc ?_ (by first | (simp; done) | (simp; omega) | omega) _)))).mono ?_); rintro e w2 ⟨rfl, hw2⟩; have HW2 := Lib.hid hw2; obtain ⟨hc2, hf2⟩ := bcell hw2; have hz2 := hw2.size; simp at hz2; clear hw2)
        | ((with_reducible refine (jumps_any op _).mono ?_); rintro e w3 ⟨rfl, rfl⟩; rw [HJ.out]))
      go_ret
      exact ⟨rfl, Below.trans (by exact (by repeat (first | exact Below.refl _ _ | assumption | refine Below.setCell ?_ (by first | (simp; done) | (simp; omega) | omega) _ | refine below_drewN ?_ _ | refine Below.drew ?_ | refine Below.alloc ?_ (by first | (simp; done) | (simp; omega) | omega) _))) (HW2.out.mono (by simp; omega))⟩
    | true =>
      have HJ := Lib.hid hj
      clear hj
      by_cases hle : (n6 : Int) ≤ a
      · rw [if_pos ⟨rfl, hle⟩]
        go_enter Try.func22, Try.ntmps22
        go_wp2_with (first
          | ((with_reducible refine (KM.out _ (by exact (by repeat (first | exact Below.refl _ _ | assumption | refine Below.setCell ?_ (by first | (simp; done) | (simp; omega) | omega) _ | refine below_drewN ?_ _ | refine Below.drew ?_ | refine Below.alloc ?_ (by first | (simp; done) | (simp; omega) | omega) _)))).mono ?_); rintro e w2 ⟨rfl, hw2⟩; have HW2 := Lib.hid hw2; obtain ⟨hc2, hf2⟩ := bcell hw2; have hz2 := hw2.size; simp at hz2; clear hw2)
          | ((with_reducible refine (jumps_any op _).mono ?_); rintro e w3 ⟨rfl, rfl⟩; rw [HJ.out]))
        go_ret
        exact ⟨rfl, Below.trans (by exact (by repeat (first | exact Below.refl _ _ | assumption | refine Below.setCell ?_ (by first | (simp; done) | (simp; omega) | omega) _ | refine below_drewN ?_ _ | refine Below.drew ?_ | refine Below.alloc ?_ (by first | (simp; done) | (simp; omega) | omega) _))) (HW2.out.mono (by simp; omega))⟩
      · rw [if_neg (fun h => hle h.2)]
        have d1 : decide ((n6 : Int) ≤ a) = false := decide_eq_false hle
        go_enter Try.func22, Try.ntmps22
        go_wp2_with (first
          | ((with_reducible refine (KM.out _ (by exact (by repeat (first | exact Below.refl _ _ | assumption | refine Below.setCell ?_ (by first | (simp; done) | (simp; omega) | omega) _ | refine below_drewN ?_ _ | refine Below.drew ?_ | refine Below.alloc ?_ (by first | (simp; done) | (simp; omega) | omega) _)))).mono ?_); rintro e w2 ⟨rfl, hw2⟩; have HW2 := Lib.hid hw2; obtain ⟨hc2, hf2⟩ := bcell hw2; have hz2 := hw2.size; simp at hz2; clear hw2)
          | ((with_reducible refine (jumps_any op _).mono ?_); rintro e w3 ⟨rfl, rfl⟩; rw [HJ.out]))
        go_ret
        exact ⟨rfl, Below.trans (by exact (by repeat (first | exact Below.refl _ _ | assumption | refine Below.setCell ?_ (by first | (simp; done) | (simp; omega) | omega) _ | refine below_drewN ?_ _ | refine Below.drew ?_ | refine Below.alloc ?_ (by first | (simp; done) | (simp; omega) | omega) _))) (HW2.out.mono (by simp; omega))⟩
theorem wrong_any {w : World} {p : ProgD} {c : CodeD} {us : List Value} {g : Nat} (h : UnitAt w p c us) (hg : IsEff w g) (op a : Int) :
    Calls Try.prog 22 #[.agg us.toArray, .map (some g), .agg #[.int .i64 op, .int .i64 a]] w (SaysI w (wrongE p c (op, a))) := by
  cases he : effOf op with
  | none =>
    rw [show wrongE p c (op, a) = 50 by simp only [wrongE, he]]
    exact wrong_none h hg he
  | some x =>
    obtain ⟨kd, tk, lv⟩ := x
    rw [show wrongE p c (op, a) = if kd.may p c a = false then 53 else if jumpsB op = true ∧ (c.ins.length : Int) ≤ a then 51 else 0 by simp only [wrongE, he]]
    obtain ⟨vm, vt, h1, h2, h3, _⟩ := look_some hg he
    have hlk : ∀ w', Below w.heap.size w w' → (Instr.lookup 60 (.map (some g)) (.int .i64 op) true).run Try.prog w' = .ok (.tuple #[.agg #[vm, vt, .int .i64 lv], .bool true]) w' := fun w' hw => h3 w' (hw.block g hg.lt)
    have hvt := h2.func
    cases kd <;> simp only [KdIs] at h1
    · obtain ⟨b, rfl, hb⟩ := h1; exact wrong_consts h hvt hb hlk
    · subst h1; exact wrong_free h hvt hlk
    · obtain ⟨b, rfl, hb⟩ := h1; exact wrong_locals h hvt hb hlk
    · obtain ⟨b, rfl, hb⟩ := h1; exact wrong_cells h hvt hb hlk
    · obtain ⟨b, rfl, hb⟩ := h1; exact wrong_names h hvt hb hlk
    · obtain ⟨d, b, rfl, hd, hb⟩ := h1; exact wrong_space h hvt hd hb hlk
    · subst h1; exact wrong_count h hvt hlk
    · subst h1; exact wrong_func h hvt hlk
    · subst h1; exact wrong_body h hvt hlk
    · subst h1; exact wrong_gen h hvt hlk
end Go.Proofs.Ytgnejkmojfhfpaa
