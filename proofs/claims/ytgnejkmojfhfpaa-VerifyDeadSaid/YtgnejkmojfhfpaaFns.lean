/- The closures of verify.effects. -/
import Derived.Test.YtgnejkmojfhfpaaCdu
namespace Go.Proofs.Ytgnejkmojfhfpaa
open Go.RowKit
set_option linter.unusedVariables false
set_option linter.unusedSimpArgs false

/-- a function that tells a length -/
def Kd.len (c : CodeD) : Kd → Nat
  | .consts => c.consts.length
  | .locals => c.locals.length
  | .cells => c.cells.length + c.free.length
  | .names => c.names.length
  | _ => 0
/-- how Go's memory holds what an argument may be -/
def KdIs (w : World) (v : Value) : Kd → Prop
  | .consts => ∃ b, v = .func (.func 40) #[] #[.pointer (some ⟨b, 0, none⟩)] ∧ Blk w b 91 #[.func (.func 43) #[] #[]]
  | .locals => ∃ b, v = .func (.func 40) #[] #[.pointer (some ⟨b, 0, none⟩)] ∧ Blk w b 91 #[.func (.func 44) #[] #[]]
  | .cells => ∃ b, v = .func (.func 40) #[] #[.pointer (some ⟨b, 0, none⟩)] ∧ Blk w b 91 #[.func (.func 45) #[] #[]]
  | .names => ∃ b, v = .func (.func 40) #[] #[.pointer (some ⟨b, 0, none⟩)] ∧ Blk w b 91 #[.func (.func 46) #[] #[]]
  | .free => v = .func (.func 41) #[] #[]
  | .count => v = .func (.func 42) #[] #[]
  | .space => ∃ g b, v = .func (.func 47) #[] #[.pointer (some ⟨g, 0, none⟩)] ∧ Blk w g 73 #[.func (.func 40) #[] #[.pointer (some ⟨b, 0, none⟩)]] ∧ Blk w b 91 #[.func (.func 46) #[] #[]]
  | .func => v = .func (.func 48) #[] #[]
  | .body => v = .func (.func 50) #[] #[]
  | .gen => v = .func (.func 51) #[] #[]
/-- and what is taken -/
def TkIs (w : World) (v : Value) : Tk → Prop
  | .just n => ∃ b, v = .func (.func 36) #[] #[.pointer (some ⟨b, 0, none⟩)] ∧ Blk w b 3 #[.int .i64 n]
  | .each n m => ∃ b g, v = .func (.func 38) #[] #[.pointer (some ⟨b, 0, none⟩), .pointer (some ⟨g, 0, none⟩)] ∧ Blk w b 3 #[.int .i64 n] ∧ Blk w g 3 #[.int .i64 m]
  | .given => v = .func (.func 52) #[] #[]
  | .around => v = .func (.func 53) #[] #[]
theorem KdIs.keep {w w' : World} {v : Value} {kd : Kd} (h : KdIs w v kd) (hk : ∀ g t cs, Blk w g t cs → Blk w' g t cs) : KdIs w' v kd := by
  cases kd <;> simp only [KdIs] at h ⊢ <;> first
    | exact h
    | (obtain ⟨b, e, h1⟩ := h; exact ⟨b, e, hk _ _ _ h1⟩)
    | (obtain ⟨g, b, e, h1, h2⟩ := h; exact ⟨g, b, e, hk _ _ _ h1, hk _ _ _ h2⟩)
theorem TkIs.keep {w w' : World} {v : Value} {tk : Tk} (h : TkIs w v tk) (hk : ∀ g t cs, Blk w g t cs → Blk w' g t cs) : TkIs w' v tk := by
  cases tk <;> simp only [TkIs] at h ⊢ <;> first
    | exact h
    | (obtain ⟨b, e, h1⟩ := h; exact ⟨b, e, hk _ _ _ h1⟩)
    | (obtain ⟨g, b, e, h1, h2⟩ := h; exact ⟨g, b, e, hk _ _ _ h1, hk _ _ _ h2⟩)
theorem KdIs.new {w w' : World} {v : Value} {kd : Kd} (h : KdIs w v kd) (hb : Below w.heap.size w w') : KdIs w' v kd := h.keep fun _ _ _ h => h.new' hb
theorem TkIs.new {w w' : World} {v : Value} {tk : Tk} (h : TkIs w v tk) (hb : Below w.heap.size w w') : TkIs w' v tk := h.keep fun _ _ _ h => h.new' hb
set_option maxRecDepth 100000 in
theorem consts_len {w : World} {p : ProgD} {c : CodeD} {us : List Value} (h : UnitAt w p c us) :
    Calls Try.prog 43 #[.agg us.toArray] w fun e w' => e = .returned (.int .i64 (Kd.len c .consts : Nat)) ∧ Below w.heap.size w w' := by
  obtain ⟨A, n, kk, cs, rfl, hp, hc⟩ := h.parts
  obtain ⟨A1, n1, c1, A2, n2, c2, A3, n3, c3, A4, n4, c4, A5, n5, c5, A6, n6, c6, rfl, r1, r2, r3, r4, r5, r6, m1, m2, m3, m4, m5, m6⟩ := hc.parts
  have hl := r5.1
  rw [show Kd.len c .consts = n5 from hl]
  clear hl r1 r2 r3 r4 r5 r6 m1 m2 m3 m4 m5 m6 hp hc h
  go_enter Try.func43, Try.ntmps43
  go_wp2_with fail
  go_ret
  exact ⟨rfl, (by repeat (first | exact Below.refl _ _ | assumption | refine Below.setCell ?_ (by first | (simp; done) | (simp; omega) | omega) _ | refine below_drewN ?_ _ | refine Below.drew ?_ | refine Below.alloc ?_ (by first | (simp; done) | (simp; omega) | omega) _))⟩
set_option maxRecDepth 100000 in
theorem locals_len {w : World} {p : ProgD} {c : CodeD} {us : List Value} (h : UnitAt w p c us) :
    Calls Try.prog 44 #[.agg us.toArray] w fun e w' => e = .returned (.int .i64 (Kd.len c .locals : Nat)) ∧ Below w.heap.size w w' := by
  obtain ⟨A, n, kk, cs, rfl, hp, hc⟩ := h.parts
  obtain ⟨A1, n1, c1, A2, n2, c2, A3, n3, c3, A4, n4, c4, A5, n5, c5, A6, n6, c6, rfl, r1, r2, r3, r4, r5, r6, m1, m2, m3, m4, m5, m6⟩ := hc.parts
  have hl := r1.1
  rw [show Kd.len c .locals = n1 from hl]
  clear hl r1 r2 r3 r4 r5 r6 m1 m2 m3 m4 m5 m6 hp hc h
  go_enter Try.func44, Try.ntmps44
  go_wp2_with fail
  go_ret
  exact ⟨rfl, (by repeat (first | exact Below.refl _ _ | assumption | refine Below.setCell ?_ (by first | (simp; done) | (simp; omega) | omega) _ | refine below_drewN ?_ _ | refine Below.drew ?_ | refine Below.alloc ?_ (by first | (simp; done) | (simp; omega) | omega) _))⟩
set_option maxRecDepth 100000 in
theorem names_len {w : World} {p : ProgD} {c : CodeD} {us : List Value} (h : UnitAt w p c us) :
    Calls Try.prog 46 #[.agg us.toArray] w fun e w' => e = .returned (.int .i64 (Kd.len c .names : Nat)) ∧ Below w.heap.size w w' := by
  obtain ⟨A, n, kk, cs, rfl, hp, hc⟩ := h.parts
  obtain ⟨A1, n1, c1, A2, n2, c2, A3, n3, c3, A4, n4, c4, A5, n5, c5, A6, n6, c6, rfl, r1, r2, r3, r4, r5, r6, m1, m2, m3, m4, m5, m6⟩ := hc.parts
  have hl := r4.1
  rw [show Kd.len c .names = n4 from hl]
  clear hl r1 r2 r3 r4 r5 r6 m1 m2 m3 m4 m5 m6 hp hc h
  go_enter Try.func46, Try.ntmps46
  go_wp2_with fail
  go_ret
  exact ⟨rfl, (by repeat (first | exact Below.refl _ _ | assumption | refine Below.setCell ?_ (by first | (simp; done) | (simp; omega) | omega) _ | refine below_drewN ?_ _ | refine Below.drew ?_ | refine Below.alloc ?_ (by first | (simp; done) | (simp; omega) | omega) _))⟩
set_option maxRecDepth 100000 in
theorem cells_len {w : World} {p : ProgD} {c : CodeD} {us : List Value} (h : UnitAt w p c us) :
    Calls Try.prog 45 #[.agg us.toArray] w fun e w' => e = .returned (.int .i64 (Kd.len c .cells : Nat)) ∧ Below w.heap.size w w' := by
  obtain ⟨A, n, kk, cs, rfl, hp, hc⟩ := h.parts
  obtain ⟨A1, n1, c1, A2, n2, c2, A3, n3, c3, A4, n4, c4, A5, n5, c5, A6, n6, c6, rfl, r1, r2, r3, r4, r5, r6, m1, m2, m3, m4, m5, m6⟩ := hc.parts
  have hl2 := r2.1
  have hl3 := r3.1
  rw [show Kd.len c .cells = n2 + n3 from by simp only [Kd.len]; omega]
  clear hl2 hl3 r1 r2 r3 r4 r5 r6 m1 m4 m5 m6 hp hc h
  unfold Most at m2 m3
  go_enter Try.func45, Try.ntmps45
  go_wp2_with fail
  go_ret
  exact ⟨by rw [Int.natCast_add]; rfl, (by repeat (first | exact Below.refl _ _ | assumption | refine Below.setCell ?_ (by first | (simp; done) | (simp; omega) | omega) _ | refine below_drewN ?_ _ | refine Below.drew ?_ | refine Below.alloc ?_ (by first | (simp; done) | (simp; omega) | omega) _))⟩
set_option maxRecDepth 100000 in
set_option maxHeartbeats 1000000 in
theorem consts_may {w : World} {p : ProgD} {c : CodeD} {us : List Value} {b : Nat} (h : UnitAt w p c us) (hb : Blk w b 91 #[.func (.func 43) #[] #[]]) (a : Int) :
    Calls Try.prog 40 #[.agg us.toArray, .int .i64 a, .pointer (some ⟨b, 0, none⟩)] w fun e w' => e = .returned (.bool (Kd.may p c .consts a)) ∧ Below w.heap.size w w' := by
  have hr : Kd.may p c .consts a = decide (0 ≤ a ∧ a < (Kd.len c .consts : Nat)) := by simp only [Kd.may, Kd.len]; congr 1
  rw [hr]
  have HC : Hid (∀ w', Below w.heap.size w w' → Calls Try.prog 43 #[.agg us.toArray] w' fun e w'' => e = .returned (.int .i64 (Kd.len c .consts : Nat)) ∧ Below w'.heap.size w' w'') := Lib.hid fun w' hb => consts_len (h.new hb)
  have HB : Hid (Below w.heap.size w (w.alloc (.cells us.toArray 58))) := Lib.hid (by repeat (first | exact Below.refl _ _ | assumption | refine Below.setCell ?_ (by first | (simp; done) | (simp; omega) | omega) _ | refine below_drewN ?_ _ | refine Below.drew ?_ | refine Below.alloc ?_ (by first | (simp; done) | (simp; omega) | omega) _))
  have h0 := hb.cell 0
  have hlt := hb.lt
  simp only [List.getElem?_toArray, List.getElem?_cons_zero] at h0
  obtain ⟨A, n, kk, cs, rfl, hp, hc⟩ := h.parts
  obtain ⟨A1, n1, c1, A2, n2, c2, A3, n3, c3, A4, n4, c4, A5, n5, c5, A6, n6, c6, rfl, -⟩ := hc.parts
  generalize Kd.len c .consts = L at *
  clear hr hb hp hc h
  by_cases ha : a < 0
  · have d0 : decide (0 ≤ a) = false := decide_eq_false (by omega)
    have d1 : decide (0 ≤ a ∧ a < (L : Int)) = false := decide_eq_false (by omega)
    rw [d1]
    clear d1
    go_enter Try.func40, Try.ntmps40
    go_wp2_with fail
    go_ret
    exact ⟨rfl, (by repeat (first | exact Below.refl _ _ | assumption | refine Below.setCell ?_ (by first | (simp; done) | (simp; omega) | omega) _ | refine below_drewN ?_ _ | refine Below.drew ?_ | refine Below.alloc ?_ (by first | (simp; done) | (simp; omega) | omega) _))⟩
  · have d0 : decide (0 ≤ a) = true := decide_eq_true (by omega)
    have d1 : decide (0 ≤ a ∧ a < (L : Int)) = decide (a < (L : Int)) := by simp; omega
    rw [d1]
    clear d1 ha
    go_enter Try.func40, Try.ntmps40
    go_wp2_with ((with_reducible refine (HC.out _ HB.out).mono ?_); rintro e w' ⟨rfl, hb2⟩; have HB2 := Lib.hid hb2; clear hb2)
    go_ret
    exact ⟨rfl, HB.out.trans (HB2.out.mono HB.out.size)⟩
set_option maxRecDepth 100000 in
set_option maxHeartbeats 1000000 in
theorem locals_may {w : World} {p : ProgD} {c : CodeD} {us : List Value} {b : Nat} (h : UnitAt w p c us) (hb : Blk w b 91 #[.func (.func 44) #[] #[]]) (a : Int) :
    Calls Try.prog 40 #[.agg us.toArray, .int .i64 a, .pointer (some ⟨b, 0, none⟩)] w fun e w' => e = .returned (.bool (Kd.may p c .locals a)) ∧ Below w.heap.size w w' := by
  have hr : Kd.may p c .locals a = decide (0 ≤ a ∧ a < (Kd.len c .locals : Nat)) := by simp only [Kd.may, Kd.len]; congr 1
  rw [hr]
  have HC : Hid (∀ w', Below w.heap.size w w' → Calls Try.prog 44 #[.agg us.toArray] w' fun e w'' => e = .returned (.int .i64 (Kd.len c .locals : Nat)) ∧ Below w'.heap.size w' w'') := Lib.hid fun w' hb => locals_len (h.new hb)
  have HB : Hid (Below w.heap.size w (w.alloc (.cells us.toArray 58))) := Lib.hid (by repeat (first | exact Below.refl _ _ | assumption | refine Below.setCell ?_ (by first | (simp; done) | (simp; omega) | omega) _ | refine below_drewN ?_ _ | refine Below.drew ?_ | refine Below.alloc ?_ (by first | (simp; done) | (simp; omega) | omega) _))
  have h0 := hb.cell 0
  have hlt := hb.lt
  simp only [List.getElem?_toArray, List.getElem?_cons_zero] at h0
  obtain ⟨A, n, kk, cs, rfl, hp, hc⟩ := h.parts
  obtain ⟨A1, n1, c1, A2, n2, c2, A3, n3, c3, A4, n4, c4, A5, n5, c5, A6, n6, c6, rfl, -⟩ := hc.parts
  generalize Kd.len c .locals = L at *
  clear hr hb hp hc h
  by_cases ha : a < 0
  · have d0 : decide (0 ≤ a) = false := decide_eq_false (by omega)
    have d1 : decide (0 ≤ a ∧ a < (L : Int)) = false := decide_eq_false (by omega)
    rw [d1]
    clear d1
    go_enter Try.func40, Try.ntmps40
    go_wp2_with fail
    go_ret
    exact ⟨rfl, (by repeat (first | exact Below.refl _ _ | assumption | refine Below.setCell ?_ (by first | (simp; done) | (simp; omega) | omega) _ | refine below_drewN ?_ _ | refine Below.drew ?_ | refine Below.alloc ?_ (by first | (simp; done) | (simp; omega) | omega) _))⟩
  · have d0 : decide (0 ≤ a) = true := decide_eq_true (by omega)
    have d1 : decide (0 ≤ a ∧ a < (L : Int)) = decide (a < (L : Int)) := by simp; omega
    rw [d1]
    clear d1 ha
    go_enter Try.func40, Try.ntmps40
    go_wp2_with ((with_reducible refine (HC.out _ HB.out).mono ?_); rintro e w' ⟨rfl, hb2⟩; have HB2 := Lib.hid hb2; clear hb2)
    go_ret
    exact ⟨rfl, HB.out.trans (HB2.out.mono HB.out.size)⟩
set_option maxRecDepth 100000 in
set_option maxHeartbeats 1000000 in
theorem cells_may {w : World} {p : ProgD} {c : CodeD} {us : List Value} {b : Nat} (h : UnitAt w p c us) (hb : Blk w b 91 #[.func (.func 45) #[] #[]]) (a : Int) :
    Calls Try.prog 40 #[.agg us.toArray, .int .i64 a, .pointer (some ⟨b, 0, none⟩)] w fun e w' => e = .returned (.bool (Kd.may p c .cells a)) ∧ Below w.heap.size w w' := by
  have hr : Kd.may p c .cells a = decide (0 ≤ a ∧ a < (Kd.len c .cells : Nat)) := by simp only [Kd.may, Kd.len]; congr 1
  rw [hr]
  have HC : Hid (∀ w', Below w.heap.size w w' → Calls Try.prog 45 #[.agg us.toArray] w' fun e w'' => e = .returned (.int .i64 (Kd.len c .cells : Nat)) ∧ Below w'.heap.size w' w'') := Lib.hid fun w' hb => cells_len (h.new hb)
  have HB : Hid (Below w.heap.size w (w.alloc (.cells us.toArray 58))) := Lib.hid (by repeat (first | exact Below.refl _ _ | assumption | refine Below.setCell ?_ (by first | (simp; done) | (simp; omega) | omega) _ | refine below_drewN ?_ _ | refine Below.drew ?_ | refine Below.alloc ?_ (by first | (simp; done) | (simp; omega) | omega) _))
  have h0 := hb.cell 0
  have hlt := hb.lt
  simp only [List.getElem?_toArray, List.getElem?_cons_zero] at h0
  obtain ⟨A, n, kk, cs, rfl, hp, hc⟩ := h.parts
  obtain ⟨A1, n1, c1, A2, n2, c2, A3, n3, c3, A4, n4, c4, A5, n5, c5, A6, n6, c6, rfl, -⟩ := hc.parts
  generalize Kd.len c .cells = L at *
  clear hr hb hp hc h
  by_cases ha : a < 0
  · have d0 : decide (0 ≤ a) = false := decide_eq_false (by omega)
    have d1 : decide (0 ≤ a ∧ a < (L : Int)) = false := decide_eq_false (by omega)
    rw [d1]
    clear d1
    go_enter Try.func40, Try.ntmps40
    go_wp2_with fail
    go_ret
    exact ⟨rfl, (by repeat (first | exact Below.refl _ _ | assumption | refine Below.setCell ?_ (by first | (simp; done) | (simp; omega) | omega) _ | refine below_drewN ?_ _ | refine Below.drew ?_ | refine Below.alloc ?_ (by first | (simp; done) | (simp; omega) | omega) _))⟩
  · have d0 : decide (0 ≤ a) = true := decide_eq_true (by omega)
    have d1 : decide (0 ≤ a ∧ a < (L : Int)) = decide (a < (L : Int)) := by simp; omega
    rw [d1]
    clear d1 ha
    go_enter Try.func40, Try.ntmps40
    go_wp2_with ((with_reducible refine (HC.out _ HB.out).mono ?_); rintro e w' ⟨rfl, hb2⟩; have HB2 := Lib.hid hb2; clear hb2)
    go_ret
    exact ⟨rfl, HB.out.trans (HB2.out.mono HB.out.size)⟩
set_option maxRecDepth 100000 in
set_option maxHeartbeats 1000000 in
theorem names_may {w : World} {p : ProgD} {c : CodeD} {us : List Value} {b : Nat} (h : UnitAt w p c us) (hb : Blk w b 91 #[.func (.func 46) #[] #[]]) (a : Int) :
    Calls Try.prog 40 #[.agg us.toArray, .int .i64 a, .pointer (some ⟨b, 0, none⟩)] w fun e w' => e = .returned (.bool (Kd.may p c .names a)) ∧ Below w.heap.size w w' := by
  have hr : Kd.may p c .names a = decide (0 ≤ a ∧ a < (Kd.len c .names : Nat)) := by simp only [Kd.may, Kd.len]; congr 1
  rw [hr]
  have HC : Hid (∀ w', Below w.heap.size w w' → Calls Try.prog 46 #[.agg us.toArray] w' fun e w'' => e = .returned (.int .i64 (Kd.len c .names : Nat)) ∧ Below w'.heap.size w' w'') := Lib.hid fun w' hb => names_len (h.new hb)
  have HB : Hid (Below w.heap.size w (w.alloc (.cells us.toArray 58))) := Lib.hid (by repeat (first | exact Below.refl _ _ | assumption | refine Below.setCell ?_ (by first | (simp; done) | (simp; omega) | omega) _ | refine below_drewN ?_ _ | refine Below.drew ?_ | refine Below.alloc ?_ (by first | (simp; done) | (simp; omega) | omega) _))
  have h0 := hb.cell 0
  have hlt := hb.lt
  simp only [List.getElem?_toArray, List.getElem?_cons_zero] at h0
  obtain ⟨A, n, kk, cs, rfl, hp, hc⟩ := h.parts
  obtain ⟨A1, n1, c1, A2, n2, c2, A3, n3, c3, A4, n4, c4, A5, n5, c5, A6, n6, c6, rfl, -⟩ := hc.parts
  generalize Kd.len c .names = L at *
  clear hr hb hp hc h
  by_cases ha : a < 0
  · have d0 : decide (0 ≤ a) = false := decide_eq_false (by omega)
    have d1 : decide (0 ≤ a ∧ a < (L : Int)) = false := decide_eq_false (by omega)
    rw [d1]
    clear d1
    go_enter Try.func40, Try.ntmps40
    go_wp2_with fail
    go_ret
    exact ⟨rfl, (by repeat (first | exact Below.refl _ _ | assumption | refine Below.setCell ?_ (by first | (simp; done) | (simp; omega) | omega) _ | refine below_drewN ?_ _ | refine Below.drew ?_ | refine Below.alloc ?_ (by first | (simp; done) | (simp; omega) | omega) _))⟩
  · have d0 : decide (0 ≤ a) = true := decide_eq_true (by omega)
    have d1 : decide (0 ≤ a ∧ a < (L : Int)) = decide (a < (L : Int)) := by simp; omega
    rw [d1]
    clear d1 ha
    go_enter Try.func40, Try.ntmps40
    go_wp2_with ((with_reducible refine (HC.out _ HB.out).mono ?_); rintro e w' ⟨rfl, hb2⟩; have HB2 := Lib.hid hb2; clear hb2)
    go_ret
    exact ⟨rfl, HB.out.trans (HB2.out.mono HB.out.size)⟩
set_option maxRecDepth 100000 in
set_option maxHeartbeats 1000000 in
theorem free_may {w : World} {p : ProgD} {c : CodeD} {us : List Value} (h : UnitAt w p c us) (a : Int) :
    Calls Try.prog 41 #[.agg us.toArray, .int .i64 a] w fun e w' => e = .returned (.bool (Kd.may p c .free a)) ∧ Below w.heap.size w w' := by
  obtain ⟨A, n, kk, cs, rfl, hp, hc⟩ := h.parts
  obtain ⟨A1, n1, c1, A2, n2, c2, A3, n3, c3, A4, n4, c4, A5, n5, c5, A6, n6, c6, rfl, r1, r2, r3, r4, r5, r6, m1, m2, m3, m4, m5, m6⟩ := hc.parts
  clear r1 r2 r3 r4 r5 r6 m1 m2 m3 m4 m5 m6 hp hc h
  go_enter Try.func41, Try.ntmps41
  go_wp2_with fail
  go_ret
  exact ⟨rfl, (by repeat (first | exact Below.refl _ _ | assumption | refine Below.setCell ?_ (by first | (simp; done) | (simp; omega) | omega) _ | refine below_drewN ?_ _ | refine Below.drew ?_ | refine Below.alloc ?_ (by first | (simp; done) | (simp; omega) | omega) _))⟩
set_option maxRecDepth 100000 in
set_option maxHeartbeats 1000000 in
theorem count_may {w : World} {p : ProgD} {c : CodeD} {us : List Value} (h : UnitAt w p c us) (a : Int) :
    Calls Try.prog 42 #[.agg us.toArray, .int .i64 a] w fun e w' => e = .returned (.bool (Kd.may p c .count a)) ∧ Below w.heap.size w w' := by
  obtain ⟨A, n, kk, cs, rfl, hp, hc⟩ := h.parts
  obtain ⟨A1, n1, c1, A2, n2, c2, A3, n3, c3, A4, n4, c4, A5, n5, c5, A6, n6, c6, rfl, r1, r2, r3, r4, r5, r6, m1, m2, m3, m4, m5, m6⟩ := hc.parts
  clear r1 r2 r3 r4 r5 r6 m1 m2 m3 m4 m5 m6 hp hc h
  go_enter Try.func42, Try.ntmps42
  go_wp2_with fail
  go_ret
  exact ⟨rfl, (by repeat (first | exact Below.refl _ _ | assumption | refine Below.setCell ?_ (by first | (simp; done) | (simp; omega) | omega) _ | refine below_drewN ?_ _ | refine Below.drew ?_ | refine Below.alloc ?_ (by first | (simp; done) | (simp; omega) | omega) _))⟩
set_option maxRecDepth 100000 in
set_option maxHeartbeats 1000000 in
theorem gen_may {w : World} {p : ProgD} {c : CodeD} {us : List Value} (h : UnitAt w p c us) (a : Int) :
    Calls Try.prog 51 #[.agg us.toArray, .int .i64 a] w fun e w' => e = .returned (.bool (Kd.may p c .gen a)) ∧ Below w.heap.size w w' := by
  obtain ⟨A, n, kk, cs, rfl, hp, hc⟩ := h.parts
  obtain ⟨A1, n1, c1, A2, n2, c2, A3, n3, c3, A4, n4, c4, A5, n5, c5, A6, n6, c6, rfl, r1, r2, r3, r4, r5, r6, m1, m2, m3, m4, m5, m6⟩ := hc.parts
  clear r1 r2 r3 r4 r5 r6 m1 m2 m3 m4 m5 m6 hp hc h
  go_enter Try.func51, Try.ntmps51
  go_wp2_with fail
  go_ret
  exact ⟨rfl, (by repeat (first | exact Below.refl _ _ | assumption | refine Below.setCell ?_ (by first | (simp; done) | (simp; omega) | omega) _ | refine below_drewN ?_ _ | refine Below.drew ?_ | refine Below.alloc ?_ (by first | (simp; done) | (simp; omega) | omega) _))⟩
end Go.Proofs.Ytgnejkmojfhfpaa
