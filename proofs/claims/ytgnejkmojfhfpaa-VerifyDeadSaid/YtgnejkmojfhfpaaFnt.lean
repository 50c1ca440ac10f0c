/- The closures of verify.effects: what is taken; space, function, body; the makers. -/
import Derived.Test.YtgnejkmojfhfpaaFns
import Derived.IntWalk
namespace Go.Proofs.Ytgnejkmojfhfpaa
open Go.RowKit
set_option linter.unusedVariables false
set_option linter.unusedSimpArgs false

set_option maxRecDepth 100000 in
set_option maxHeartbeats 1000000 in
theorem space_may {w : World} {p : ProgD} {c : CodeD} {us : List Value} {g b : Nat} (h : UnitAt w p c us) (hg : Blk w g 73 #[.func (.func 40) #[] #[.pointer (some ⟨b, 0, none⟩)]]) (hb : Blk w b 91 #[.func (.func 46) #[] #[]]) (a : Int) :
    Calls Try.prog 47 #[.agg us.toArray, .int .i64 a, .pointer (some ⟨g, 0, none⟩)] w fun e w' => e = .returned (.bool (Kd.may p c .space a)) ∧ Below w.heap.size w w' := by
  have hr : Kd.may p c .space a = (Kd.may p c .names a && decide (c.kind = 3)) := rfl
  rw [hr]
  have HC : Hid (∀ w', Below w.heap.size w w' → Calls Try.prog 40 #[.agg us.toArray, .int .i64 a, .pointer (some ⟨b, 0, none⟩)] w' fun e w'' => e = .returned (.bool (Kd.may p c .names a)) ∧ Below w'.heap.size w' w'') := Lib.hid fun w' hb' => names_may (h.new hb') (hb.new' hb') a
  have HB : Hid (Below w.heap.size w (w.alloc (.cells us.toArray 58))) := Lib.hid (by repeat (first | exact Below.refl _ _ | assumption | refine Below.setCell ?_ (by first | (simp; done) | (simp; omega) | omega) _ | refine below_drewN ?_ _ | refine Below.drew ?_ | refine Below.alloc ?_ (by first | (simp; done) | (simp; omega) | omega) _))
  have HX : Hid (Blk (w.alloc (.cells us.toArray 58)) w.heap.size 58 us.toArray) := Lib.hid (Blk.new w 58 us.toArray)
  have h0 := hg.cell 0
  have hlt := hg.lt
  simp only [List.getElem?_toArray, List.getElem?_cons_zero] at h0
  obtain ⟨A, n, kk, cs, rfl, hp, hc⟩ := h.parts
  obtain ⟨A1, n1, c1, A2, n2, c2, A3, n3, c3, A4, n4, c4, A5, n5, c5, A6, n6, c6, rfl, -⟩ := hc.parts
  generalize Kd.may p c .names a = L at *
  generalize c.kind = kd at *
  clear hr hb hp hc h hg
  by_cases hk : kd = 3
  · subst hk
    cases L
    all_goals
      go_enter Try.func47, Try.ntmps47
      go_wp2_with ((with_reducible refine (HC.out _ HB.out).mono ?_); rintro e w' ⟨rfl, hb2⟩; have HB2 := Lib.hid hb2; have y2 := (HX.out.new' hb2).cell 2; have yl := (HX.out.new' hb2).lt; simp only [List.getElem?_toArray, List.getElem?_cons_zero, List.getElem?_cons_succ] at y2; clear hb2)
      go_ret
      exact ⟨rfl, HB.out.trans (HB2.out.mono HB.out.size)⟩
  · have h1 : (kd == 3) = false := by simpa using hk
    rw [decide_eq_false hk]
    clear hk
    cases L
    all_goals
      go_enter Try.func47, Try.ntmps47
      go_wp2_with ((with_reducible refine (HC.out _ HB.out).mono ?_); rintro e w' ⟨rfl, hb2⟩; have HB2 := Lib.hid hb2; have y2 := (HX.out.new' hb2).cell 2; have yl := (HX.out.new' hb2).lt; simp only [List.getElem?_toArray, List.getElem?_cons_zero, List.getElem?_cons_succ] at y2; clear hb2)
      go_ret
      exact ⟨rfl, HB.out.trans (HB2.out.mono HB.out.size)⟩
theorem code_none {w : World} {p : ProgD} {c : CodeD} {us : List Value} {a k : Int} (h : UnitAt w p c us) (hk : k = 2 ∨ k = 3) (hn : codeAt p a k = none) :
    Calls Try.prog 49 #[.agg us.toArray, .int .i64 a, .int .i64 k] w fun e w' => e = .returned (.tuple #[.agg codeZ, .bool false]) ∧ Below w.heap.size w w' := by
  refine (code_any h a k hk).mono fun e w' ⟨h1, h2⟩ => ⟨?_, h2⟩
  rw [hn] at h1
  exact h1
theorem code_some {w : World} {p : ProgD} {c c' : CodeD} {us : List Value} {a k : Int} (h : UnitAt w p c us) (hk : k = 2 ∨ k = 3) (hn : codeAt p a k = some c') :
    Calls Try.prog 49 #[.agg us.toArray, .int .i64 a, .int .i64 k] w fun e w' => (∃ cs, e = .returned (.tuple #[.agg cs.toArray, .bool true]) ∧ CodeAt w c' cs) ∧ Below w.heap.size w w' := by
  refine (code_any h a k hk).mono fun e w' ⟨h1, h2⟩ => ⟨?_, h2⟩
  rw [hn] at h1
  exact h1
set_option maxRecDepth 100000 in
set_option maxHeartbeats 1000000 in
theorem func_may {w : World} {p : ProgD} {c : CodeD} {us : List Value} (h : UnitAt w p c us) (a : Int) :
    Calls Try.prog 48 #[.agg us.toArray, .int .i64 a] w fun e w' => e = .returned (.bool (Kd.may p c .func a)) ∧ Below w.heap.size w w' := by
  rw [show Kd.may p c .func a = (codeAt p a 2).isSome from rfl]
  have HB : Hid (Below w.heap.size w (w.alloc (.cells us.toArray 58))) := Lib.hid (by repeat (first | exact Below.refl _ _ | assumption | refine Below.setCell ?_ (by first | (simp; done) | (simp; omega) | omega) _ | refine below_drewN ?_ _ | refine Below.drew ?_ | refine Below.alloc ?_ (by first | (simp; done) | (simp; omega) | omega) _))
  have H := Lib.hid h
  cases hr : codeAt p a 2 with
  | none =>
    have HC := Lib.hid (code_none (h.new HB.out) (by decide) hr)
    obtain ⟨A, n, kk, cs, rfl, hp, hc⟩ := h.parts
    obtain ⟨A1, n1, c1, A2, n2, c2, A3, n3, c3, A4, n4, c4, A5, n5, c5, A6, n6, c6, rfl, -⟩ := hc.parts
    clear hp hc h hr
    go_enter Try.func48, Try.ntmps48
    go_wp2_with ((with_reducible refine HC.out.mono ?_); rintro e w' ⟨rfl, hb2⟩; have HB2 := Lib.hid hb2; clear hb2; unfold codeZ)
    go_ret
    exact ⟨rfl, (HB.out.trans (HB2.out.mono HB.out.size)).alloc (by have := HB.out.size; have := HB2.out.size; omega) _⟩
  | some x =>
    have HC := Lib.hid (code_some (h.new HB.out) (by decide) hr)
    obtain ⟨A, n, kk, cs, rfl, hp, hc⟩ := h.parts
    obtain ⟨A1, n1, c1, A2, n2, c2, A3, n3, c3, A4, n4, c4, A5, n5, c5, A6, n6, c6, rfl, -⟩ := hc.parts
    clear hp hc h hr
    go_enter Try.func48, Try.ntmps48
    go_wp2_with ((with_reducible refine HC.out.mono ?_); rintro e w' ⟨⟨ds, rfl, hds⟩, hb2⟩; have HB2 := Lib.hid hb2; obtain ⟨B1, m1, d1, B2, m2, d2, B3, m3, d3, B4, m4, d4, B5, m5, d5, B6, m6, d6, rfl, -⟩ := hds.parts; clear hb2 hds)
    go_ret
    exact ⟨rfl, (HB.out.trans (HB2.out.mono HB.out.size)).alloc (by have := HB.out.size; have := HB2.out.size; omega) _⟩
set_option maxRecDepth 100000 in
set_option maxHeartbeats 1000000 in
theorem body_may {w : World} {p : ProgD} {c : CodeD} {us : List Value} (h : UnitAt w p c us) (a : Int) :
    Calls Try.prog 50 #[.agg us.toArray, .int .i64 a] w fun e w' => e = .returned (.bool (Kd.may p c .body a)) ∧ Below w.heap.size w w' := by
  rw [show Kd.may p c .body a = (codeAt p a 3).isSome from rfl]
  have HB : Hid (Below w.heap.size w (w.alloc (.cells us.toArray 58))) := Lib.hid (by repeat (first | exact Below.refl _ _ | assumption | refine Below.setCell ?_ (by first | (simp; done) | (simp; omega) | omega) _ | refine below_drewN ?_ _ | refine Below.drew ?_ | refine Below.alloc ?_ (by first | (simp; done) | (simp; omega) | omega) _))
  have H := Lib.hid h
  cases hr : codeAt p a 3 with
  | none =>
    have HC := Lib.hid (code_none (h.new HB.out) (by decide) hr)
    obtain ⟨A, n, kk, cs, rfl, hp, hc⟩ := h.parts
    obtain ⟨A1, n1, c1, A2, n2, c2, A3, n3, c3, A4, n4, c4, A5, n5, c5, A6, n6, c6, rfl, -⟩ := hc.parts
    clear hp hc h hr
    go_enter Try.func50, Try.ntmps50
    go_wp2_with ((with_reducible refine HC.out.mono ?_); rintro e w' ⟨rfl, hb2⟩; have HB2 := Lib.hid hb2; clear hb2; unfold codeZ)
    go_ret
    exact ⟨rfl, (HB.out.trans (HB2.out.mono HB.out.size)).alloc (by have := HB.out.size; have := HB2.out.size; omega) _⟩
  | some x =>
    have HC := Lib.hid (code_some (h.new HB.out) (by decide) hr)
    obtain ⟨A, n, kk, cs, rfl, hp, hc⟩ := h.parts
    obtain ⟨A1, n1, c1, A2, n2, c2, A3, n3, c3, A4, n4, c4, A5, n5, c5, A6, n6, c6, rfl, -⟩ := hc.parts
    clear hp hc h hr
    go_enter Try.func50, Try.ntmps50
    go_wp2_with ((with_reducible refine HC.out.mono ?_); rintro e w' ⟨⟨ds, rfl, hds⟩, hb2⟩; have HB2 := Lib.hid hb2; obtain ⟨B1, m1, d1, B2, m2, d2, B3, m3, d3, B4, m4, d4, B5, m5, d5, B6, m6, d6, rfl, -⟩ := hds.parts; clear hb2 hds)
    go_ret
    exact ⟨rfl, (HB.out.trans (HB2.out.mono HB.out.size)).alloc (by have := HB.out.size; have := HB2.out.size; omega) _⟩
set_option maxRecDepth 100000 in
theorem just_takes {w : World} {p : ProgD} {c : CodeD} {us : List Value} {b : Nat} {n : Int} (h : UnitAt w p c us) (hb : Blk w b 3 #[.int .i64 n]) (a : Int) :
    Calls Try.prog 36 #[.agg us.toArray, .int .i64 a, .pointer (some ⟨b, 0, none⟩)] w fun e w' => e = .returned (.int .i64 (Tk.takes p (.just n) a)) ∧ Below w.heap.size w w' := by
  rw [show Tk.takes p (.just n) a = n from rfl]
  have h0 := hb.cell 0
  have hlt := hb.lt
  simp only [List.getElem?_toArray, List.getElem?_cons_zero] at h0
  obtain ⟨A, n, kk, cs, rfl, hp, hc⟩ := h.parts
  obtain ⟨A1, n1, c1, A2, n2, c2, A3, n3, c3, A4, n4, c4, A5, n5, c5, A6, n6, c6, rfl, -⟩ := hc.parts
  clear hb hp hc h
  go_enter Try.func36, Try.ntmps36
  go_wp2_with fail
  go_ret
  exact ⟨rfl, (by repeat (first | exact Below.refl _ _ | assumption | refine Below.setCell ?_ (by first | (simp; done) | (simp; omega) | omega) _ | refine below_drewN ?_ _ | refine Below.drew ?_ | refine Below.alloc ?_ (by first | (simp; done) | (simp; omega) | omega) _))⟩
set_option maxRecDepth 100000 in
set_option maxHeartbeats 1000000 in
theorem each_takes {w : World} {p : ProgD} {c : CodeD} {us : List Value} {b g : Nat} {n m : Int} (h : UnitAt w p c us) (hb : Blk w b 3 #[.int .i64 n]) (hg : Blk w g 3 #[.int .i64 m]) (a : Int) (ha : 0 ≤ a) (hn : 0 ≤ n ∧ n ≤ 2) (hm : 0 ≤ m ∧ m ≤ 1) :
    Calls Try.prog 38 #[.agg us.toArray, .int .i64 a, .pointer (some ⟨b, 0, none⟩), .pointer (some ⟨g, 0, none⟩)] w fun e w' => e = .returned (.int .i64 (Tk.takes p (.each n m) a)) ∧ Below w.heap.size w w' := by
  rw [show Tk.takes p (.each n m) a = n * min a many + m from rfl]
  have h0 := hb.cell 0
  have hlt := hb.lt
  have g0 := hg.cell 0
  have glt := hg.lt
  simp only [List.getElem?_toArray, List.getElem?_cons_zero] at h0 g0
  obtain ⟨A, k, kk, cs, rfl, hp, hc⟩ := h.parts
  obtain ⟨A1, n1, c1, A2, n2, c2, A3, n3, c3, A4, n4, c4, A5, n5, c5, A6, n6, c6, rfl, -⟩ := hc.parts
  clear hb hp hc h hg
  have hn' : n = 0 ∨ n = 1 ∨ n = 2 := by omega
  have hm' : m = 0 ∨ m = 1 := by omega
  clear hn hm
  by_cases h1 : a < 1099511627776
  · have hx : min a many = a := by unfold many; omega
    rw [hx]
    clear hx
    rcases hn' with rfl | rfl | rfl <;> rcases hm' with rfl | rfl
    all_goals
      go_enter Try.func38, Try.ntmps38
      go_wp2_with fail
      go_ret
      exact ⟨ret_int (by omega), (by repeat (first | exact Below.refl _ _ | assumption | refine Below.setCell ?_ (by first | (simp; done) | (simp; omega) | omega) _ | refine below_drewN ?_ _ | refine Below.drew ?_ | refine Below.alloc ?_ (by first | (simp; done) | (simp; omega) | omega) _))⟩
  · have hx : min a many = 1099511627776 := by unfold many; omega
    rw [hx]
    have h2 : a = 1099511627776 ∨ 1099511627776 < a := by omega
    clear hx h1
    rcases h2 with rfl | h2 <;> rcases hn' with rfl | rfl | rfl <;> rcases hm' with rfl | rfl
    all_goals
      go_enter Try.func38, Try.ntmps38
      go_wp2_with fail
      go_ret
      exact ⟨ret_int (by omega), (by repeat (first | exact Below.refl _ _ | assumption | refine Below.setCell ?_ (by first | (simp; done) | (simp; omega) | omega) _ | refine below_drewN ?_ _ | refine Below.drew ?_ | refine Below.alloc ?_ (by first | (simp; done) | (simp; omega) | omega) _))⟩
set_option maxRecDepth 100000 in
set_option maxHeartbeats 1000000 in
theorem given_takes {w : World} {p : ProgD} {c : CodeD} {us : List Value} (h : UnitAt w p c us) (a : Int) (ha : (codeAt p a 2).isSome = true) :
    Calls Try.prog 52 #[.agg us.toArray, .int .i64 a] w fun e w' => e = .returned (.int .i64 (Tk.takes p .given a)) ∧ Below w.heap.size w w' := by
  have HB : Hid (Below w.heap.size w (w.alloc (.cells us.toArray 58))) := Lib.hid (by repeat (first | exact Below.refl _ _ | assumption | refine Below.setCell ?_ (by first | (simp; done) | (simp; omega) | omega) _ | refine below_drewN ?_ _ | refine Below.drew ?_ | refine Below.alloc ?_ (by first | (simp; done) | (simp; omega) | omega) _))
  cases hr : codeAt p a 2 with
  | none => rw [hr] at ha; cases ha
  | some x =>
    have HC := Lib.hid (code_some (h.new HB.out) (by decide) hr)
    have ht : Tk.takes p .given a = min x.defaults many + x.free.length := by simp only [Tk.takes, hr]
    rw [ht]
    have hdef := codeAt_def hr
    obtain ⟨A, n, kk, cs, rfl, hp, hc⟩ := h.parts
    obtain ⟨A1, n1, c1, A2, n2, c2, A3, n3, c3, A4, n4, c4, A5, n5, c5, A6, n6, c6, rfl, -⟩ := hc.parts
    clear hp hc h hr ha ht
    obtain ⟨nm, kd, pa, de, ge, lo, ce, fr, na, co, is⟩ := x
    simp only at hdef
    go_enter Try.func52, Try.ntmps52
    go_wp2_with ((with_reducible refine HC.out.mono ?_); rintro e w' ⟨⟨ds, rfl, hds⟩, hb2⟩; have HB2 := Lib.hid hb2; obtain ⟨B1, m1, d1, B2, m2, d2, B3, m3, d3, B4, m4, d4, B5, m5, d5, B6, m6, d6, rfl, -, -, h3, -, -, -, -, -, h3m, -⟩ := hds.parts; have hl3 := Lib.hid h3.1; unfold Most at h3m; clear hb2 hds h3)
    all_goals go_ret
    all_goals exact ⟨ret_int (by have h9 : fr.length = m3 := hl3.out; unfold many; omega), (HB.out.trans (HB2.out.mono HB.out.size)).alloc (by have := HB.out.size; have := HB2.out.size; omega) _⟩
set_option maxRecDepth 100000 in
set_option maxHeartbeats 1000000 in
theorem around_takes {w : World} {p : ProgD} {c : CodeD} {us : List Value} (h : UnitAt w p c us) (a : Int) (ha : (codeAt p a 3).isSome = true) :
    Calls Try.prog 53 #[.agg us.toArray, .int .i64 a] w fun e w' => e = .returned (.int .i64 (Tk.takes p .around a)) ∧ Below w.heap.size w w' := by
  have HB : Hid (Below w.heap.size w (w.alloc (.cells us.toArray 58))) := Lib.hid (by repeat (first | exact Below.refl _ _ | assumption | refine Below.setCell ?_ (by first | (simp; done) | (simp; omega) | omega) _ | refine below_drewN ?_ _ | refine Below.drew ?_ | refine Below.alloc ?_ (by first | (simp; done) | (simp; omega) | omega) _))
  cases hr : codeAt p a 3 with
  | none => rw [hr] at ha; cases ha
  | some x =>
    have HC := Lib.hid (code_some (h.new HB.out) (by decide) hr)
    have ht : Tk.takes p .around a = x.free.length := by simp only [Tk.takes, hr]
    rw [ht]
    
    obtain ⟨A, n, kk, cs, rfl, hp, hc⟩ := h.parts
    obtain ⟨A1, n1, c1, A2, n2, c2, A3, n3, c3, A4, n4, c4, A5, n5, c5, A6, n6, c6, rfl, -⟩ := hc.parts
    clear hp hc h hr ha ht
    obtain ⟨nm, kd, pa, de, ge, lo, ce, fr, na, co, is⟩ := x
    
    go_enter Try.func53, Try.ntmps53
    go_wp2_with ((with_reducible refine HC.out.mono ?_); rintro e w' ⟨⟨ds, rfl, hds⟩, hb2⟩; have HB2 := Lib.hid hb2; obtain ⟨B1, m1, d1, B2, m2, d2, B3, m3, d3, B4, m4, d4, B5, m5, d5, B6, m6, d6, rfl, -, -, h3, -, -, -, -, -, h3m, -⟩ := hds.parts; have hl3 := Lib.hid h3.1; unfold Most at h3m; clear hb2 hds h3)
    all_goals go_ret
    all_goals exact ⟨ret_int (by have h9 : fr.length = m3 := hl3.out; omega), (HB.out.trans (HB2.out.mono HB.out.size)).alloc (by have := HB.out.size; have := HB2.out.size; omega) _⟩
theorem just_made (n : Int) (w : World) : Calls Try.prog 35 #[.int .i64 n] w fun e w' => (∃ v, e = .returned v ∧ TkIs w' v (.just n)) ∧ Below w.heap.size w w' := by
  go_enter Try.func35, Try.ntmps35
  go_wp2_with fail
  go_ret
  exact ⟨⟨_, rfl, _, rfl, Blk.new w 3 #[.int .i64 n]⟩, (by repeat (first | exact Below.refl _ _ | assumption | refine Below.setCell ?_ (by first | (simp; done) | (simp; omega) | omega) _ | refine below_drewN ?_ _ | refine Below.drew ?_ | refine Below.alloc ?_ (by first | (simp; done) | (simp; omega) | omega) _))⟩
theorem each_made (n m : Int) (w : World) : Calls Try.prog 37 #[.int .i64 n, .int .i64 m] w fun e w' => (∃ v, e = .returned v ∧ TkIs w' v (.each n m)) ∧ Below w.heap.size w w' := by
  have hz : (w.alloc (.cells #[.int .i64 n] 3)).heap.size = w.heap.size + 1 := by simp
  have h1 := (Blk.new w 3 #[.int .i64 n]).alloc (.cells #[.int .i64 m] 3)
  have h2 := Blk.new (w.alloc (.cells #[.int .i64 n] 3)) 3 #[.int .i64 m]
  rw [hz] at h2
  have H1 := Lib.hid h1
  have H2 := Lib.hid h2
  clear h1 h2 hz
  go_enter Try.func37, Try.ntmps37
  go_wp2_with fail
  go_ret
  exact ⟨⟨_, rfl, _, _, rfl, H1.out, H2.out⟩, (by repeat (first | exact Below.refl _ _ | assumption | refine Below.setCell ?_ (by first | (simp; done) | (simp; omega) | omega) _ | refine below_drewN ?_ _ | refine Below.drew ?_ | refine Below.alloc ?_ (by first | (simp; done) | (simp; omega) | omega) _))⟩
theorem below_made (F : Nat) (w : World) : Calls Try.prog 39 #[.func (.func F) #[] #[]] w fun e w' => (∃ b, e = .returned (.func (.func 40) #[] #[.pointer (some ⟨b, 0, none⟩)]) ∧ w.heap.size ≤ b ∧ Blk w' b 91 #[.func (.func F) #[] #[]]) ∧ Below w.heap.size w w' := by
  go_enter Try.func39, Try.ntmps39
  go_wp2_with fail
  go_ret
  exact ⟨⟨_, rfl, Nat.le_refl _, Blk.new w 91 #[.func (.func F) #[] #[]]⟩, (by repeat (first | exact Below.refl _ _ | assumption | refine Below.setCell ?_ (by first | (simp; done) | (simp; omega) | omega) _ | refine below_drewN ?_ _ | refine Below.drew ?_ | refine Below.alloc ?_ (by first | (simp; done) | (simp; omega) | omega) _))⟩
end Go.Proofs.Ytgnejkmojfhfpaa
