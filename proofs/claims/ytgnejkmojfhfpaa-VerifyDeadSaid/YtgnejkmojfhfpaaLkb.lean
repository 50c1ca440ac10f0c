/- verify.look: jumps. -/
import Derived.Test.YtgnejkmojfhfpaaLka
namespace Go.Proofs.Ytgnejkmojfhfpaa
open Go.RowKit
set_option linter.unusedVariables false
set_option linter.unusedSimpArgs false
set_option maxRecDepth 100000 in
set_option maxHeartbeats 4000000 in
theorem look_jump {w : World} {p : ProgD} {c : CodeD} {us : List Value} {tp : Option Addr} {bl : List (Int × Int)} {F : Nat} {caps : Array Value} {vm : Value} {op a T lv h : Int} {i : Nat} (hu : UnitAt w p c us) (hvm : IsFn vm)
    (hT : TkFn w us a F caps T) (hT0 : 0 ≤ T ∧ T ≤ 281474976710656) (hh : 0 ≤ h ∧ h ≤ 70368744177664) (hlv : 0 ≤ lv ∧ lv ≤ 3) (hi : i ≤ 17592186044416) (hch : ChainAt w tp bl) (hlow : ¬ h - T < 0) (hblk : ∀ b ∈ bl.head?, ¬ h - T < b.2) (ho : op = 36) :
    Calls Try.prog 24 #[.agg us.toArray, .agg #[vm, .func (.func F) #[] caps, .int .i64 lv], .agg #[.int .i64 op, .int .i64 a], .int .i64 i, .agg #[.int .i64 h, .pointer tp]] w (LookR w (some [(a, ⟨h, bl⟩)])) := by
  by_cases hnil : bl = []
  · obtain ⟨hF, hK⟩ := hT
    have KT := Lib.hid hK
    have HCH := Lib.hid hch
    obtain ⟨f1, x1, y1, rfl⟩ := hvm
    obtain ⟨A, n, kk, cs, rfl, hp, hc⟩ := hu.parts
    obtain ⟨A1, n1, c1, A2, n2, c2, A3, n3, c3, A4, n4, c4, A5, n5, c5, A6, n6, c6, rfl, -⟩ := hc.parts
    subst hnil
    obtain rfl : tp = none := hch
    clear hK hp hc hu
    have d0 : decide (h - T < 0) = false := decide_eq_false hlow
    clear hblk
    subst ho
    go_enter Try.func24, Try.ntmps24
    go_wp2_with ((with_reducible refine (KT.out _ (by exact (by repeat (first | exact Below.refl _ _ | assumption | refine Below.setCell ?_ (by first | (simp; done) | (simp; omega) | omega) _ | refine below_drewN ?_ _ | refine Below.drew ?_ | refine Below.alloc ?_ (by first | (simp; done) | (simp; omega) | omega) _)))).mono ?_); rintro e w2 ⟨rfl, hw2⟩; have HW2 := Lib.hid hw2; obtain ⟨hc2, hf2⟩ := bcell hw2; have hz2 := hw2.size; simp at hz2; have z0 : w.heap.size < w2.heap.size := (by omega); have z1 : w.heap.size + 1 < w2.heap.size := (by omega); have z2 : w.heap.size + 1 + 1 < w2.heap.size := (by omega); have z3 : w.heap.size + 1 + 1 + 1 < w2.heap.size := (by omega); clear hw2)
    go_ret2
    exact ⟨(Below.trans (by exact (by repeat (first | exact Below.refl _ _ | assumption | refine Below.setCell ?_ (by first | (simp; done) | (simp; omega) | omega) _ | refine below_drewN ?_ _ | refine Below.drew ?_ | refine Below.alloc ?_ (by first | (simp; done) | (simp; omega) | omega) _))) ((HW2.out.mono (by simp; omega)).trans (by exact (by repeat (first | exact Below.refl _ _ | assumption | refine Below.setCell ?_ (by first | (simp; done) | (simp; omega) | omega) _ | refine below_drewN ?_ _ | refine Below.drew ?_ | refine Below.alloc ?_ (by first | (simp; done) | (simp; omega) | omega) _))))), _, _, _, rfl, ways_one (HCH.out.new (Below.trans (by exact (by repeat (first | exact Below.refl _ _ | assumption | refine Below.setCell ?_ (by first | (simp; done) | (simp; omega) | omega) _ | refine below_drewN ?_ _ | refine Below.drew ?_ | refine Below.alloc ?_ (by first | (simp; done) | (simp; omega) | omega) _))) ((HW2.out.mono (by simp; omega)).trans (by exact (by repeat (first | exact Below.refl _ _ | assumption | refine Below.setCell ?_ (by first | (simp; done) | (simp; omega) | omega) _ | refine below_drewN ?_ _ | refine Below.drew ?_ | refine Below.alloc ?_ (by first | (simp; done) | (simp; omega) | omega) _)))))) rfl (by simp), fun b o e => by cases e; omega⟩
  · have hne : bl ≠ [] := hnil
    clear hnil
    obtain ⟨hF, hK⟩ := hT
    have KT := Lib.hid hK
    have HCH := Lib.hid hch
    obtain ⟨f1, x1, y1, rfl⟩ := hvm
    obtain ⟨A, n, kk, cs, rfl, hp, hc⟩ := hu.parts
    obtain ⟨A1, n1, c1, A2, n2, c2, A3, n3, c3, A4, n4, c4, A5, n5, c5, A6, n6, c6, rfl, -⟩ := hc.parts
    obtain ⟨⟨ba, bh⟩, r, rfl⟩ : ∃ b r, bl = b :: r := by
      cases bl with
      | nil => exact absurd rfl hne
      | cons b r => exact ⟨b, r, rfl⟩
    obtain ⟨cb, q, rfl, hblk, hrest⟩ := hch
    have g0 := hblk.cell 0
    have g1 := hblk.cell 1
    have g2 := hblk.cell 2
    have gl := hblk.lt
    simp only [List.getElem?_toArray, List.getElem?_cons_zero, List.getElem?_cons_succ] at g0 g1 g2
    have HR := Lib.hid hrest
    have HBLK := Lib.hid hblk
    clear hblk hrest hne
    clear hK hp hc hu
    have hb0 : ¬ h - T < bh := hblk (ba, bh) (by simp)
    have d0 : decide (h - T < 0) = false := decide_eq_false hlow
    have d9 : decide (h - T < bh) = false := decide_eq_false hb0
    clear hblk
    subst ho
    go_enter Try.func24, Try.ntmps24
    go_wp2_with ((with_reducible refine (KT.out _ (by exact (by repeat (first | exact Below.refl _ _ | assumption | refine Below.setCell ?_ (by first | (simp; done) | (simp; omega) | omega) _ | refine below_drewN ?_ _ | refine Below.drew ?_ | refine Below.alloc ?_ (by first | (simp; done) | (simp; omega) | omega) _)))).mono ?_); rintro e w2 ⟨rfl, hw2⟩; have HW2 := Lib.hid hw2; obtain ⟨hc2, hf2⟩ := bcell hw2; have hz2 := hw2.size; simp at hz2; have z0 : w.heap.size < w2.heap.size := (by omega); have z1 : w.heap.size + 1 < w2.heap.size := (by omega); have z2 : w.heap.size + 1 + 1 < w2.heap.size := (by omega); have z3 : w.heap.size + 1 + 1 + 1 < w2.heap.size := (by omega); have hbk := HBLK.out.new' (Below.trans (by exact (by repeat (first | exact Below.refl _ _ | assumption | refine Below.setCell ?_ (by first | (simp; done) | (simp; omega) | omega) _ | refine below_drewN ?_ _ | refine Below.drew ?_ | refine Below.alloc ?_ (by first | (simp; done) | (simp; omega) | omega) _))) (hw2.mono (by simp; omega))); have y0 := hbk.cell 0; have y1 := hbk.cell 1; have y2 := hbk.cell 2; have yl := hbk.lt; simp only [List.getElem?_toArray, List.getElem?_cons_zero, List.getElem?_cons_succ] at y0 y1 y2; clear hbk hw2)
    go_ret2
    exact ⟨(Below.trans (by exact (by repeat (first | exact Below.refl _ _ | assumption | refine Below.setCell ?_ (by first | (simp; done) | (simp; omega) | omega) _ | refine below_drewN ?_ _ | refine Below.drew ?_ | refine Below.alloc ?_ (by first | (simp; done) | (simp; omega) | omega) _))) ((HW2.out.mono (by simp; omega)).trans (by exact (by repeat (first | exact Below.refl _ _ | assumption | refine Below.setCell ?_ (by first | (simp; done) | (simp; omega) | omega) _ | refine below_drewN ?_ _ | refine Below.drew ?_ | refine Below.alloc ?_ (by first | (simp; done) | (simp; omega) | omega) _))))), _, _, _, rfl, ways_one (HCH.out.new (Below.trans (by exact (by repeat (first | exact Below.refl _ _ | assumption | refine Below.setCell ?_ (by first | (simp; done) | (simp; omega) | omega) _ | refine below_drewN ?_ _ | refine Below.drew ?_ | refine Below.alloc ?_ (by first | (simp; done) | (simp; omega) | omega) _))) ((HW2.out.mono (by simp; omega)).trans (by exact (by repeat (first | exact Below.refl _ _ | assumption | refine Below.setCell ?_ (by first | (simp; done) | (simp; omega) | omega) _ | refine below_drewN ?_ _ | refine Below.drew ?_ | refine Below.alloc ?_ (by first | (simp; done) | (simp; omega) | omega) _)))))) rfl (by simp), fun b o e => by cases e; omega⟩
set_option maxRecDepth 100000 in
set_option maxHeartbeats 4000000 in
theorem look_stop {w : World} {p : ProgD} {c : CodeD} {us : List Value} {tp : Option Addr} {bl : List (Int × Int)} {F : Nat} {caps : Array Value} {vm : Value} {op a T lv h : Int} {i : Nat} (hu : UnitAt w p c us) (hvm : IsFn vm)
    (hT : TkFn w us a F caps T) (hT0 : 0 ≤ T ∧ T ≤ 281474976710656) (hh : 0 ≤ h ∧ h ≤ 70368744177664) (hlv : 0 ≤ lv ∧ lv ≤ 3) (hi : i ≤ 17592186044416) (hch : ChainAt w tp bl) (hlow : ¬ h - T < 0) (hblk : ∀ b ∈ bl.head?, ¬ h - T < b.2) (ho : op = 50 ∨ op = 51 ∨ op = 52 ∨ op = 55 ∨ op = 56) :
    Calls Try.prog 24 #[.agg us.toArray, .agg #[vm, .func (.func F) #[] caps, .int .i64 lv], .agg #[.int .i64 op, .int .i64 a], .int .i64 i, .agg #[.int .i64 h, .pointer tp]] w (LookR w (some [])) := by
  by_cases hnil : bl = []
  · obtain ⟨hF, hK⟩ := hT
    have KT := Lib.hid hK
    have HCH := Lib.hid hch
    obtain ⟨f1, x1, y1, rfl⟩ := hvm
    obtain ⟨A, n, kk, cs, rfl, hp, hc⟩ := hu.parts
    obtain ⟨A1, n1, c1, A2, n2, c2, A3, n3, c3, A4, n4, c4, A5, n5, c5, A6, n6, c6, rfl, -⟩ := hc.parts
    subst hnil
    obtain rfl : tp = none := hch
    clear hK hp hc hu
    have d0 : decide (h - T < 0) = false := decide_eq_false hlow
    clear hblk
    rcases ho with rfl | rfl | rfl | rfl | rfl
    all_goals
      go_enter Try.func24, Try.ntmps24
      go_wp2_with ((with_reducible refine (KT.out _ (by exact (by repeat (first | exact Below.refl _ _ | assumption | refine Below.setCell ?_ (by first | (simp; done) | (simp; omega) | omega) _ | refine below_drewN ?_ _ | refine Below.drew ?_ | refine Below.alloc ?_ (by first | (simp; done) | (simp; omega) | omega) _)))).mono ?_); rintro e w2 ⟨rfl, hw2⟩; have HW2 := Lib.hid hw2; obtain ⟨hc2, hf2⟩ := bcell hw2; have hz2 := hw2.size; simp at hz2; have z0 : w.heap.size < w2.heap.size := (by omega); have z1 : w.heap.size + 1 < w2.heap.size := (by omega); have z2 : w.heap.size + 1 + 1 < w2.heap.size := (by omega); have z3 : w.heap.size + 1 + 1 + 1 < w2.heap.size := (by omega); clear hw2)
      go_ret2
      exact ⟨(Below.trans (by exact (by repeat (first | exact Below.refl _ _ | assumption | refine Below.setCell ?_ (by first | (simp; done) | (simp; omega) | omega) _ | refine below_drewN ?_ _ | refine Below.drew ?_ | refine Below.alloc ?_ (by first | (simp; done) | (simp; omega) | omega) _))) ((HW2.out.mono (by simp; omega)).trans (by exact (by repeat (first | exact Below.refl _ _ | assumption | refine Below.setCell ?_ (by first | (simp; done) | (simp; omega) | omega) _ | refine below_drewN ?_ _ | refine Below.drew ?_ | refine Below.alloc ?_ (by first | (simp; done) | (simp; omega) | omega) _))))), _, _, _, rfl, WaysAt.nil_ _, fun b o e => by cases e⟩
  · have hne : bl ≠ [] := hnil
    clear hnil
    obtain ⟨hF, hK⟩ := hT
    have KT := Lib.hid hK
    have HCH := Lib.hid hch
    obtain ⟨f1, x1, y1, rfl⟩ := hvm
    obtain ⟨A, n, kk, cs, rfl, hp, hc⟩ := hu.parts
    obtain ⟨A1, n1, c1, A2, n2, c2, A3, n3, c3, A4, n4, c4, A5, n5, c5, A6, n6, c6, rfl, -⟩ := hc.parts
    obtain ⟨⟨ba, bh⟩, r, rfl⟩ : ∃ b r, bl = b :: r := by
      cases bl with
      | nil => exact absurd rfl hne
      | cons b r => exact ⟨b, r, rfl⟩
    obtain ⟨cb, q, rfl, hblk, hrest⟩ := hch
    have g0 := hblk.cell 0
    have g1 := hblk.cell 1
    have g2 := hblk.cell 2
    have gl := hblk.lt
    simp only [List.getElem?_toArray, List.getElem?_cons_zero, List.getElem?_cons_succ] at g0 g1 g2
    have HR := Lib.hid hrest
    have HBLK := Lib.hid hblk
    clear hblk hrest hne
    clear hK hp hc hu
    have hb0 : ¬ h - T < bh := hblk (ba, bh) (by simp)
    have d0 : decide (h - T < 0) = false := decide_eq_false hlow
    have d9 : decide (h - T < bh) = false := decide_eq_false hb0
    clear hblk
    rcases ho with rfl | rfl | rfl | rfl | rfl
    all_goals
      go_enter Try.func24, Try.ntmps24
      go_wp2_with ((with_reducible refine (KT.out _ (by exact (by repeat (first | exact Below.refl _ _ | assumption | refine Below.setCell ?_ (by first | (simp; done) | (simp; omega) | omega) _ | refine below_drewN ?_ _ | refine Below.drew ?_ | refine Below.alloc ?_ (by first | (simp; done) | (simp; omega) | omega) _)))).mono ?_); rintro e w2 ⟨rfl, hw2⟩; have HW2 := Lib.hid hw2; obtain ⟨hc2, hf2⟩ := bcell hw2; have hz2 := hw2.size; simp at hz2; have z0 : w.heap.size < w2.heap.size := (by omega); have z1 : w.heap.size + 1 < w2.heap.size := (by omega); have z2 : w.heap.size + 1 + 1 < w2.heap.size := (by omega); have z3 : w.heap.size + 1 + 1 + 1 < w2.heap.size := (by omega); have hbk := HBLK.out.new' (Below.trans (by exact (by repeat (first | exact Below.refl _ _ | assumption | refine Below.setCell ?_ (by first | (simp; done) | (simp; omega) | omega) _ | refine below_drewN ?_ _ | refine Below.drew ?_ | refine Below.alloc ?_ (by first | (simp; done) | (simp; omega) | omega) _))) (hw2.mono (by simp; omega))); have y0 := hbk.cell 0; have y1 := hbk.cell 1; have y2 := hbk.cell 2; have yl := hbk.lt; simp only [List.getElem?_toArray, List.getElem?_cons_zero, List.getElem?_cons_succ] at y0 y1 y2; clear hbk hw2)
      go_ret2
      exact ⟨(Below.trans (by exact (by repeat (first | exact Below.refl _ _ | assumption | refine Below.setCell ?_ (by first | (simp; done) | (simp; omega) | omega) _ | refine below_drewN ?_ _ | refine Below.drew ?_ | refine Below.alloc ?_ (by first | (simp; done) | (simp; omega) | omega) _))) ((HW2.out.mono (by simp; omega)).trans (by exact (by repeat (first | exact Below.refl _ _ | assumption | refine Below.setCell ?_ (by first | (simp; done) | (simp; omega) | omega) _ | refine below_drewN ?_ _ | refine Below.drew ?_ | refine Below.alloc ?_ (by first | (simp; done) | (simp; omega) | omega) _))))), _, _, _, rfl, WaysAt.nil_ _, fun b o e => by cases e⟩
set_option maxRecDepth 100000 in
set_option maxHeartbeats 4000000 in
theorem look_both {w : World} {p : ProgD} {c : CodeD} {us : List Value} {tp : Option Addr} {bl : List (Int × Int)} {F : Nat} {caps : Array Value} {vm : Value} {op a T lv h : Int} {i : Nat} (hu : UnitAt w p c us) (hvm : IsFn vm)
    (hT : TkFn w us a F caps T) (hT0 : 0 ≤ T ∧ T ≤ 281474976710656) (hh : 0 ≤ h ∧ h ≤ 70368744177664) (hlv : 0 ≤ lv ∧ lv ≤ 3) (hi : i ≤ 17592186044416) (hch : ChainAt w tp bl) (hlow : ¬ h - T < 0) (hblk : ∀ b ∈ bl.head?, ¬ h - T < b.2) (ho : op = 37 ∨ op = 38) :
    Calls Try.prog 24 #[.agg us.toArray, .agg #[vm, .func (.func F) #[] caps, .int .i64 lv], .agg #[.int .i64 op, .int .i64 a], .int .i64 i, .agg #[.int .i64 h, .pointer tp]] w (LookR w (some [((i : Int) + 1, ⟨h - T + lv, bl⟩), (a, ⟨h - T + lv, bl⟩)])) := by
  by_cases hnil : bl = []
  · obtain ⟨hF, hK⟩ := hT
    have KT := Lib.hid hK
    have HCH := Lib.hid hch
    obtain ⟨f1, x1, y1, rfl⟩ := hvm
    obtain ⟨A, n, kk, cs, rfl, hp, hc⟩ := hu.parts
    obtain ⟨A1, n1, c1, A2, n2, c2, A3, n3, c3, A4, n4, c4, A5, n5, c5, A6, n6, c6, rfl, -⟩ := hc.parts
    subst hnil
    obtain rfl : tp = none := hch
    clear hK hp hc hu
    have d0 : decide (h - T < 0) = false := decide_eq_false hlow
    clear hblk
    rcases ho with rfl | rfl
    all_goals
      go_enter Try.func24, Try.ntmps24
      go_wp2_with ((with_reducible refine (KT.out _ (by exact (by repeat (first | exact Below.refl _ _ | assumption | refine Below.setCell ?_ (by first | (simp; done) | (simp; omega) | omega) _ | refine below_drewN ?_ _ | refine Below.drew ?_ | refine Below.alloc ?_ (by first | (simp; done) | (simp; omega) | omega) _)))).mono ?_); rintro e w2 ⟨rfl, hw2⟩; have HW2 := Lib.hid hw2; obtain ⟨hc2, hf2⟩ := bcell hw2; have hz2 := hw2.size; simp at hz2; have z0 : w.heap.size < w2.heap.size := (by omega); have z1 : w.heap.size + 1 < w2.heap.size := (by omega); have z2 : w.heap.size + 1 + 1 < w2.heap.size := (by omega); have z3 : w.heap.size + 1 + 1 + 1 < w2.heap.size := (by omega); clear hw2)
      go_ret2
      exact ⟨(Below.trans (by exact (by repeat (first | exact Below.refl _ _ | assumption | refine Below.setCell ?_ (by first | (simp; done) | (simp; omega) | omega) _ | refine below_drewN ?_ _ | refine Below.drew ?_ | refine Below.alloc ?_ (by first | (simp; done) | (simp; omega) | omega) _))) ((HW2.out.mono (by simp; omega)).trans (by exact (by repeat (first | exact Below.refl _ _ | assumption | refine Below.setCell ?_ (by first | (simp; done) | (simp; omega) | omega) _ | refine below_drewN ?_ _ | refine Below.drew ?_ | refine Below.alloc ?_ (by first | (simp; done) | (simp; omega) | omega) _))))), _, _, _, rfl, ways_two (HCH.out.new (Below.trans (by exact (by repeat (first | exact Below.refl _ _ | assumption | refine Below.setCell ?_ (by first | (simp; done) | (simp; omega) | omega) _ | refine below_drewN ?_ _ | refine Below.drew ?_ | refine Below.alloc ?_ (by first | (simp; done) | (simp; omega) | omega) _))) ((HW2.out.mono (by simp; omega)).trans (by exact (by repeat (first | exact Below.refl _ _ | assumption | refine Below.setCell ?_ (by first | (simp; done) | (simp; omega) | omega) _ | refine below_drewN ?_ _ | refine Below.drew ?_ | refine Below.alloc ?_ (by first | (simp; done) | (simp; omega) | omega) _)))))) (HCH.out.new (Below.trans (by exact (by repeat (first | exact Below.refl _ _ | assumption | refine Below.setCell ?_ (by first | (simp; done) | (simp; omega) | omega) _ | refine below_drewN ?_ _ | refine Below.drew ?_ | refine Below.alloc ?_ (by first | (simp; done) | (simp; omega) | omega) _))) ((HW2.out.mono (by simp; omega)).trans (by exact (by repeat (first | exact Below.refl _ _ | assumption | refine Below.setCell ?_ (by first | (simp; done) | (simp; omega) | omega) _ | refine below_drewN ?_ _ | refine Below.drew ?_ | refine Below.alloc ?_ (by first | (simp; done) | (simp; omega) | omega) _)))))) rfl (by simp), fun b o e => by cases e; omega⟩
  · have hne : bl ≠ [] := hnil
    clear hnil
    obtain ⟨hF, hK⟩ := hT
    have KT := Lib.hid hK
    have HCH := Lib.hid hch
    obtain ⟨f1, x1, y1, rfl⟩ := hvm
    obtain ⟨A, n, kk, cs, rfl, hp, hc⟩ := hu.parts
    obtain ⟨A1, n1, c1, A2, n2, c2, A3, n3, c3, A4, n4, c4, A5, n5, c5, A6, n6, c6, rfl, -⟩ := hc.parts
    obtain ⟨⟨ba, bh⟩, r, rfl⟩ : ∃ b r, bl = b :: r := by
      cases bl with
      | nil => exact absurd rfl hne
      | cons b r => exact ⟨b, r, rfl⟩
    obtain ⟨cb, q, rfl, hblk, hrest⟩ := hch
    have g0 := hblk.cell 0
    have g1 := hblk.cell 1
    have g2 := hblk.cell 2
    have gl := hblk.lt
    simp only [List.getElem?_toArray, List.getElem?_cons_zero, List.getElem?_cons_succ] at g0 g1 g2
    have HR := Lib.hid hrest
    have HBLK := Lib.hid hblk
    clear hblk hrest hne
    clear hK hp hc hu
    have hb0 : ¬ h - T < bh := hblk (ba, bh) (by simp)
    have d0 : decide (h - T < 0) = false := decide_eq_false hlow
    have d9 : decide (h - T < bh) = false := decide_eq_false hb0
    clear hblk
    rcases ho with rfl | rfl
    all_goals
      go_enter Try.func24, Try.ntmps24
      go_wp2_with ((with_reducible refine (KT.out _ (by exact (by repeat (first | exact Below.refl _ _ | assumption | refine Below.setCell ?_ (by first | (simp; done) | (simp; omega) | omega) _ | refine below_drewN ?_ _ | refine Below.drew ?_ | refine Below.alloc ?_ (by first | (simp; done) | (simp; omega) | omega) _)))).mono ?_); rintro e w2 ⟨rfl, hw2⟩; have HW2 := Lib.hid hw2; obtain ⟨hc2, hf2⟩ := bcell hw2; have hz2 := hw2.size; simp at hz2; have z0 : w.heap.size < w2.heap.size := (by omega); have z1 : w.heap.size + 1 < w2.heap.size := (by omega); have z2 : w.heap.size + 1 + 1 < w2.heap.size := (by omega); have z3 : w.heap.size + 1 + 1 + 1 < w2.heap.size := (by omega); have hbk := HBLK.out.new' (Below.trans (by exact (by repeat (first | exact Below.refl _ _ | assumption | refine Below.setCell ?_ (by first | (simp; done) | (simp; omega) | omega) _ | refine below_drewN ?_ _ | refine Below.drew ?_ | refine Below.alloc ?_ (by first | (simp; done) | (simp; omega) | omega) _))) (hw2.mono (by simp; omega))); have y0 := hbk.cell 0; have y1 := hbk.cell 1; have y2 := hbk.cell 2; have yl := hbk.lt; simp only [List.getElem?_toArray, List.getElem?_cons_zero, List.getElem?_cons_succ] at y0 y1 y2; clear hbk hw2)
      go_ret2
      exact ⟨(Below.trans (by exact (by repeat (first | exact Below.refl _ _ | assumption | refine Below.setCell ?_ (by first | (simp; done) | (simp; omega) | omega) _ | refine below_drewN ?_ _ | refine Below.drew ?_ | refine Below.alloc ?_ (by first | (simp; done) | (simp; omega) | omega) _))) ((HW2.out.mono (by simp; omega)).trans (by exact (by repeat (first | exact Below.refl _ _ | assumption | refine Below.setCell ?_ (by first | (simp; done) | (simp; omega) | omega) _ | refine below_drewN ?_ _ | refine Below.drew ?_ | refine Below.alloc ?_ (by first | (simp; done) | (simp; omega) | omega) _))))), _, _, _, rfl, ways_two (HCH.out.new (Below.trans (by exact (by repeat (first | exact Below.refl _ _ | assumption | refine Below.setCell ?_ (by first | (simp; done) | (simp; omega) | omega) _ | refine below_drewN ?_ _ | refine Below.drew ?_ | refine Below.alloc ?_ (by first | (simp; done) | (simp; omega) | omega) _))) ((HW2.out.mono (by simp; omega)).trans (by exact (by repeat (first | exact Below.refl _ _ | assumption | refine Below.setCell ?_ (by first | (simp; done) | (simp; omega) | omega) _ | refine below_drewN ?_ _ | refine Below.drew ?_ | refine Below.alloc ?_ (by first | (simp; done) | (simp; omega) | omega) _)))))) (HCH.out.new (Below.trans (by exact (by repeat (first | exact Below.refl _ _ | assumption | refine Below.setCell ?_ (by first | (simp; done) | (simp; omega) | omega) _ | refine below_drewN ?_ _ | refine Below.drew ?_ | refine Below.alloc ?_ (by first | (simp; done) | (simp; omega) | omega) _))) ((HW2.out.mono (by simp; omega)).trans (by exact (by repeat (first | exact Below.refl _ _ | assumption | refine Below.setCell ?_ (by first | (simp; done) | (simp; omega) | omega) _ | refine below_drewN ?_ _ | refine Below.drew ?_ | refine Below.alloc ?_ (by first | (simp; done) | (simp; omega) | omega) _)))))) rfl (by simp), fun b o e => by cases e; omega⟩
end Go.Proofs.Ytgnejkmojfhfpaa
