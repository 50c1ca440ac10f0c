/- The document's examples: seen. -/
import Derived.Test.YtgnejkmojfhfpaaPrm
import Derived.Test.YtgnejkmojfhfpaaRsm
namespace Go.Proofs.Ytgnejkmojfhfpaa
open Go.RowKit
set_option linter.unusedVariables false
set_option linter.unusedSimpArgs false

/-- a module's code -/
def modC (ins : List (Int × Int)) : CodeD := ⟨⟨#[]⟩, 1, 0, 0, false, [⟨#[121]⟩], [], [], [⟨#[120]⟩], [⟨0, 0, ⟨#[]⟩⟩], ins⟩
theorem ins_row (w : World) (ins : List (Int × Int)) (hn : ins.length ≤ 1000) : RdF insCs 2 (w.alloc (.cells (ins.flatMap insCs).toArray 43)) (some ⟨w.heap.size, 0, none⟩) ins.length ins.length ins := by
  have hl : ∀ l : List (Int × Int), (l.flatMap insCs).length = l.length * 2 := by
    intro l
    induction l with
    | nil => rfl
    | cons y l ih => rw [List.flatMap_cons, List.length_append, ih]; simp [insCs]; omega
  obtain ⟨A, c, e, hr, _⟩ := Own.rd (Own.made (t := 43) (sz := 2) w (ins.flatMap insCs).toArray ins.length (by omega) (by simpa using hl ins))
  injection e with e1 e2 e3
  subst e1 e3
  exact ⟨rfl, hr⟩
theorem str_row (w : World) (s : ByteArray) : RdS (w.alloc (.cells #[.string s] 9)) (some ⟨w.heap.size, 0, none⟩) 1 1 [s] := by
  obtain ⟨A, c, e, hr, _⟩ := Own.rd (Own.made (t := 9) (sz := 1) w #[.string s] 1 (by omega) rfl)
  injection e with e1 e2 e3
  subst e1 e3
  exact ⟨rfl, hr⟩
def ModR (w : World) (ins : List (Int × Int)) (e : Ending) (w' : World) : Prop := Below w.heap.size w w' ∧ ∃ A, e = .returned (.slice A 1 1) ∧ ProgAt w' A 1 1 [modC ins]
theorem int_row (w : World) (l : List Int) (hn : l.length ≤ 1000) : Rd (w.alloc (.cells (l.map (Value.int .i64)).toArray 3)) (some ⟨w.heap.size, 0, none⟩) l.length l.length 1 (l.map (Value.int .i64)) := by
  obtain ⟨A, c, e, hr, _⟩ := Own.rd (Own.made (t := 3) (sz := 1) w (l.map (Value.int .i64)).toArray l.length (by omega) (by simp))
  injection e with e1 e2 e3
  subst e1 e3
  exact hr
theorem val_row (w : World) : RdF valCs 3 (w.alloc (.cells #[.int .i64 0, .int .i64 0, .string ⟨#[]⟩] 87)) (some ⟨w.heap.size, 0, none⟩) 1 1 [⟨0, 0, ⟨#[]⟩⟩] := by
  obtain ⟨A, c, e, hr, _⟩ := Own.rd (Own.made (t := 87) (sz := 3) w #[.int .i64 0, .int .i64 0, .string ⟨#[]⟩] 1 (by omega) rfl)
  injection e with e1 e2 e3
  subst e1 e3
  exact ⟨rfl, hr⟩
theorem code_row (w : World) (cs : List Value) (h : cs.length = 11) : Rd (w.alloc (.cells cs.toArray 38)) (some ⟨w.heap.size, 0, none⟩) 1 1 11 ([cs].flatMap id) := by
  obtain ⟨A, c, e, hr, _⟩ := Own.rd (Own.made (t := 38) (sz := 11) w cs.toArray 1 (by omega) (by simpa using h))
  injection e with e1 e2 e3
  subst e1 e3
  simpa using hr
theorem module_at {w W1 W2 W3 W4 : World} {A : Option Addr} {n c : Nat} {ins : List (Int × Int)} (h : RdF insCs 2 w A n c ins) (hn : n ≤ 1000)
    (h1 : W1 = w.alloc (.cells #[.int .i64 0, .int .i64 0, .string ⟨#[]⟩] 87)) (h2 : W2 = W1.alloc (.cells #[.string ⟨#[120]⟩] 9)) (h3 : W3 = W2.alloc (.cells #[.string ⟨#[121]⟩] 9))
    (h4 : W4 = W3.alloc (.cells #[.string ⟨#[]⟩, .int .i64 1, .int .i64 0, .int .i64 0, .bool false, .slice (some ⟨w.heap.size + 1 + 1, 0, none⟩) 1 1, .slice none 0 0, .slice none 0 0, .slice (some ⟨w.heap.size + 1, 0, none⟩) 1 1, .slice (some ⟨w.heap.size, 0, none⟩) 1 1, .slice A n c] 38)) :
    Below w.heap.size w W4 ∧ ProgAt W4 (some ⟨w.heap.size + 1 + 1 + 1, 0, none⟩) 1 1 [modC ins] := by
  have b1 : Below w.heap.size w W1 := by rw [h1]; exact (by repeat (first | exact Below.refl _ _ | assumption | refine Below.setCell ?_ (by first | (simp; done) | (simp; omega) | omega) _ | refine below_drewN ?_ _ | refine Below.drew ?_ | refine Below.alloc ?_ (by first | (simp; done) | (simp; omega) | omega) _))
  have b2 : Below W1.heap.size W1 W2 := by rw [h2]; exact (by repeat (first | exact Below.refl _ _ | assumption | refine Below.setCell ?_ (by first | (simp; done) | (simp; omega) | omega) _ | refine below_drewN ?_ _ | refine Below.drew ?_ | refine Below.alloc ?_ (by first | (simp; done) | (simp; omega) | omega) _))
  have b3 : Below W2.heap.size W2 W3 := by rw [h3]; exact (by repeat (first | exact Below.refl _ _ | assumption | refine Below.setCell ?_ (by first | (simp; done) | (simp; omega) | omega) _ | refine below_drewN ?_ _ | refine Below.drew ?_ | refine Below.alloc ?_ (by first | (simp; done) | (simp; omega) | omega) _))
  have b4 : Below W3.heap.size W3 W4 := by rw [h4]; exact (by repeat (first | exact Below.refl _ _ | assumption | refine Below.setCell ?_ (by first | (simp; done) | (simp; omega) | omega) _ | refine below_drewN ?_ _ | refine Below.drew ?_ | refine Below.alloc ?_ (by first | (simp; done) | (simp; omega) | omega) _))
  have z1 : W1.heap.size = w.heap.size + 1 := by rw [h1]; simp
  have z2 : W2.heap.size = w.heap.size + 1 + 1 := by rw [h2]; simp [z1]
  have z3 : W3.heap.size = w.heap.size + 1 + 1 + 1 := by rw [h3]; simp [z2]
  have hb : Below w.heap.size w W4 := b1.trans ((b2.mono b1.size).trans ((b3.mono (by omega)).trans (b4.mono (by omega))))
  have rv := val_row w
  rw [← h1] at rv
  have rx := str_row W1 ⟨#[120]⟩
  rw [← h2, z1] at rx
  have ry := str_row W2 ⟨#[121]⟩
  rw [← h3, z2] at ry
  have rc := code_row W3 [.string ⟨#[]⟩, .int .i64 1, .int .i64 0, .int .i64 0, .bool false, .slice (some ⟨w.heap.size + 1 + 1, 0, none⟩) 1 1, .slice none 0 0, .slice none 0 0, .slice (some ⟨w.heap.size + 1, 0, none⟩) 1 1, .slice (some ⟨w.heap.size, 0, none⟩) 1 1, .slice A n c] rfl
  rw [← h4, z3] at rc
  refine ⟨hb, rfl, ⟨_, rfl, fun cs hcs => by simp at hcs; rw [hcs]; rfl, fun i x cs hx hcs => ?_, rc⟩, by unfold Most; omega⟩
  cases i with
  | succ i => simp at hx
  | zero =>
    simp at hx hcs
    subst hx
    subst hcs
    exact ⟨_, _, _, _, _, _, _, _, _, _, _, _, _, _, _, _, _, _, rfl, ry.new b4, ⟨rfl, Rd.nil_.2 (by omega)⟩, ⟨rfl, Rd.nil_.2 (by omega)⟩, (rx.new b3).new b4, ((RdF.new rv b2).new b3).new b4, RdF.new h hb, by unfold Most; omega, by unfold Most; omega, by unfold Most; omega, by unfold Most; omega, by unfold Most; omega, by unfold Most; omega⟩
set_option maxRecDepth 100000 in
set_option maxHeartbeats 2000000 in
theorem module_any {w : World} {A : Option Addr} {n c : Nat} {ins : List (Int × Int)} (h : RdF insCs 2 w A n c ins) (hn : n ≤ 1000) : Calls Try.prog 30 #[.slice A n c] w (ModR w ins) := by
  have H := Lib.hid h
  have hc := h.2.2.1
  clear h
  go_enter Try.func30, Try.ntmps30
  go_wp2_with fail
  go_ret
  have h9 := module_at H.out hn rfl rfl rfl rfl
  exact ⟨h9.1, _, rfl, h9.2⟩
/-- of a module's code: its heights -/
theorem seen_heights {w : World} {A : Option Addr} {ins : List (Int × Int)} {r : List Int × Int × Int} (h : ProgAt w A 1 1 [modC ins]) (hr : heightsC [modC ins] (modC ins) = r) : Calls Try.prog 11 #[.slice A 1 1, .int .i64 0] w (HtR w r) := by
  have := heights_code h (k := 0) (x := modC ins) rfl
  rw [hr] at this
  exact this
theorem prog_nil (w : World) : ProgAt w none 0 0 [] := ⟨rfl, ⟨[], rfl, (fun _ h => by cases h), (fun i x cs h => by simp at h), Rd.nil_.2 (by omega)⟩, by omega⟩
theorem seen_none (w : World) : Calls Try.prog 11 #[.slice none 0 0, .int .i64 0] w (HtR w ([], 1, 0)) := heights_arg (prog_nil w) (.inr (by omega))
theorem seen_prog {w : World} {A : Option Addr} {ins : List (Int × Int)} {r : Int × Int × Int} (h : ProgAt w A 1 1 [modC ins]) (hr : programE [modC ins] = r) : Calls Try.prog 15 #[.slice A 1 1] w (PrR w r) := by
  have := program_any h
  rw [hr] at this
  exact this
theorem seen_nil (w : World) : Calls Try.prog 15 #[.slice none 0 0] w (PrR w (53, 0, 0)) := program_any (prog_nil w)
theorem seen_a : heightsC [modC [(1, 0), (52, 0)]] (modC [(1, 0), (52, 0)]) = ([0, 1], 0, 0) := by decide +kernel
theorem seen_b : heightsC [modC [(52, 0)]] (modC [(52, 0)]) = ([], 52, 0) := by decide +kernel
theorem seen_c : heightsC [modC [(1, 0), (2, 0)]] (modC [(1, 0), (2, 0)]) = ([], 51, 1) := by decide +kernel
theorem seen_d : heightsC [modC [(47, 3), (36, 4), (2, 0), (51, 0), (48, 0), (1, 0), (52, 0)]] (modC [(47, 3), (36, 4), (2, 0), (51, 0), (48, 0), (1, 0), (52, 0)]) = ([0, 0, -1, 1, 0, 0, 1], 0, 0) := by decide +kernel
theorem seen_e : heightsC [modC [(1, 0), (36, 0)]] (modC [(1, 0), (36, 0)]) = ([], 52, 1) := by decide +kernel
theorem seen_p : programE [modC [(1, 0), (52, 0)]] = (0, 0, 0) := by decide +kernel
set_option maxRecDepth 100000 in
set_option maxHeartbeats 8000000 in
theorem seen_any (w : World) : Calls Try.prog 13 #[] w fun e w' => e = .returned (.bool true) ∧ Below w.heap.size w w' := by
  have HB0 : Hid (Below w.heap.size w ((w.alloc (.cells #[.int .i64 1, .int .i64 0] 43)).alloc (.cells #[.int .i64 52, .int .i64 0] 43))) := Lib.hid (by repeat (first | exact Below.refl _ _ | assumption | refine Below.setCell ?_ (by first | (simp; done) | (simp; omega) | omega) _ | refine below_drewN ?_ _ | refine Below.drew ?_ | refine Below.alloc ?_ (by first | (simp; done) | (simp; omega) | omega) _))
  have HX0 := Lib.hid ((Blk.new w 43 #[.int .i64 1, .int .i64 0]).alloc (.cells #[.int .i64 52, .int .i64 0] 43))
  have HY0 : Hid (Blk ((w.alloc (.cells #[.int .i64 1, .int .i64 0] 43)).alloc (.cells #[.int .i64 52, .int .i64 0] 43)) (w.heap.size + 1) 43 #[.int .i64 52, .int .i64 0]) := Lib.hid (by
    have := Blk.new (w.alloc (.cells #[.int .i64 1, .int .i64 0] 43)) 43 #[.int .i64 52, .int .i64 0]
    rwa [show (w.alloc (.cells #[.int .i64 1, .int .i64 0] 43)).heap.size = w.heap.size + 1 by simp] at this)
  have HR1 : Hid (RdF insCs 2 (((w.alloc (.cells #[.int .i64 1, .int .i64 0] 43)).alloc (.cells #[.int .i64 52, .int .i64 0] 43)).alloc (.cells #[.int .i64 1, .int .i64 0, .int .i64 52, .int .i64 0] 43)) (some ⟨w.heap.size + 1 + 1, 0, none⟩) 2 2 [(1, 0), (52, 0)]) := Lib.hid (by
    have := ins_row ((w.alloc (.cells #[.int .i64 1, .int .i64 0] 43)).alloc (.cells #[.int .i64 52, .int .i64 0] 43)) [(1, 0), (52, 0)] (by decide)
    rw [show ((w.alloc (.cells #[.int .i64 1, .int .i64 0] 43)).alloc (.cells #[.int .i64 52, .int .i64 0] 43)).heap.size = w.heap.size + 1 + 1 by simp] at this
    exact this)
  have HA1 : Hid (Below ((w.alloc (.cells #[.int .i64 1, .int .i64 0] 43)).alloc (.cells #[.int .i64 52, .int .i64 0] 43)).heap.size ((w.alloc (.cells #[.int .i64 1, .int .i64 0] 43)).alloc (.cells #[.int .i64 52, .int .i64 0] 43)) (((w.alloc (.cells #[.int .i64 1, .int .i64 0] 43)).alloc (.cells #[.int .i64 52, .int .i64 0] 43)).alloc (.cells #[.int .i64 1, .int .i64 0, .int .i64 52, .int .i64 0] 43))) := Lib.hid (by repeat (first | exact Below.refl _ _ | assumption | refine Below.setCell ?_ (by first | (simp; done) | (simp; omega) | omega) _ | refine below_drewN ?_ _ | refine Below.drew ?_ | refine Below.alloc ?_ (by first | (simp; done) | (simp; omega) | omega) _))
  have KM1 := Lib.hid (module_any HR1.out (by decide))
  go_enter Try.func13, Try.ntmps13
  go_wp2_with fail
  refine KM1.out.mono ?_
  rintro e m1 ⟨hb, Am1, rfl, hp⟩
  have HM1 := Lib.hid hb
  have HP1 := Lib.hid hp
  clear hb hp
  go_wp2_with fail
  refine (seen_heights HP1.out seen_a).mono ?_
  rintro e w1 ⟨hb, Ar1, nr1, cr1, rfl, hl, hr⟩
  have HN1 : Hid (Below ((w.alloc (.cells #[.int .i64 1, .int .i64 0] 43)).alloc (.cells #[.int .i64 52, .int .i64 0] 43)).heap.size ((w.alloc (.cells #[.int .i64 1, .int .i64 0] 43)).alloc (.cells #[.int .i64 52, .int .i64 0] 43)) w1) := Lib.hid (HA1.out.trans ((HM1.out.mono HA1.out.size).trans (hb.mono (Nat.le_trans HA1.out.size HM1.out.size))))
  obtain rfl : nr1 = 2 := by simpa using hl.symm
  have HL1 := Lib.hid hr
  clear hb hl hr
  have HX1 := Lib.hid (HX0.out.new' HN1.out)
  have HY1 := Lib.hid (HY0.out.new' HN1.out)
  have HB1 := Lib.hid (HB0.out.trans (HN1.out.mono HB0.out.size))
  have HR2 : Hid (RdF insCs 2 (w1.alloc (.cells #[.int .i64 52, .int .i64 0] 43)) (some ⟨w1.heap.size, 0, none⟩) 1 1 [(52, 0)]) := Lib.hid (ins_row w1 [(52, 0)] (by decide))
  have HA2 : Hid (Below w1.heap.size w1 (w1.alloc (.cells #[.int .i64 52, .int .i64 0] 43))) := Lib.hid (by repeat (first | exact Below.refl _ _ | assumption | refine Below.setCell ?_ (by first | (simp; done) | (simp; omega) | omega) _ | refine below_drewN ?_ _ | refine Below.drew ?_ | refine Below.alloc ?_ (by first | (simp; done) | (simp; omega) | omega) _))
  have KM2 := Lib.hid (module_any HR2.out (by decide))
  have hx2 := HX1.out
  have hy2 := HY1.out
  have x0 := hx2.cell 0
  have x1 := hx2.cell 1
  have xl := hx2.lt
  have y0 := hy2.cell 0
  have y1 := hy2.cell 1
  have yl := hy2.lt
  simp only [List.getElem?_toArray, List.getElem?_cons_zero, List.getElem?_cons_succ] at x0 x1 y0 y1
  clear hx2 hy2
  go_wp2_with fail
  clear x0 x1 y0 y1 xl yl
  refine KM2.out.mono ?_
  rintro e m2 ⟨hb, Am2, rfl, hp⟩
  have HM2 := Lib.hid hb
  have HP2 := Lib.hid hp
  clear hb hp
  go_wp2_with fail
  refine (seen_heights HP2.out seen_b).mono ?_
  rintro e w2 ⟨hb, Ar2, nr2, cr2, rfl, hl, hr⟩
  have HN2 : Hid (Below w1.heap.size w1 w2) := Lib.hid (HA2.out.trans ((HM2.out.mono HA2.out.size).trans (hb.mono (Nat.le_trans HA2.out.size HM2.out.size))))
  clear hb hl hr
  have HX2 := Lib.hid (HX1.out.new' HN2.out)
  have HY2 := Lib.hid (HY1.out.new' HN2.out)
  have HB2 := Lib.hid (HB1.out.trans (HN2.out.mono HB1.out.size))
  have HL1 := Lib.hid (HL1.out.new HN2.out)
  have HR3 : Hid (RdF insCs 2 (w2.alloc (.cells #[.int .i64 1, .int .i64 0, .int .i64 2, .int .i64 0] 43)) (some ⟨w2.heap.size, 0, none⟩) 2 2 [(1, 0), (2, 0)]) := Lib.hid (ins_row w2 [(1, 0), (2, 0)] (by decide))
  have HA3 : Hid (Below w2.heap.size w2 (w2.alloc (.cells #[.int .i64 1, .int .i64 0, .int .i64 2, .int .i64 0] 43))) := Lib.hid (by repeat (first | exact Below.refl _ _ | assumption | refine Below.setCell ?_ (by first | (simp; done) | (simp; omega) | omega) _ | refine below_drewN ?_ _ | refine Below.drew ?_ | refine Below.alloc ?_ (by first | (simp; done) | (simp; omega) | omega) _))
  have KM3 := Lib.hid (module_any HR3.out (by decide))
  have hx3 := HX2.out
  have hy3 := HY2.out
  have x0 := hx3.cell 0
  have x1 := hx3.cell 1
  have xl := hx3.lt
  have y0 := hy3.cell 0
  have y1 := hy3.cell 1
  have yl := hy3.lt
  simp only [List.getElem?_toArray, List.getElem?_cons_zero, List.getElem?_cons_succ] at x0 x1 y0 y1
  clear hx3 hy3
  go_wp2_with fail
  clear x0 x1 y0 y1 xl yl
  refine KM3.out.mono ?_
  rintro e m3 ⟨hb, Am3, rfl, hp⟩
  have HM3 := Lib.hid hb
  have HP3 := Lib.hid hp
  clear hb hp
  go_wp2_with fail
  refine (seen_heights HP3.out seen_c).mono ?_
  rintro e w3 ⟨hb, Ar3, nr3, cr3, rfl, hl, hr⟩
  have HN3 : Hid (Below w2.heap.size w2 w3) := Lib.hid (HA3.out.trans ((HM3.out.mono HA3.out.size).trans (hb.mono (Nat.le_trans HA3.out.size HM3.out.size))))
  clear hb hl hr
  have HX3 := Lib.hid (HX2.out.new' HN3.out)
  have HY3 := Lib.hid (HY2.out.new' HN3.out)
  have HB3 := Lib.hid (HB2.out.trans (HN3.out.mono HB2.out.size))
  have HL1 := Lib.hid (HL1.out.new HN3.out)
  have HR4 : Hid (RdF insCs 2 (w3.alloc (.cells #[.int .i64 47, .int .i64 3, .int .i64 36, .int .i64 4, .int .i64 2, .int .i64 0, .int .i64 51, .int .i64 0, .int .i64 48, .int .i64 0, .int .i64 1, .int .i64 0, .int .i64 52, .int .i64 0] 43)) (some ⟨w3.heap.size, 0, none⟩) 7 7 [(47, 3), (36, 4), (2, 0), (51, 0), (48, 0), (1, 0), (52, 0)]) := Lib.hid (ins_row w3 [(47, 3), (36, 4), (2, 0), (51, 0), (48, 0), (1, 0), (52, 0)] (by decide))
  have HA4 : Hid (Below w3.heap.size w3 (w3.alloc (.cells #[.int .i64 47, .int .i64 3, .int .i64 36, .int .i64 4, .int .i64 2, .int .i64 0, .int .i64 51, .int .i64 0, .int .i64 48, .int .i64 0, .int .i64 1, .int .i64 0, .int .i64 52, .int .i64 0] 43))) := Lib.hid (by repeat (first | exact Below.refl _ _ | assumption | refine Below.setCell ?_ (by first | (simp; done) | (simp; omega) | omega) _ | refine below_drewN ?_ _ | refine Below.drew ?_ | refine Below.alloc ?_ (by first | (simp; done) | (simp; omega) | omega) _))
  have KM4 := Lib.hid (module_any HR4.out (by decide))
  have hx4 := HX3.out
  have hy4 := HY3.out
  have x0 := hx4.cell 0
  have x1 := hx4.cell 1
  have xl := hx4.lt
  have y0 := hy4.cell 0
  have y1 := hy4.cell 1
  have yl := hy4.lt
  simp only [List.getElem?_toArray, List.getElem?_cons_zero, List.getElem?_cons_succ] at x0 x1 y0 y1
  clear hx4 hy4
  go_wp2_with fail
  clear x0 x1 y0 y1 xl yl
  refine KM4.out.mono ?_
  rintro e m4 ⟨hb, Am4, rfl, hp⟩
  have HM4 := Lib.hid hb
  have HP4 := Lib.hid hp
  clear hb hp
  go_wp2_with fail
  refine (seen_heights HP4.out seen_d).mono ?_
  rintro e w4 ⟨hb, Ar4, nr4, cr4, rfl, hl, hr⟩
  have HN4 : Hid (Below w3.heap.size w3 w4) := Lib.hid (HA4.out.trans ((HM4.out.mono HA4.out.size).trans (hb.mono (Nat.le_trans HA4.out.size HM4.out.size))))
  obtain rfl : nr4 = 7 := by simpa using hl.symm
  have HL4 := Lib.hid hr
  clear hb hl hr
  have HX4 := Lib.hid (HX3.out.new' HN4.out)
  have HY4 := Lib.hid (HY3.out.new' HN4.out)
  have HB4 := Lib.hid (HB3.out.trans (HN4.out.mono HB3.out.size))
  have HL1 := Lib.hid (HL1.out.new HN4.out)
  have HR5 : Hid (RdF insCs 2 (w4.alloc (.cells #[.int .i64 1, .int .i64 0, .int .i64 36, .int .i64 0] 43)) (some ⟨w4.heap.size, 0, none⟩) 2 2 [(1, 0), (36, 0)]) := Lib.hid (ins_row w4 [(1, 0), (36, 0)] (by decide))
  have HA5 : Hid (Below w4.heap.size w4 (w4.alloc (.cells #[.int .i64 1, .int .i64 0, .int .i64 36, .int .i64 0] 43))) := Lib.hid (by repeat (first | exact Below.refl _ _ | assumption | refine Below.setCell ?_ (by first | (simp; done) | (simp; omega) | omega) _ | refine below_drewN ?_ _ | refine Below.drew ?_ | refine Below.alloc ?_ (by first | (simp; done) | (simp; omega) | omega) _))
  have KM5 := Lib.hid (module_any HR5.out (by decide))
  have hx5 := HX4.out
  have hy5 := HY4.out
  have x0 := hx5.cell 0
  have x1 := hx5.cell 1
  have xl := hx5.lt
  have y0 := hy5.cell 0
  have y1 := hy5.cell 1
  have yl := hy5.lt
  simp only [List.getElem?_toArray, List.getElem?_cons_zero, List.getElem?_cons_succ] at x0 x1 y0 y1
  clear hx5 hy5
  go_wp2_with fail
  clear x0 x1 y0 y1 xl yl
  refine KM5.out.mono ?_
  rintro e m5 ⟨hb, Am5, rfl, hp⟩
  have HM5 := Lib.hid hb
  have HP5 := Lib.hid hp
  clear hb hp
  go_wp2_with fail
  refine (seen_heights HP5.out seen_e).mono ?_
  rintro e w5 ⟨hb, Ar5, nr5, cr5, rfl, hl, hr⟩
  have HN5 : Hid (Below w4.heap.size w4 w5) := Lib.hid (HA5.out.trans ((HM5.out.mono HA5.out.size).trans (hb.mono (Nat.le_trans HA5.out.size HM5.out.size))))
  clear hb hl hr
  have HX5 := Lib.hid (HX4.out.new' HN5.out)
  have HY5 := Lib.hid (HY4.out.new' HN5.out)
  have HB5 := Lib.hid (HB4.out.trans (HN5.out.mono HB4.out.size))
  have HL1 := Lib.hid (HL1.out.new HN5.out)
  have HL4 := Lib.hid (HL4.out.new HN5.out)
  have hx6 := HX5.out
  have hy6 := HY5.out
  have x0 := hx6.cell 0
  have x1 := hx6.cell 1
  have xl := hx6.lt
  have y0 := hy6.cell 0
  have y1 := hy6.cell 1
  have yl := hy6.lt
  simp only [List.getElem?_toArray, List.getElem?_cons_zero, List.getElem?_cons_succ] at x0 x1 y0 y1
  clear hx6 hy6
  go_wp2_with fail
  clear x0 x1 y0 y1 xl yl
  refine (seen_none _).mono ?_
  rintro e w6 ⟨hb, Ar6, nr6, cr6, rfl, hl, hr⟩
  have HN6 := Lib.hid hb
  clear hb hl hr
  have HX6 := Lib.hid (HX5.out.new' HN6.out)
  have HY6 := Lib.hid (HY5.out.new' HN6.out)
  have HB6 := Lib.hid (HB5.out.trans (HN6.out.mono HB5.out.size))
  have HL1 := Lib.hid (HL1.out.new HN6.out)
  have HL4 := Lib.hid (HL4.out.new HN6.out)
  have HR7 : Hid (RdF insCs 2 (w6.alloc (.cells #[.int .i64 1, .int .i64 0, .int .i64 52, .int .i64 0] 43)) (some ⟨w6.heap.size, 0, none⟩) 2 2 [(1, 0), (52, 0)]) := Lib.hid (ins_row w6 [(1, 0), (52, 0)] (by decide))
  have HA7 : Hid (Below w6.heap.size w6 (w6.alloc (.cells #[.int .i64 1, .int .i64 0, .int .i64 52, .int .i64 0] 43))) := Lib.hid (by repeat (first | exact Below.refl _ _ | assumption | refine Below.setCell ?_ (by first | (simp; done) | (simp; omega) | omega) _ | refine below_drewN ?_ _ | refine Below.drew ?_ | refine Below.alloc ?_ (by first | (simp; done) | (simp; omega) | omega) _))
  have KM7 := Lib.hid (module_any HR7.out (by decide))
  have hx7 := HX6.out
  have hy7 := HY6.out
  have x0 := hx7.cell 0
  have x1 := hx7.cell 1
  have xl := hx7.lt
  have y0 := hy7.cell 0
  have y1 := hy7.cell 1
  have yl := hy7.lt
  simp only [List.getElem?_toArray, List.getElem?_cons_zero, List.getElem?_cons_succ] at x0 x1 y0 y1
  clear hx7 hy7
  go_wp2_with fail
  clear x0 x1 y0 y1 xl yl
  refine KM7.out.mono ?_
  rintro e m7 ⟨hb, Am7, rfl, hp⟩
  have HM7 := Lib.hid hb
  have HP7 := Lib.hid hp
  clear hb hp
  go_wp2_with fail
  refine (seen_prog HP7.out seen_p).mono ?_
  rintro e w7 ⟨hb, rfl⟩
  have HN7 : Hid (Below w6.heap.size w6 w7) := Lib.hid (HA7.out.trans ((HM7.out.mono HA7.out.size).trans (hb.mono (Nat.le_trans HA7.out.size HM7.out.size))))
  clear hb
  have HX7 := Lib.hid (HX6.out.new' HN7.out)
  have HY7 := Lib.hid (HY6.out.new' HN7.out)
  have HB7 := Lib.hid (HB6.out.trans (HN7.out.mono HB6.out.size))
  have HL1 := Lib.hid (HL1.out.new HN7.out)
  have HL4 := Lib.hid (HL4.out.new HN7.out)
  have hx8 := HX7.out
  have hy8 := HY7.out
  have x0 := hx8.cell 0
  have x1 := hx8.cell 1
  have xl := hx8.lt
  have y0 := hy8.cell 0
  have y1 := hy8.cell 1
  have yl := hy8.lt
  simp only [List.getElem?_toArray, List.getElem?_cons_zero, List.getElem?_cons_succ] at x0 x1 y0 y1
  clear hx8 hy8
  go_wp2_with fail
  clear x0 x1 y0 y1 xl yl
  refine (seen_nil _).mono ?_
  rintro e w8 ⟨hb, rfl⟩
  have HN8 := Lib.hid hb
  clear hb
  have HX8 := Lib.hid (HX7.out.new' HN8.out)
  have HY8 := Lib.hid (HY7.out.new' HN8.out)
  have HB8 := Lib.hid (HB7.out.trans (HN8.out.mono HB7.out.size))
  have HL1 := Lib.hid (HL1.out.new HN8.out)
  have HL4 := Lib.hid (HL4.out.new HN8.out)
  have HI9 := Lib.hid (int_row w8 [0, 1] (by decide))
  have HD9 : Hid (Below w8.heap.size w8 (w8.alloc (.cells #[.int .i64 0, .int .i64 1] 3))) := Lib.hid (by repeat (first | exact Below.refl _ _ | assumption | refine Below.setCell ?_ (by first | (simp; done) | (simp; omega) | omega) _ | refine below_drewN ?_ _ | refine Below.drew ?_ | refine Below.alloc ?_ (by first | (simp; done) | (simp; omega) | omega) _))
  have KS1 : Hid (Calls Try.prog 14 #[.slice Ar1 2 cr1, .slice (some ⟨w8.heap.size, 0, none⟩) 2 2] (w8.alloc (.cells #[.int .i64 0, .int .i64 1] 3)) fun e w' => e = .returned (.bool true) ∧ Below (w8.alloc (.cells #[.int .i64 0, .int .i64 1] 3)).heap.size (w8.alloc (.cells #[.int .i64 0, .int .i64 1] 3)) w') := Lib.hid (by
    have h9 := rows_same (xs := [0, 1]) (ys := [0, 1]) rfl rfl (HL1.out.new HD9.out) HI9.out
    rwa [show sameI [0, 1] [0, 1] = true by decide] at h9)
  go_wp2_with ((with_reducible refine KS1.out.mono ?_); rintro e w9 ⟨rfl, hb9⟩; have HN9 := Lib.hid (HD9.out.trans (hb9.mono HD9.out.size)); clear hb9)
  have HI10 := Lib.hid (int_row w9 [0, 0, -1, 1, 0, 0, 1] (by decide))
  have HD10 : Hid (Below w9.heap.size w9 (w9.alloc (.cells #[.int .i64 0, .int .i64 0, .int .i64 (-1), .int .i64 1, .int .i64 0, .int .i64 0, .int .i64 1] 3))) := Lib.hid (by repeat (first | exact Below.refl _ _ | assumption | refine Below.setCell ?_ (by first | (simp; done) | (simp; omega) | omega) _ | refine below_drewN ?_ _ | refine Below.drew ?_ | refine Below.alloc ?_ (by first | (simp; done) | (simp; omega) | omega) _))
  have h9 := rows_same (xs := [0, 0, -1, 1, 0, 0, 1]) (ys := [0, 0, -1, 1, 0, 0, 1]) rfl rfl ((HL4.out.new HN9.out).new HD10.out) HI10.out
  rw [show sameI [0, 0, -1, 1, 0, 0, 1] [0, 0, -1, 1, 0, 0, 1] = true by decide] at h9
  refine h9.mono ?_
  clear h9
  rintro e w10 ⟨rfl, hb10⟩
  have HB10 := Lib.hid (HB8.out.trans (((HN9.out.trans ((HD10.out.trans (hb10.mono HD10.out.size)).mono HN9.out.size)).mono HB8.out.size)))
  clear hb10
  go_wp2_with fail
  go_ret
  exact ⟨rfl, HB10.out⟩
end Go.Proofs.Ytgnejkmojfhfpaa
