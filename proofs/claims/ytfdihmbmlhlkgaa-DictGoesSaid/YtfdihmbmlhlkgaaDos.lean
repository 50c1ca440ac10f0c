/- does. -/
import Derived.Test.YtfdihmbmlhlkgaaBth
import Derived.Deep.RegionHeld3
import Derived.Deep.DeepCutAuto
namespace Go.Proofs.Ytfdihmbmlhlkgaa
open Go.RowKit
attribute [local go_sem high] guardV eqV neqV guardP neqP
attribute [local go_sem] V.v

/-- which of four a call is -/
def CallD.which (c : CallD) : Int := bits BinOp.and .i64 c.d 3
theorem which_cases (c : CallD) : c.which = 0 ∨ c.which = 1 ∨ c.which = 2 ∨ c.which = 3 := by
  obtain ⟨a, ha, e⟩ := and_small c.d 3 (by omega)
  unfold CallD.which
  have e' : bits BinOp.and .i64 c.d 3 = (a : Int) := e
  rw [e']
  omega
/-- what a call leaves -/
def didL (L : List (V × V)) (c : CallD) : List (V × V) := if c.which = 2 then L else if c.which = 3 then delL L c.k else putR L c.k c.x
/-- box b, of 8 cells, holds the call -/
def CallAt (w : World) (b : Nat) (c : CallD) : Prop := Blk w b 48 c.cs.toArray
section
variable {w : World} {b : Nat} {c : CallD}
theorem CallAt.c0 (h : CallAt w b c) : w.cell? ⟨b, 0, none⟩ = some (.int .i64 c.d) := Blk.cell h 0
theorem CallAt.c1 (h : CallAt w b c) : w.cell? ⟨b, 1, none⟩ = some (.int .i64 c.k.k) := Blk.cell h 1
theorem CallAt.c2 (h : CallAt w b c) : w.cell? ⟨b, 2, none⟩ = some (.int .i64 c.k.n) := Blk.cell h 2
theorem CallAt.c3 (h : CallAt w b c) : w.cell? ⟨b, 3, none⟩ = some (.string c.k.s) := Blk.cell h 3
theorem CallAt.c4 (h : CallAt w b c) : w.cell? ⟨b, 4, none⟩ = some (.int .i64 c.x.k) := Blk.cell h 4
theorem CallAt.c5 (h : CallAt w b c) : w.cell? ⟨b, 5, none⟩ = some (.int .i64 c.x.n) := Blk.cell h 5
theorem CallAt.c6 (h : CallAt w b c) : w.cell? ⟨b, 6, none⟩ = some (.string c.x.s) := Blk.cell h 6
end
theorem bes_K {w : World} {S : Nat → Prop} {b : Nat} {c : CallD} (h : Bes w S b 48 c.cs.toArray) : w.cell? ⟨b, 1, none⟩ = some (.int .i64 c.k.k) ∧ w.cell? ⟨b, 2, none⟩ = some (.int .i64 c.k.n) ∧ w.cell? ⟨b, 3, none⟩ = some (.string c.k.s) := ⟨CallAt.c1 h.blk, CallAt.c2 h.blk, CallAt.c3 h.blk⟩
theorem bes_KX {w : World} {S : Nat → Prop} {b : Nat} {c : CallD} (h : Bes w S b 48 c.cs.toArray) : w.cell? ⟨b, 1, none⟩ = some (.int .i64 c.k.k) ∧ w.cell? ⟨b, 2, none⟩ = some (.int .i64 c.k.n) ∧ w.cell? ⟨b, 3, none⟩ = some (.string c.k.s) ∧ w.cell? ⟨b, 4, none⟩ = some (.int .i64 c.x.k) ∧ w.cell? ⟨b, 5, none⟩ = some (.int .i64 c.x.n) ∧ w.cell? ⟨b, 6, none⟩ = some (.string c.x.s) := ⟨CallAt.c1 h.blk, CallAt.c2 h.blk, CallAt.c3 h.blk, CallAt.c4 h.blk, CallAt.c5 h.blk, CallAt.c6 h.blk⟩
/-- two calls, one at each of both, in whatever order -/
theorem both_end {w0 w a b c : World} {S : Nat → Prop} {g y : Nat} {L : List (V × V)} (hz : Zone w0 w S) (h0 : Below w.heap.size w a) (h1 : Mod S a b) (h2 : Mod (Grew S a b) b c) (h : Duo w0 c (Grew (Grew S a b) b c) g y L L) : HasB w0 c (Grew S w c) g y L ∧ Mod S w c := by
  have hm : Mod S w c := (Mod.new (S := S) h0).trans (mod_two h1 h2) fun _ _ h => h
  refine ⟨h.whole.mono (fun i hi => ?_) (hz.step hm), hm⟩
  have := grew_two h1.size h2.size hi
  exact this.imp id fun h => ⟨by have := h0.size; omega, h.2⟩
def Does (w0 w : World) (S : Nat → Prop) (g y : Nat) (L' : List (V × V)) (e : Ending) (w' : World) : Prop := e = .returned (.bool true) ∧ HasB w0 w' (Grew S w w') g y L' ∧ Mod S w w'

set_option maxRecDepth 100000 in
set_option maxHeartbeats 2000000 in
theorem does_put {w0 w : World} {S : Nat → Prop} {g y : Nat} {L : List (V × V)} (h : HasB w0 w S g y L) (c : CallD) (hk : c.k.Ok) (hw : c.which = 0 ∨ c.which = 1) :
    Calls Try.prog 24 #[.pointer (some ⟨g, 0, none⟩), .pointer (some ⟨y, 0, none⟩), .agg c.cs.toArray] w (Does w0 w S g y (putR L c.k c.x)) := by
  have hb0 : Below w.heap.size w (w.alloc (.cells c.cs.toArray 48)) := (by repeat (first | exact Below.refl _ _ | assumption | refine Below.setCell ?_ (by first | (simp; done) | (simp; omega) | omega) _ | refine below_drewN ?_ _ | refine Below.drew ?_ | refine Below.alloc ?_ (by first | (simp; done) | (simp; omega) | omega) _))
  have bx : Bes (w.alloc (.cells c.cs.toArray 48)) S w.heap.size 48 c.cs.toArray := Bes.fresh h.z (Blk.new w 48 _) (Nat.le_refl _)
  have hbd : Below w.heap.size w (w.alloc (.cells c.cs.toArray 48)).drew := (by repeat (first | exact Below.refl _ _ | assumption | refine Below.setCell ?_ (by first | (simp; done) | (simp; omega) | omega) _ | refine below_drewN ?_ _ | refine Below.drew ?_ | refine Below.alloc ?_ (by first | (simp; done) | (simp; omega) | omega) _))
  have tD := (h.new hbd).duo
  have bD : Bes (w.alloc (.cells c.cs.toArray 48)).drew S w.heap.size 48 c.cs.toArray := bx.new (by exact (by repeat (first | exact Below.refl _ _ | assumption | refine Below.setCell ?_ (by first | (simp; done) | (simp; omega) | omega) _ | refine below_drewN ?_ _ | refine Below.drew ?_ | refine Below.alloc ?_ (by first | (simp; done) | (simp; omega) | omega) _)))
  have hf := h.facts
  have HF := Lib.hid hf
  have HZ := Lib.hid h.z
  have HBD := Lib.hid hbd
  have SD := Lib.hid (bes_KX bD)
  have S0 := Lib.hid (bes_KX bx)
  have HKO := Lib.hid hk
  obtain ⟨b, hok⟩ : ∃ b, putOk L c.k = b := ⟨_, rfl⟩
  have HOK := Lib.hid hok
  clear hok bx hf h hb0 hbd hk
  obtain ⟨d, ⟨k, n, s⟩, ⟨k', n', s'⟩, raw⟩ := c
  have hw : bits BinOp.and .i64 d 3 = 0 ∨ bits BinOp.and .i64 d 3 = 1 := hw
  show Calls Try.prog 24 #[.pointer (some ⟨g, 0, none⟩), .pointer (some ⟨y, 0, none⟩), .agg #[.int .i64 d, .int .i64 k, .int .i64 n, .string s, .int .i64 k', .int .i64 n', .string s', .bool raw]] w _
  have HS0 : Hid ((w.alloc (.cells #[.int .i64 d, .int .i64 k, .int .i64 n, .string s, .int .i64 k', .int .i64 n', .string s', .bool raw] 48)).cell? ⟨w.heap.size, 1, none⟩ = some (.int .i64 k) ∧ (w.alloc (.cells #[.int .i64 d, .int .i64 k, .int .i64 n, .string s, .int .i64 k', .int .i64 n', .string s', .bool raw] 48)).cell? ⟨w.heap.size, 2, none⟩ = some (.int .i64 n) ∧ (w.alloc (.cells #[.int .i64 d, .int .i64 k, .int .i64 n, .string s, .int .i64 k', .int .i64 n', .string s', .bool raw] 48)).cell? ⟨w.heap.size, 3, none⟩ = some (.string s) ∧ (w.alloc (.cells #[.int .i64 d, .int .i64 k, .int .i64 n, .string s, .int .i64 k', .int .i64 n', .string s', .bool raw] 48)).cell? ⟨w.heap.size, 4, none⟩ = some (.int .i64 k') ∧ (w.alloc (.cells #[.int .i64 d, .int .i64 k, .int .i64 n, .string s, .int .i64 k', .int .i64 n', .string s', .bool raw] 48)).cell? ⟨w.heap.size, 5, none⟩ = some (.int .i64 n') ∧ (w.alloc (.cells #[.int .i64 d, .int .i64 k, .int .i64 n, .string s, .int .i64 k', .int .i64 n', .string s', .bool raw] 48)).cell? ⟨w.heap.size, 6, none⟩ = some (.string s')) := S0
  rcases hw with hw | hw
  all_goals
    go_enter Try.func24, Try.ntmps24
    go_wp2_with fail
    go_cut [6] (fun r wx => r = .bool true ∧ HasB w0 wx (Grew S w wx) g y (putR L ⟨k, n, s⟩ ⟨k', n', s'⟩) ∧ Mod S w wx)
    case first =>
      go_region_held3 (fun w' => w'.cell? ⟨w.heap.size, 1, none⟩ = some (.int .i64 k) ∧ w'.cell? ⟨w.heap.size, 2, none⟩ = some (.int .i64 n) ∧ w'.cell? ⟨w.heap.size, 3, none⟩ = some (.string s) ∧ w'.cell? ⟨w.heap.size, 4, none⟩ = some (.int .i64 k') ∧ w'.cell? ⟨w.heap.size, 5, none⟩ = some (.int .i64 n') ∧ w'.cell? ⟨w.heap.size, 6, none⟩ = some (.string s'))
        (first | exact SB.out | exact SA.out | exact SD.out | exact S0.out | go_keep)
        (first
        | (go_at_call 28; refine (tA.rput ⟨k, n, s⟩ ⟨k', n', s'⟩ HF.out.1 (fun p hp => (HF.out.2.1 p hp).2) HF.out.2.2).mono ?_; rintro e w5 ⟨rfl, t5, m5⟩; rw [HOK.out]; have SB := Lib.hid (bes_KX (bA.step m5)); have NB := Lib.hid (both_end HZ.out HBD.out mA m5 t5); clear t5 m5)
        | (go_at_call 15; refine (tR.put ⟨k, n, s⟩ ⟨k', n', s'⟩ HKO.out).mono ?_; rintro e w5 ⟨rfl, t5, m5⟩; rw [HOK.out]; have SB := Lib.hid (bes_KX (bA.step m5)); have NB := Lib.hid (both_end HZ.out HBD.out mA m5 t5); clear t5 m5)
        | (go_at_call 15; refine (tD.put ⟨k, n, s⟩ ⟨k', n', s'⟩ HKO.out).mono ?_; rintro e w4 ⟨rfl, tA, mA⟩; rw [HOK.out]; have bA := bD.step mA; have SA := Lib.hid (bes_KX bA))
        | (go_at_call 28; refine (tD.rput ⟨k, n, s⟩ ⟨k', n', s'⟩ HF.out.1 (fun p hp => (HF.out.2.1 p hp).2) HF.out.2.2).mono ?_; rintro e w4 ⟨rfl, tR, mA⟩; rw [HOK.out]; have bA := bD.step mA; have SA := Lib.hid (bes_KX bA)))
      all_goals
        go_wp2_with fail
        go_meet
        exact ⟨by first | rfl | simp, NB.out⟩
    case rest =>
      obtain ⟨rfl, hcut⟩ := hcut
      go_wp2
      go_ret
      exact ⟨rfl, hcut⟩
set_option maxRecDepth 100000 in
set_option maxHeartbeats 2000000 in
theorem does_del {w0 w : World} {S : Nat → Prop} {g y : Nat} {L : List (V × V)} (h : HasB w0 w S g y L) (c : CallD) (hk : c.k.Ok) (hw : c.which = 3) :
    Calls Try.prog 24 #[.pointer (some ⟨g, 0, none⟩), .pointer (some ⟨y, 0, none⟩), .agg c.cs.toArray] w (Does w0 w S g y (delL L c.k)) := by
  have hb0 : Below w.heap.size w (w.alloc (.cells c.cs.toArray 48)) := (by repeat (first | exact Below.refl _ _ | assumption | refine Below.setCell ?_ (by first | (simp; done) | (simp; omega) | omega) _ | refine below_drewN ?_ _ | refine Below.drew ?_ | refine Below.alloc ?_ (by first | (simp; done) | (simp; omega) | omega) _))
  have bx : Bes (w.alloc (.cells c.cs.toArray 48)) S w.heap.size 48 c.cs.toArray := Bes.fresh h.z (Blk.new w 48 _) (Nat.le_refl _)
  have hbd : Below w.heap.size w (w.alloc (.cells c.cs.toArray 48)).drew := (by repeat (first | exact Below.refl _ _ | assumption | refine Below.setCell ?_ (by first | (simp; done) | (simp; omega) | omega) _ | refine below_drewN ?_ _ | refine Below.drew ?_ | refine Below.alloc ?_ (by first | (simp; done) | (simp; omega) | omega) _))
  have tD := (h.new hbd).duo
  have bD : Bes (w.alloc (.cells c.cs.toArray 48)).drew S w.heap.size 48 c.cs.toArray := bx.new (by exact (by repeat (first | exact Below.refl _ _ | assumption | refine Below.setCell ?_ (by first | (simp; done) | (simp; omega) | omega) _ | refine below_drewN ?_ _ | refine Below.drew ?_ | refine Below.alloc ?_ (by first | (simp; done) | (simp; omega) | omega) _)))
  have hf := h.facts
  have HF := Lib.hid hf
  have HZ := Lib.hid h.z
  have HBD := Lib.hid hbd
  have SD := Lib.hid (bes_K bD)
  have S0 := Lib.hid (bes_K bx)
  have HKO := Lib.hid hk
  obtain ⟨b, hok⟩ : ∃ b, (findL L c.k).isSome = b := ⟨_, rfl⟩
  have HOK := Lib.hid hok
  clear hok bx hf h hb0 hbd hk
  obtain ⟨d, ⟨k, n, s⟩, ⟨k', n', s'⟩, raw⟩ := c
  have hw : bits BinOp.and .i64 d 3 = 3 := hw
  show Calls Try.prog 24 #[.pointer (some ⟨g, 0, none⟩), .pointer (some ⟨y, 0, none⟩), .agg #[.int .i64 d, .int .i64 k, .int .i64 n, .string s, .int .i64 k', .int .i64 n', .string s', .bool raw]] w _
  have HS0 : Hid ((w.alloc (.cells #[.int .i64 d, .int .i64 k, .int .i64 n, .string s, .int .i64 k', .int .i64 n', .string s', .bool raw] 48)).cell? ⟨w.heap.size, 1, none⟩ = some (.int .i64 k) ∧ (w.alloc (.cells #[.int .i64 d, .int .i64 k, .int .i64 n, .string s, .int .i64 k', .int .i64 n', .string s', .bool raw] 48)).cell? ⟨w.heap.size, 2, none⟩ = some (.int .i64 n) ∧ (w.alloc (.cells #[.int .i64 d, .int .i64 k, .int .i64 n, .string s, .int .i64 k', .int .i64 n', .string s', .bool raw] 48)).cell? ⟨w.heap.size, 3, none⟩ = some (.string s)) := S0
  all_goals
    go_enter Try.func24, Try.ntmps24
    go_wp2_with fail
    go_cut [6] (fun r wx => r = .bool true ∧ HasB w0 wx (Grew S w wx) g y (delL L ⟨k, n, s⟩) ∧ Mod S w wx)
    case first =>
      go_region_held3 (fun w' => w'.cell? ⟨w.heap.size, 1, none⟩ = some (.int .i64 k) ∧ w'.cell? ⟨w.heap.size, 2, none⟩ = some (.int .i64 n) ∧ w'.cell? ⟨w.heap.size, 3, none⟩ = some (.string s))
        (first | exact SB.out | exact SA.out | exact SD.out | exact S0.out | go_keep)
        (first
        | (go_at_call 34; refine (tA.rdel ⟨k, n, s⟩ HF.out.1 HF.out.2.2).mono ?_; rintro e w5 ⟨rfl, t5, m5⟩; rw [HOK.out]; have SB := Lib.hid (bes_K (bA.step m5)); have NB := Lib.hid (both_end HZ.out HBD.out mA m5 t5); clear t5 m5)
        | (go_at_call 18; refine (tR.del ⟨k, n, s⟩ HKO.out).mono ?_; rintro e w5 ⟨rfl, t5, m5⟩; rw [HOK.out]; have SB := Lib.hid (bes_K (bA.step m5)); have NB := Lib.hid (both_end HZ.out HBD.out mA m5 t5); clear t5 m5)
        | (go_at_call 18; refine (tD.del ⟨k, n, s⟩ HKO.out).mono ?_; rintro e w4 ⟨rfl, tA, mA⟩; rw [HOK.out]; have bA := bD.step mA; have SA := Lib.hid (bes_K bA))
        | (go_at_call 34; refine (tD.rdel ⟨k, n, s⟩ HF.out.1 HF.out.2.2).mono ?_; rintro e w4 ⟨rfl, tR, mA⟩; rw [HOK.out]; have bA := bD.step mA; have SA := Lib.hid (bes_K bA)))
      all_goals
        go_wp2_with fail
        go_meet
        exact ⟨by first | rfl | simp, NB.out⟩
    case rest =>
      obtain ⟨rfl, hcut⟩ := hcut
      go_wp2
      go_ret
      exact ⟨rfl, hcut⟩
set_option maxRecDepth 100000 in
set_option maxHeartbeats 2000000 in
theorem does_get {w0 w : World} {S : Nat → Prop} {g y : Nat} {L : List (V × V)} (h : HasB w0 w S g y L) (c : CallD) (hk : c.k.Ok) (hw : c.which = 2) :
    Calls Try.prog 24 #[.pointer (some ⟨g, 0, none⟩), .pointer (some ⟨y, 0, none⟩), .agg c.cs.toArray] w (Does w0 w S g y L) := by
  have hb0 : Below w.heap.size w (w.alloc (.cells c.cs.toArray 48)) := (by repeat (first | exact Below.refl _ _ | assumption | refine Below.setCell ?_ (by first | (simp; done) | (simp; omega) | omega) _ | refine below_drewN ?_ _ | refine Below.drew ?_ | refine Below.alloc ?_ (by first | (simp; done) | (simp; omega) | omega) _))
  have HX := Lib.hid (Blk.new w 48 c.cs.toArray)
  have HH := Lib.hid h
  have HB0 := Lib.hid hb0
  have h1 := h.new hb0
  have hf := h.facts.2.2
  obtain ⟨S1, S2, hd, hr, -, -, -⟩ := h1.two
  have HD := Lib.hid hd
  have HR := Lib.hid hr
  have HKO := Lib.hid hk
  clear h hb0 h1 hd hr hk
  obtain ⟨d, ⟨k, n, s⟩, ⟨k', n', s'⟩, raw⟩ := c
  have hw : bits BinOp.and .i64 d 3 = 2 := hw
  show Calls Try.prog 24 #[.pointer (some ⟨g, 0, none⟩), .pointer (some ⟨y, 0, none⟩), .agg #[.int .i64 d, .int .i64 k, .int .i64 n, .string s, .int .i64 k', .int .i64 n', .string s', .bool raw]] w _
  go_enter Try.func24, Try.ntmps24
  go_wp2_with fail
  refine (get_any HD.out ⟨k, n, s⟩ HKO.out).mono ?_
  rintro e w1 ⟨rfl, hb1⟩
  generalize hz : (findL L ⟨k, n, s⟩).getD V.zero = z
  generalize hbb : (findL L ⟨k, n, s⟩).isSome = b
  obtain ⟨zk, zn, zs⟩ := z
  have HZ := Lib.hid hz
  have HBB := Lib.hid hbb
  clear hz hbb
  have x1 : w1.cell? ⟨w.heap.size, 1, none⟩ = some (.int .i64 k) := (HX.out.new' hb1).cell 1
  have x2 : w1.cell? ⟨w.heap.size, 2, none⟩ = some (.int .i64 n) := (HX.out.new' hb1).cell 2
  have x3 : w1.cell? ⟨w.heap.size, 3, none⟩ = some (.string s) := (HX.out.new' hb1).cell 3
  have hl1 : w.heap.size < w1.heap.size := (HX.out.new' hb1).lt
  have HB1 := Lib.hid (HB0.out.trans (hb1.mono HB0.out.size))
  have hb2 : Below w1.heap.size w1 (w1.alloc (.cells #[.int .i64 zk, .int .i64 zn, .string zs] 24)) := (by repeat (first | exact Below.refl _ _ | assumption | refine Below.setCell ?_ (by first | (simp; done) | (simp; omega) | omega) _ | refine below_drewN ?_ _ | refine Below.drew ?_ | refine Below.alloc ?_ (by first | (simp; done) | (simp; omega) | omega) _))
  have HR1 := Lib.hid ((HR.out.new hb1).new hb2)
  have HB2 := Lib.hid hb2
  have HBX := Lib.hid (Blk.new w1 24 #[.int .i64 zk, .int .i64 zn, .string zs])
  clear hb1 hb2
  go_wp2_with fail
  refine (rget_any HR1.out ⟨k, n, s⟩ (by omega)).mono ?_
  rintro e w3 ⟨rfl, hb3⟩
  rw [HZ.out, HBB.out]
  have y0 : w3.cell? ⟨w1.heap.size, 0, none⟩ = some (.int .i64 zk) := (HBX.out.new' hb3).cell 0
  have y1 : w3.cell? ⟨w1.heap.size, 1, none⟩ = some (.int .i64 zn) := (HBX.out.new' hb3).cell 1
  have y2 : w3.cell? ⟨w1.heap.size, 2, none⟩ = some (.string zs) := (HBX.out.new' hb3).cell 2
  have hl3 : w1.heap.size < w3.heap.size := (HBX.out.new' hb3).lt
  have hs : V.same ⟨zk, zn, zs⟩ ⟨zk, zn, zs⟩ = true := by simp [V.same]
  have hbe : Below w.heap.size w w3 := HB1.out.trans ((HB2.out.trans (hb3.mono HB2.out.size)).mono HB1.out.size)
  have HBE := Lib.hid hbe
  clear hb3 hbe
  go_wp2_with fail
  go_ret
  have hend : Below w.heap.size w (w3.alloc (.cells #[.int .i64 zk, .int .i64 zn, .string zs] 24)) := HBE.out.alloc HBE.out.size _
  exact ⟨ret_bool (by simp), (HH.out.new hend).mono (fun _ hi => .inl hi) ((HH.out.z).step (Mod.new hend)), Mod.new hend⟩

theorem does_any {w0 w : World} {S : Nat → Prop} {g y : Nat} {L : List (V × V)} (h : HasB w0 w S g y L) (c : CallD) (hk : c.k.Ok) :
    Calls Try.prog 24 #[.pointer (some ⟨g, 0, none⟩), .pointer (some ⟨y, 0, none⟩), .agg c.cs.toArray] w (Does w0 w S g y (didL L c)) := by
  unfold didL
  rcases which_cases c with e | e | e | e
  · rw [if_neg (by omega), if_neg (by omega)]
    exact does_put h c hk (.inl e)
  · rw [if_neg (by omega), if_neg (by omega)]
    exact does_put h c hk (.inr e)
  · rw [if_pos e]
    exact does_get h c hk e
  · rw [if_neg (by omega), if_pos e]
    exact does_del h c hk e
end Go.Proofs.Ytfdihmbmlhlkgaa
