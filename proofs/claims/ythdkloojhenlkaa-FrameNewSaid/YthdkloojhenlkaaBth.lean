/- both: a call of either. -/
import Derived.Test.YthdkloojhenlkaaTwo
import Derived.Test.YthdkloojhenlkaaRfH
namespace Go.Proofs.Ythdkloojhenlkaa
open Go.RowKit
attribute [local go_sem high] guardV eqV neqV
attribute [local go_sem] V.v

set_option maxRecDepth 100000 in
set_option maxHeartbeats 2000000 in
theorem both_0 (w0 w : World) (S S' : Nat → Prop) (g y : Nat) (F : Fr) (d n : Int) (A : Option Addr) (m c : Nat) (xs : List V) (hT : Two w0 w S S' g y F F) (hA : RdV w A m c xs) (hd : d.tmod 11 % 11 = 0) (hfv : F.values.length ≤ 900000) (hfb : F.blocks.length ≤ 900000) (hfl : F.locals.length + F.cells.length ≤ 1000) (hn64 : -9223372036854775808 ≤ n ∧ n ≤ 9223372036854775807):
    Calls Try.prog 33 #[.pointer (some ⟨g, 0, none⟩), .pointer (some ⟨y, 0, none⟩), .agg #[.int .i64 d, .int .i64 n, .slice A m c]] w fun e w' => e = .returned (.bool true) ∧ Next w0 w S S' g y ({ F with values := F.values ++ cutRow xs }) ({ F with values := F.values ++ cutRow xs }) w' := by
  have hd1 : -11 < d.tmod 11 := by have := Int.lt_tmod_of_pos d (show (0 : Int) < 11 by omega); omega
  have hd2 : d.tmod 11 < 11 := Int.tmod_lt_of_pos d (by omega)
  have bx : Bes (w.alloc (.cells #[.int .i64 d, .int .i64 n, .slice A m c] 76)) S S' w.heap.size 76 #[.int .i64 d, .int .i64 n, .slice A m c] := Bes.of hT rfl
  have hb0 : Below w.heap.size w (w.alloc (.cells #[.int .i64 d, .int .i64 n, .slice A m c] 76)) := (by repeat (first | exact Below.refl _ _ | assumption | refine Below.setCell ?_ (by first | (simp; done) | (simp; omega) | omega) _ | refine below_drewN ?_ _ | refine Below.drew ?_ | refine Below.alloc ?_ (by first | (simp; done) | (simp; omega) | omega) _))
  have k0 : Side S S' w S S' (w.alloc (.cells #[.int .i64 d, .int .i64 n, .slice A m c] 76)) := Side.new hb0
  have t0 := hT.new hb0
  have ha0 := hA.new hb0
  have hcl := cutRow_length xs
  have t_0 : (d.tmod 11 % 11 == 0) = true := by rw [hd]; rfl
  have HCL := Lib.hid hcl
  clear hT hA hb0 hd hcl
  go_enter Try.func33, Try.ntmps33
  go_wp2_with fail
  refine (row_any A m c xs _ ha0).mono ?_
  rintro e w1 ⟨v, rfl, hv, hvn, hb1⟩
  obtain ⟨A1, c1, rfl, r1⟩ := RowB.of_own (S := S) (S' := S') hv (fun b e => ⟨fun hs => by have := hvn b e; have := t0.lt hs; omega, fun hs => by have := hvn b e; have := t0.lt' hs; omega⟩)
  have q1 : Side S S' _ S S' w1 := Side.new hb1
  have t1 := t0.new hb1
  have k1 := k0.trans q1
  have bx1 := bx.side q1
  clear t0 k0 q1 bx hv hvn hb1 ha0
  go_wp2_with fail
  refine (first_any A1 _ c1 (cutRow xs) w1 r1.rd).mono ?_
  rintro e w2 ⟨rfl, hb2⟩
  generalize (cutRow xs).head?.getD V.zero = x
  have q2 : Side S S' w1 S S' w2 := Side.new hb2
  have t2 := t1.new hb2
  have k2 := k1.trans q2
  have bx2 := bx1.side q2
  have r2 := r1.side q2
  have vx : Bes (w2.alloc (.cells #[.int .i64 x.k, .int .i64 x.n, .string x.s] 44)) S S' w2.heap.size 44 #[.int .i64 x.k, .int .i64 x.n, .string x.s] := Bes.of t2 rfl
  have hb3 : Below w2.heap.size w2 (w2.alloc (.cells #[.int .i64 x.k, .int .i64 x.n, .string x.s] 44)) := (by repeat (first | exact Below.refl _ _ | assumption | refine Below.setCell ?_ (by first | (simp; done) | (simp; omega) | omega) _ | refine below_drewN ?_ _ | refine Below.drew ?_ | refine Below.alloc ?_ (by first | (simp; done) | (simp; omega) | omega) _))
  have q3 : Side S S' w2 S S' (w2.alloc (.cells #[.int .i64 x.k, .int .i64 x.n, .string x.s] 44)) := Side.new hb3
  have t3 := t2.new hb3
  have k3 := k2.trans q3
  have bx3 := bx2.side q3
  have r3 := r2.side q3
  have hlb := bx3.blk.lt
  have d0 : w2.cell? ⟨w.heap.size, 0, none⟩ = some (.int .i64 d) := bx2.blk.cell 0
  have d1 : w2.cell? ⟨w.heap.size, 1, none⟩ = some (.int .i64 n) := bx2.blk.cell 1
  have hlb2 := bx2.blk.lt
  have x0 : (w2.alloc (.cells #[.int .i64 x.k, .int .i64 x.n, .string x.s] 44)).cell? ⟨w2.heap.size, 0, none⟩ = some (.int .i64 x.k) := vx.blk.cell 0
  have x1 : (w2.alloc (.cells #[.int .i64 x.k, .int .i64 x.n, .string x.s] 44)).cell? ⟨w2.heap.size, 1, none⟩ = some (.int .i64 x.n) := vx.blk.cell 1
  have x2 : (w2.alloc (.cells #[.int .i64 x.k, .int .i64 x.n, .string x.s] 44)).cell? ⟨w2.heap.size, 2, none⟩ = some (.string x.s) := vx.blk.cell 2
  have X0 := Lib.hid x0
  have X1 := Lib.hid x1
  have X2 := Lib.hid x2
  clear t1 t2 k1 k2 bx1 bx2 r1 r2 q2 q3 hb2 hb3 x0 x1 x2
  go_wp2_with fail
  refine (push_any g F S A1 _ c1 (cutRow xs) _ t3.f r3.rd (by have := HCL.out; omega)).mono ?_
  rintro e w4 ⟨rfl, hF4, hm4⟩
  obtain ⟨T, T', t4, q4⟩ := t3.nextF hF4 hm4
  have k4 := k3.trans q4
  have r4 := r3.side q4
  clear t3 k3 bx3 q4 r3 vx hF4 hm4
  go_wp2_with fail
  refine (rpush_any y F T' A1 _ c1 (cutRow xs) _ t4.r r4.rd (by have := HCL.out; omega)).mono ?_
  rintro e w5 ⟨rfl, hF5, hm5⟩
  obtain ⟨U, U', t5, q5⟩ := t4.nextR hF5 hm5
  clear t4 r4 hF5 hm5
  go_wp2
  go_ret
  exact ⟨rfl, _, _, t5, k4.trans q5⟩

set_option maxRecDepth 100000 in
set_option maxHeartbeats 2000000 in
theorem both_1 (w0 w : World) (S S' : Nat → Prop) (g y : Nat) (F : Fr) (d n : Int) (A : Option Addr) (m c : Nat) (xs : List V) (hT : Two w0 w S S' g y F F) (hA : RdV w A m c xs) (hd : d.tmod 11 % 11 = 1) (hfv : F.values.length ≤ 900000) (hfb : F.blocks.length ≤ 900000) (hfl : F.locals.length + F.cells.length ≤ 1000) (hn64 : -9223372036854775808 ≤ n ∧ n ≤ 9223372036854775807):
    Calls Try.prog 33 #[.pointer (some ⟨g, 0, none⟩), .pointer (some ⟨y, 0, none⟩), .agg #[.int .i64 d, .int .i64 n, .slice A m c]] w fun e w' => e = .returned (.bool true) ∧ Next w0 w S S' g y ({ F with values := F.values.dropLast }) ({ F with values := F.values.dropLast }) w' := by
  have hd1 : -11 < d.tmod 11 := by have := Int.lt_tmod_of_pos d (show (0 : Int) < 11 by omega); omega
  have hd2 : d.tmod 11 < 11 := Int.tmod_lt_of_pos d (by omega)
  have bx : Bes (w.alloc (.cells #[.int .i64 d, .int .i64 n, .slice A m c] 76)) S S' w.heap.size 76 #[.int .i64 d, .int .i64 n, .slice A m c] := Bes.of hT rfl
  have hb0 : Below w.heap.size w (w.alloc (.cells #[.int .i64 d, .int .i64 n, .slice A m c] 76)) := (by repeat (first | exact Below.refl _ _ | assumption | refine Below.setCell ?_ (by first | (simp; done) | (simp; omega) | omega) _ | refine below_drewN ?_ _ | refine Below.drew ?_ | refine Below.alloc ?_ (by first | (simp; done) | (simp; omega) | omega) _))
  have k0 : Side S S' w S S' (w.alloc (.cells #[.int .i64 d, .int .i64 n, .slice A m c] 76)) := Side.new hb0
  have t0 := hT.new hb0
  have ha0 := hA.new hb0
  have hcl := cutRow_length xs
  have t_0 : (d.tmod 11 % 11 == 0) = false := by rw [hd]; rfl
  have t_1 : (d.tmod 11 % 11 == 1) = true := by rw [hd]; rfl
  have HCL := Lib.hid hcl
  clear hT hA hb0 hd hcl
  go_enter Try.func33, Try.ntmps33
  go_wp2_with fail
  refine (row_any A m c xs _ ha0).mono ?_
  rintro e w1 ⟨v, rfl, hv, hvn, hb1⟩
  obtain ⟨A1, c1, rfl, r1⟩ := RowB.of_own (S := S) (S' := S') hv (fun b e => ⟨fun hs => by have := hvn b e; have := t0.lt hs; omega, fun hs => by have := hvn b e; have := t0.lt' hs; omega⟩)
  have q1 : Side S S' _ S S' w1 := Side.new hb1
  have t1 := t0.new hb1
  have k1 := k0.trans q1
  have bx1 := bx.side q1
  clear t0 k0 q1 bx hv hvn hb1 ha0
  go_wp2_with fail
  refine (first_any A1 _ c1 (cutRow xs) w1 r1.rd).mono ?_
  rintro e w2 ⟨rfl, hb2⟩
  generalize (cutRow xs).head?.getD V.zero = x
  have q2 : Side S S' w1 S S' w2 := Side.new hb2
  have t2 := t1.new hb2
  have k2 := k1.trans q2
  have bx2 := bx1.side q2
  have r2 := r1.side q2
  have vx : Bes (w2.alloc (.cells #[.int .i64 x.k, .int .i64 x.n, .string x.s] 44)) S S' w2.heap.size 44 #[.int .i64 x.k, .int .i64 x.n, .string x.s] := Bes.of t2 rfl
  have hb3 : Below w2.heap.size w2 (w2.alloc (.cells #[.int .i64 x.k, .int .i64 x.n, .string x.s] 44)) := (by repeat (first | exact Below.refl _ _ | assumption | refine Below.setCell ?_ (by first | (simp; done) | (simp; omega) | omega) _ | refine below_drewN ?_ _ | refine Below.drew ?_ | refine Below.alloc ?_ (by first | (simp; done) | (simp; omega) | omega) _))
  have q3 : Side S S' w2 S S' (w2.alloc (.cells #[.int .i64 x.k, .int .i64 x.n, .string x.s] 44)) := Side.new hb3
  have t3 := t2.new hb3
  have k3 := k2.trans q3
  have bx3 := bx2.side q3
  have r3 := r2.side q3
  have hlb := bx3.blk.lt
  have d0 : w2.cell? ⟨w.heap.size, 0, none⟩ = some (.int .i64 d) := bx2.blk.cell 0
  have d1 : w2.cell? ⟨w.heap.size, 1, none⟩ = some (.int .i64 n) := bx2.blk.cell 1
  have hlb2 := bx2.blk.lt
  have x0 : (w2.alloc (.cells #[.int .i64 x.k, .int .i64 x.n, .string x.s] 44)).cell? ⟨w2.heap.size, 0, none⟩ = some (.int .i64 x.k) := vx.blk.cell 0
  have x1 : (w2.alloc (.cells #[.int .i64 x.k, .int .i64 x.n, .string x.s] 44)).cell? ⟨w2.heap.size, 1, none⟩ = some (.int .i64 x.n) := vx.blk.cell 1
  have x2 : (w2.alloc (.cells #[.int .i64 x.k, .int .i64 x.n, .string x.s] 44)).cell? ⟨w2.heap.size, 2, none⟩ = some (.string x.s) := vx.blk.cell 2
  have X0 := Lib.hid x0
  have X1 := Lib.hid x1
  have X2 := Lib.hid x2
  clear t1 t2 k1 k2 bx1 bx2 r1 r2 q2 q3 hb2 hb3 x0 x1 x2
  go_wp2_with fail
  refine (pop_any g F _ _ t3.f).mono ?_
  rintro e w4 ⟨rfl, hF4, hm4⟩
  obtain ⟨T, T', t4, q4⟩ := t3.nextF hF4 hm4
  have k4 := k3.trans q4
  have bx4 := bx3.side q4
  clear t3 k3 bx3 q4 r3 vx hF4 hm4
  obtain ⟨z, hz⟩ : ∃ z, F.top 0 = z := ⟨_, rfl⟩
  obtain ⟨b, hbb⟩ : ∃ b, F.topOk 0 = b := ⟨_, rfl⟩
  rw [hz, hbb]
  have HZ := Lib.hid hz
  have HBB := Lib.hid hbb
  clear hz hbb
  have b9 : Bes (w4.alloc (.cells #[.int .i64 z.k, .int .i64 z.n, .string z.s] 44)) T T' w4.heap.size 44 #[.int .i64 z.k, .int .i64 z.n, .string z.s] := Bes.of t4 rfl
  have hb9 : Below w4.heap.size w4 (w4.alloc (.cells #[.int .i64 z.k, .int .i64 z.n, .string z.s] 44)) := (by repeat (first | exact Below.refl _ _ | assumption | refine Below.setCell ?_ (by first | (simp; done) | (simp; omega) | omega) _ | refine below_drewN ?_ _ | refine Below.drew ?_ | refine Below.alloc ?_ (by first | (simp; done) | (simp; omega) | omega) _))
  have q9 : Side T T' w4 T T' (w4.alloc (.cells #[.int .i64 z.k, .int .i64 z.n, .string z.s] 44)) := Side.new hb9
  have t9 := t4.new hb9
  have k9 := k4.trans q9
  have d1 : w4.cell? ⟨w.heap.size, 1, none⟩ = some (.int .i64 n) := bx4.blk.cell 1
  have hlb4 := bx4.blk.lt
  clear t4 k4 bx4 q9 hb9
  go_wp2_with fail
  refine (rpop_any y F _ _ t9.r (by omega)).mono ?_
  rintro e w5 ⟨rfl, hF5, hm5⟩
  obtain ⟨U, U', t5, q5⟩ := t9.nextR hF5 hm5
  rw [HZ.out, HBB.out]
  have b5 := b9.side q5
  have e0 : w5.cell? ⟨w4.heap.size, 0, none⟩ = some (.int .i64 z.k) := b5.blk.cell 0
  have e1 : w5.cell? ⟨w4.heap.size, 1, none⟩ = some (.int .i64 z.n) := b5.blk.cell 1
  have e2 : w5.cell? ⟨w4.heap.size, 2, none⟩ = some (.string z.s) := b5.blk.cell 2
  have hl5 := b5.blk.lt
  have k5 := k9.trans q5
  have hs : V.same ⟨z.k, z.n, z.s⟩ ⟨z.k, z.n, z.s⟩ = true := by simp [V.same]
  have hbel : Below w5.heap.size w5 (w5.alloc (.cells #[.int .i64 z.k, .int .i64 z.n, .string z.s] 44)) := (by repeat (first | exact Below.refl _ _ | assumption | refine Below.setCell ?_ (by first | (simp; done) | (simp; omega) | omega) _ | refine below_drewN ?_ _ | refine Below.drew ?_ | refine Below.alloc ?_ (by first | (simp; done) | (simp; omega) | omega) _))
  have HBEL := Lib.hid hbel
  clear t9 k9 q5 b5 b9 hbel hF5 hm5
  go_wp2
  go_ret
  exact ⟨rfl, _, _, t5.new HBEL.out, k5.trans (Side.new HBEL.out)⟩

set_option maxRecDepth 100000 in
set_option maxHeartbeats 2000000 in
theorem both_2 (w0 w : World) (S S' : Nat → Prop) (g y : Nat) (F : Fr) (d n : Int) (A : Option Addr) (m c : Nat) (xs : List V) (hT : Two w0 w S S' g y F F) (hA : RdV w A m c xs) (hd : d.tmod 11 % 11 = 2) (hfv : F.values.length ≤ 900000) (hfb : F.blocks.length ≤ 900000) (hfl : F.locals.length + F.cells.length ≤ 1000) (hn64 : -9223372036854775808 ≤ n ∧ n ≤ 9223372036854775807):
    Calls Try.prog 33 #[.pointer (some ⟨g, 0, none⟩), .pointer (some ⟨y, 0, none⟩), .agg #[.int .i64 d, .int .i64 n, .slice A m c]] w fun e w' => e = .returned (.bool true) ∧ Next w0 w S S' g y (F) (F) w' := by
  have hd1 : -11 < d.tmod 11 := by have := Int.lt_tmod_of_pos d (show (0 : Int) < 11 by omega); omega
  have hd2 : d.tmod 11 < 11 := Int.tmod_lt_of_pos d (by omega)
  have bx : Bes (w.alloc (.cells #[.int .i64 d, .int .i64 n, .slice A m c] 76)) S S' w.heap.size 76 #[.int .i64 d, .int .i64 n, .slice A m c] := Bes.of hT rfl
  have hb0 : Below w.heap.size w (w.alloc (.cells #[.int .i64 d, .int .i64 n, .slice A m c] 76)) := (by repeat (first | exact Below.refl _ _ | assumption | refine Below.setCell ?_ (by first | (simp; done) | (simp; omega) | omega) _ | refine below_drewN ?_ _ | refine Below.drew ?_ | refine Below.alloc ?_ (by first | (simp; done) | (simp; omega) | omega) _))
  have k0 : Side S S' w S S' (w.alloc (.cells #[.int .i64 d, .int .i64 n, .slice A m c] 76)) := Side.new hb0
  have t0 := hT.new hb0
  have ha0 := hA.new hb0
  have hcl := cutRow_length xs
  have t_0 : (d.tmod 11 % 11 == 0) = false := by rw [hd]; rfl
  have t_1 : (d.tmod 11 % 11 == 1) = false := by rw [hd]; rfl
  have t_2 : (d.tmod 11 % 11 == 2) = true := by rw [hd]; rfl
  have HCL := Lib.hid hcl
  clear hT hA hb0 hd hcl
  go_enter Try.func33, Try.ntmps33
  go_wp2_with fail
  refine (row_any A m c xs _ ha0).mono ?_
  rintro e w1 ⟨v, rfl, hv, hvn, hb1⟩
  obtain ⟨A1, c1, rfl, r1⟩ := RowB.of_own (S := S) (S' := S') hv (fun b e => ⟨fun hs => by have := hvn b e; have := t0.lt hs; omega, fun hs => by have := hvn b e; have := t0.lt' hs; omega⟩)
  have q1 : Side S S' _ S S' w1 := Side.new hb1
  have t1 := t0.new hb1
  have k1 := k0.trans q1
  have bx1 := bx.side q1
  clear t0 k0 q1 bx hv hvn hb1 ha0
  go_wp2_with fail
  refine (first_any A1 _ c1 (cutRow xs) w1 r1.rd).mono ?_
  rintro e w2 ⟨rfl, hb2⟩
  generalize (cutRow xs).head?.getD V.zero = x
  have q2 : Side S S' w1 S S' w2 := Side.new hb2
  have t2 := t1.new hb2
  have k2 := k1.trans q2
  have bx2 := bx1.side q2
  have r2 := r1.side q2
  have vx : Bes (w2.alloc (.cells #[.int .i64 x.k, .int .i64 x.n, .string x.s] 44)) S S' w2.heap.size 44 #[.int .i64 x.k, .int .i64 x.n, .string x.s] := Bes.of t2 rfl
  have hb3 : Below w2.heap.size w2 (w2.alloc (.cells #[.int .i64 x.k, .int .i64 x.n, .string x.s] 44)) := (by repeat (first | exact Below.refl _ _ | assumption | refine Below.setCell ?_ (by first | (simp; done) | (simp; omega) | omega) _ | refine below_drewN ?_ _ | refine Below.drew ?_ | refine Below.alloc ?_ (by first | (simp; done) | (simp; omega) | omega) _))
  have q3 : Side S S' w2 S S' (w2.alloc (.cells #[.int .i64 x.k, .int .i64 x.n, .string x.s] 44)) := Side.new hb3
  have t3 := t2.new hb3
  have k3 := k2.trans q3
  have bx3 := bx2.side q3
  have r3 := r2.side q3
  have hlb := bx3.blk.lt
  have d0 : w2.cell? ⟨w.heap.size, 0, none⟩ = some (.int .i64 d) := bx2.blk.cell 0
  have d1 : w2.cell? ⟨w.heap.size, 1, none⟩ = some (.int .i64 n) := bx2.blk.cell 1
  have hlb2 := bx2.blk.lt
  have x0 : (w2.alloc (.cells #[.int .i64 x.k, .int .i64 x.n, .string x.s] 44)).cell? ⟨w2.heap.size, 0, none⟩ = some (.int .i64 x.k) := vx.blk.cell 0
  have x1 : (w2.alloc (.cells #[.int .i64 x.k, .int .i64 x.n, .string x.s] 44)).cell? ⟨w2.heap.size, 1, none⟩ = some (.int .i64 x.n) := vx.blk.cell 1
  have x2 : (w2.alloc (.cells #[.int .i64 x.k, .int .i64 x.n, .string x.s] 44)).cell? ⟨w2.heap.size, 2, none⟩ = some (.string x.s) := vx.blk.cell 2
  have X0 := Lib.hid x0
  have X1 := Lib.hid x1
  have X2 := Lib.hid x2
  clear t1 t2 k1 k2 bx1 bx2 r1 r2 q2 q3 hb2 hb3 x0 x1 x2
  go_wp2_with fail
  refine (top_any g F _ n _ t3.f).mono ?_
  rintro e w4 ⟨rfl, hb4⟩
  have q4 : Side S S' _ S S' w4 := Side.new hb4
  have t4 := t3.new hb4
  have k4 := k3.trans q4
  have bx4 := bx3.side q4
  clear t3 k3 bx3 q4 r3 vx hb4
  obtain ⟨z, hz⟩ : ∃ z, F.top n = z := ⟨_, rfl⟩
  obtain ⟨b, hbb⟩ : ∃ b, F.topOk n = b := ⟨_, rfl⟩
  rw [hz, hbb]
  have HZ := Lib.hid hz
  have HBB := Lib.hid hbb
  clear hz hbb
  have b9 : Bes (w4.alloc (.cells #[.int .i64 z.k, .int .i64 z.n, .string z.s] 44)) S S' w4.heap.size 44 #[.int .i64 z.k, .int .i64 z.n, .string z.s] := Bes.of t4 rfl
  have hb9 : Below w4.heap.size w4 (w4.alloc (.cells #[.int .i64 z.k, .int .i64 z.n, .string z.s] 44)) := (by repeat (first | exact Below.refl _ _ | assumption | refine Below.setCell ?_ (by first | (simp; done) | (simp; omega) | omega) _ | refine below_drewN ?_ _ | refine Below.drew ?_ | refine Below.alloc ?_ (by first | (simp; done) | (simp; omega) | omega) _))
  have q9 : Side S S' w4 S S' (w4.alloc (.cells #[.int .i64 z.k, .int .i64 z.n, .string z.s] 44)) := Side.new hb9
  have t9 := t4.new hb9
  have k9 := k4.trans q9
  have d1 : w4.cell? ⟨w.heap.size, 1, none⟩ = some (.int .i64 n) := bx4.blk.cell 1
  have hlb4 := bx4.blk.lt
  clear t4 k4 bx4 q9 hb9
  go_wp2_with fail
  refine (rtop_any y F _ n _ t9.r).mono ?_
  rintro e w5 ⟨rfl, hb5⟩
  have q5 : Side S S' _ S S' w5 := Side.new hb5
  have t5 := t9.new hb5
  rw [HZ.out, HBB.out]
  have b5 := b9.side q5
  have e0 : w5.cell? ⟨w4.heap.size, 0, none⟩ = some (.int .i64 z.k) := b5.blk.cell 0
  have e1 : w5.cell? ⟨w4.heap.size, 1, none⟩ = some (.int .i64 z.n) := b5.blk.cell 1
  have e2 : w5.cell? ⟨w4.heap.size, 2, none⟩ = some (.string z.s) := b5.blk.cell 2
  have hl5 := b5.blk.lt
  have k5 := k9.trans q5
  have hs : V.same ⟨z.k, z.n, z.s⟩ ⟨z.k, z.n, z.s⟩ = true := by simp [V.same]
  have hbel : Below w5.heap.size w5 (w5.alloc (.cells #[.int .i64 z.k, .int .i64 z.n, .string z.s] 44)) := (by repeat (first | exact Below.refl _ _ | assumption | refine Below.setCell ?_ (by first | (simp; done) | (simp; omega) | omega) _ | refine below_drewN ?_ _ | refine Below.drew ?_ | refine Below.alloc ?_ (by first | (simp; done) | (simp; omega) | omega) _))
  have HBEL := Lib.hid hbel
  clear t9 k9 q5 b5 b9 hbel hb5
  go_wp2
  go_ret
  exact ⟨rfl, _, _, t5.new HBEL.out, k5.trans (Side.new HBEL.out)⟩

set_option maxRecDepth 100000 in
set_option maxHeartbeats 2000000 in
theorem both_3 (w0 w : World) (S S' : Nat → Prop) (g y : Nat) (F : Fr) (d n : Int) (A : Option Addr) (m c : Nat) (xs : List V) (hT : Two w0 w S S' g y F F) (hA : RdV w A m c xs) (hd : d.tmod 11 % 11 = 3) (hfv : F.values.length ≤ 900000) (hfb : F.blocks.length ≤ 900000) (hfl : F.locals.length + F.cells.length ≤ 1000) (hn64 : -9223372036854775808 ≤ n ∧ n ≤ 9223372036854775807):
    Calls Try.prog 33 #[.pointer (some ⟨g, 0, none⟩), .pointer (some ⟨y, 0, none⟩), .agg #[.int .i64 d, .int .i64 n, .slice A m c]] w fun e w' => e = .returned (.bool true) ∧ Next w0 w S S' g y (F.took n) (F.took n) w' := by
  have hd1 : -11 < d.tmod 11 := by have := Int.lt_tmod_of_pos d (show (0 : Int) < 11 by omega); omega
  have hd2 : d.tmod 11 < 11 := Int.tmod_lt_of_pos d (by omega)
  have bx : Bes (w.alloc (.cells #[.int .i64 d, .int .i64 n, .slice A m c] 76)) S S' w.heap.size 76 #[.int .i64 d, .int .i64 n, .slice A m c] := Bes.of hT rfl
  have hb0 : Below w.heap.size w (w.alloc (.cells #[.int .i64 d, .int .i64 n, .slice A m c] 76)) := (by repeat (first | exact Below.refl _ _ | assumption | refine Below.setCell ?_ (by first | (simp; done) | (simp; omega) | omega) _ | refine below_drewN ?_ _ | refine Below.drew ?_ | refine Below.alloc ?_ (by first | (simp; done) | (simp; omega) | omega) _))
  have k0 : Side S S' w S S' (w.alloc (.cells #[.int .i64 d, .int .i64 n, .slice A m c] 76)) := Side.new hb0
  have t0 := hT.new hb0
  have ha0 := hA.new hb0
  have hcl := cutRow_length xs
  have t_0 : (d.tmod 11 % 11 == 0) = false := by rw [hd]; rfl
  have t_1 : (d.tmod 11 % 11 == 1) = false := by rw [hd]; rfl
  have t_2 : (d.tmod 11 % 11 == 2) = false := by rw [hd]; rfl
  have t_3 : (d.tmod 11 % 11 == 3) = true := by rw [hd]; rfl
  have HCL := Lib.hid hcl
  clear hT hA hb0 hd hcl
  go_enter Try.func33, Try.ntmps33
  go_wp2_with fail
  refine (row_any A m c xs _ ha0).mono ?_
  rintro e w1 ⟨v, rfl, hv, hvn, hb1⟩
  obtain ⟨A1, c1, rfl, r1⟩ := RowB.of_own (S := S) (S' := S') hv (fun b e => ⟨fun hs => by have := hvn b e; have := t0.lt hs; omega, fun hs => by have := hvn b e; have := t0.lt' hs; omega⟩)
  have q1 : Side S S' _ S S' w1 := Side.new hb1
  have t1 := t0.new hb1
  have k1 := k0.trans q1
  have bx1 := bx.side q1
  clear t0 k0 q1 bx hv hvn hb1 ha0
  go_wp2_with fail
  refine (first_any A1 _ c1 (cutRow xs) w1 r1.rd).mono ?_
  rintro e w2 ⟨rfl, hb2⟩
  generalize (cutRow xs).head?.getD V.zero = x
  have q2 : Side S S' w1 S S' w2 := Side.new hb2
  have t2 := t1.new hb2
  have k2 := k1.trans q2
  have bx2 := bx1.side q2
  have r2 := r1.side q2
  have vx : Bes (w2.alloc (.cells #[.int .i64 x.k, .int .i64 x.n, .string x.s] 44)) S S' w2.heap.size 44 #[.int .i64 x.k, .int .i64 x.n, .string x.s] := Bes.of t2 rfl
  have hb3 : Below w2.heap.size w2 (w2.alloc (.cells #[.int .i64 x.k, .int .i64 x.n, .string x.s] 44)) := (by repeat (first | exact Below.refl _ _ | assumption | refine Below.setCell ?_ (by first | (simp; done) | (simp; omega) | omega) _ | refine below_drewN ?_ _ | refine Below.drew ?_ | refine Below.alloc ?_ (by first | (simp; done) | (simp; omega) | omega) _))
  have q3 : Side S S' w2 S S' (w2.alloc (.cells #[.int .i64 x.k, .int .i64 x.n, .string x.s] 44)) := Side.new hb3
  have t3 := t2.new hb3
  have k3 := k2.trans q3
  have bx3 := bx2.side q3
  have r3 := r2.side q3
  have hlb := bx3.blk.lt
  have d0 : w2.cell? ⟨w.heap.size, 0, none⟩ = some (.int .i64 d) := bx2.blk.cell 0
  have d1 : w2.cell? ⟨w.heap.size, 1, none⟩ = some (.int .i64 n) := bx2.blk.cell 1
  have hlb2 := bx2.blk.lt
  have x0 : (w2.alloc (.cells #[.int .i64 x.k, .int .i64 x.n, .string x.s] 44)).cell? ⟨w2.heap.size, 0, none⟩ = some (.int .i64 x.k) := vx.blk.cell 0
  have x1 : (w2.alloc (.cells #[.int .i64 x.k, .int .i64 x.n, .string x.s] 44)).cell? ⟨w2.heap.size, 1, none⟩ = some (.int .i64 x.n) := vx.blk.cell 1
  have x2 : (w2.alloc (.cells #[.int .i64 x.k, .int .i64 x.n, .string x.s] 44)).cell? ⟨w2.heap.size, 2, none⟩ = some (.string x.s) := vx.blk.cell 2
  have X0 := Lib.hid x0
  have X1 := Lib.hid x1
  have X2 := Lib.hid x2
  clear t1 t2 k1 k2 bx1 bx2 r1 r2 q2 q3 hb2 hb3 x0 x1 x2
  go_wp2_with fail
  refine (take_any g F S n _ t3.f (by omega)).mono ?_
  rintro e w4 ⟨u, rfl, hu, hun, hF4, hm4⟩
  have t4 := t3.stepF (T := GrewBut S (w2.alloc (.cells #[.int .i64 x.k, .int .i64 x.n, .string x.s] 44)) w4 u) hF4 hm4 (fun i hi => hi.imp_right fun h => h.1)
  have q4 : Side S S' _ _ S' w4 := Side.stepF (S' := S') (T := GrewBut S (w2.alloc (.cells #[.int .i64 x.k, .int .i64 x.n, .string x.s] 44)) w4 u) hm4 (fun i hi => hi.imp_right fun h => h.1)
  obtain ⟨A4, n4, c4, rfl, hr4, hA4⟩ := hu.rd
  have r4 : RowB w4 (GrewBut S (w2.alloc (.cells #[.int .i64 x.k, .int .i64 x.n, .string x.s] 44)) w4 (.slice A4 n4 c4)) S' A4 n4 c4 (F.taken n) := ⟨hr4, fun b o e _ => ⟨Own.lt hu (hA4 b o e), fun hs => by
    rcases hs with hs | hs
    · have := t3.lt hs; have := hun b (hA4 b o e); omega
    · exact hs.2.2 (hA4 b o e), fun hs => by have := t3.lt' hs; have := hun b (hA4 b o e); omega⟩⟩
  have k4 := k3.trans q4
  have bx4 := bx3.side q4
  have d1 : w4.cell? ⟨w.heap.size, 1, none⟩ = some (.int .i64 n) := bx4.blk.cell 1
  clear t3 k3 bx3 q4 r3 vx hF4 hm4 hu hun hr4 hA4 bx4
  generalize GrewBut S (w2.alloc (.cells #[.int .i64 x.k, .int .i64 x.n, .string x.s] 44)) w4 (.slice A4 n4 c4) = T at *
  go_wp2_with fail
  refine (rtake_any y F S' n _ t4.r (by omega) hn64).mono ?_
  rintro e w5 ⟨u, rfl, hu, hun, hF5, hm5⟩
  have t5 := t4.stepR (T := GrewBut S' w4 w5 u) hF5 hm5 (fun i hi => hi.imp_right fun h => h.1)
  have q5 : Side T S' _ T _ w5 := Side.stepR (S := T) (T := GrewBut S' w4 w5 u) hm5 (fun i hi => hi.imp_right fun h => h.1)
  obtain ⟨A5, n5, c5, rfl, hr5, hA5⟩ := hu.rd
  have r5 := r4.side q5
  have k5 := k4.trans q5
  have hrow := (row_same A4 A5 n4 n5 c4 c5 _ _ w5 r5.rd hr5).mono (R' := fun e w' => e = .returned (.bool true) ∧ Below w5.heap.size w5 w') fun e w' ⟨h1, q, h2⟩ => ⟨by rw [h1, rowSame_self], by rw [h2]; exact below_drewN (Below.refl _ _) q⟩
  have HROW := Lib.hid hrow
  clear t4 k4 q5 r4 hF5 hm5 hu hun hr5 hA5 r5 hrow
  go_wp2_with (go_at_call 24; refine HROW.out.mono ?_; rintro e w6 ⟨rfl, hb6⟩; have HB6 := Lib.hid hb6; clear hb6)
  go_ret
  exact ⟨rfl, _, _, t5.new HB6.out, k5.trans (Side.new HB6.out)⟩

set_option maxRecDepth 100000 in
set_option maxHeartbeats 2000000 in
theorem both_4 (w0 w : World) (S S' : Nat → Prop) (g y : Nat) (F : Fr) (d n : Int) (A : Option Addr) (m c : Nat) (xs : List V) (hT : Two w0 w S S' g y F F) (hA : RdV w A m c xs) (hd : d.tmod 11 % 11 = 4) (hfv : F.values.length ≤ 900000) (hfb : F.blocks.length ≤ 900000) (hfl : F.locals.length + F.cells.length ≤ 1000) (hn64 : -9223372036854775808 ≤ n ∧ n ≤ 9223372036854775807):
    Calls Try.prog 33 #[.pointer (some ⟨g, 0, none⟩), .pointer (some ⟨y, 0, none⟩), .agg #[.int .i64 d, .int .i64 n, .slice A m c]] w fun e w' => e = .returned (.bool true) ∧ Next w0 w S S' g y (F) (F) w' := by
  have hd1 : -11 < d.tmod 11 := by have := Int.lt_tmod_of_pos d (show (0 : Int) < 11 by omega); omega
  have hd2 : d.tmod 11 < 11 := Int.tmod_lt_of_pos d (by omega)
  have bx : Bes (w.alloc (.cells #[.int .i64 d, .int .i64 n, .slice A m c] 76)) S S' w.heap.size 76 #[.int .i64 d, .int .i64 n, .slice A m c] := Bes.of hT rfl
  have hb0 : Below w.heap.size w (w.alloc (.cells #[.int .i64 d, .int .i64 n, .slice A m c] 76)) := (by repeat (first | exact Below.refl _ _ | assumption | refine Below.setCell ?_ (by first | (simp; done) | (simp; omega) | omega) _ | refine below_drewN ?_ _ | refine Below.drew ?_ | refine Below.alloc ?_ (by first | (simp; done) | (simp; omega) | omega) _))
  have k0 : Side S S' w S S' (w.alloc (.cells #[.int .i64 d, .int .i64 n, .slice A m c] 76)) := Side.new hb0
  have t0 := hT.new hb0
  have ha0 := hA.new hb0
  have hcl := cutRow_length xs
  have t_0 : (d.tmod 11 % 11 == 0) = false := by rw [hd]; rfl
  have t_1 : (d.tmod 11 % 11 == 1) = false := by rw [hd]; rfl
  have t_2 : (d.tmod 11 % 11 == 2) = false := by rw [hd]; rfl
  have t_3 : (d.tmod 11 % 11 == 3) = false := by rw [hd]; rfl
  have t_4 : (d.tmod 11 % 11 == 4) = true := by rw [hd]; rfl
  have HCL := Lib.hid hcl
  clear hT hA hb0 hd hcl
  go_enter Try.func33, Try.ntmps33
  go_wp2_with fail
  refine (row_any A m c xs _ ha0).mono ?_
  rintro e w1 ⟨v, rfl, hv, hvn, hb1⟩
  obtain ⟨A1, c1, rfl, r1⟩ := RowB.of_own (S := S) (S' := S') hv (fun b e => ⟨fun hs => by have := hvn b e; have := t0.lt hs; omega, fun hs => by have := hvn b e; have := t0.lt' hs; omega⟩)
  have q1 : Side S S' _ S S' w1 := Side.new hb1
  have t1 := t0.new hb1
  have k1 := k0.trans q1
  have bx1 := bx.side q1
  clear t0 k0 q1 bx hv hvn hb1 ha0
  go_wp2_with fail
  refine (first_any A1 _ c1 (cutRow xs) w1 r1.rd).mono ?_
  rintro e w2 ⟨rfl, hb2⟩
  generalize (cutRow xs).head?.getD V.zero = x
  have q2 : Side S S' w1 S S' w2 := Side.new hb2
  have t2 := t1.new hb2
  have k2 := k1.trans q2
  have bx2 := bx1.side q2
  have r2 := r1.side q2
  have vx : Bes (w2.alloc (.cells #[.int .i64 x.k, .int .i64 x.n, .string x.s] 44)) S S' w2.heap.size 44 #[.int .i64 x.k, .int .i64 x.n, .string x.s] := Bes.of t2 rfl
  have hb3 : Below w2.heap.size w2 (w2.alloc (.cells #[.int .i64 x.k, .int .i64 x.n, .string x.s] 44)) := (by repeat (first | exact Below.refl _ _ | assumption | refine Below.setCell ?_ (by first | (simp; done) | (simp; omega) | omega) _ | refine below_drewN ?_ _ | refine Below.drew ?_ | refine Below.alloc ?_ (by first | (simp; done) | (simp; omega) | omega) _))
  have q3 : Side S S' w2 S S' (w2.alloc (.cells #[.int .i64 x.k, .int .i64 x.n, .string x.s] 44)) := Side.new hb3
  have t3 := t2.new hb3
  have k3 := k2.trans q3
  have bx3 := bx2.side q3
  have r3 := r2.side q3
  have hlb := bx3.blk.lt
  have d0 : w2.cell? ⟨w.heap.size, 0, none⟩ = some (.int .i64 d) := bx2.blk.cell 0
  have d1 : w2.cell? ⟨w.heap.size, 1, none⟩ = some (.int .i64 n) := bx2.blk.cell 1
  have hlb2 := bx2.blk.lt
  have x0 : (w2.alloc (.cells #[.int .i64 x.k, .int .i64 x.n, .string x.s] 44)).cell? ⟨w2.heap.size, 0, none⟩ = some (.int .i64 x.k) := vx.blk.cell 0
  have x1 : (w2.alloc (.cells #[.int .i64 x.k, .int .i64 x.n, .string x.s] 44)).cell? ⟨w2.heap.size, 1, none⟩ = some (.int .i64 x.n) := vx.blk.cell 1
  have x2 : (w2.alloc (.cells #[.int .i64 x.k, .int .i64 x.n, .string x.s] 44)).cell? ⟨w2.heap.size, 2, none⟩ = some (.string x.s) := vx.blk.cell 2
  have X0 := Lib.hid x0
  have X1 := Lib.hid x1
  have X2 := Lib.hid x2
  clear t1 t2 k1 k2 bx1 bx2 r1 r2 q2 q3 hb2 hb3 x0 x1 x2
  go_wp2_with fail
  refine (load_any g F _ n _ t3.f).mono ?_
  rintro e w4 ⟨rfl, hb4⟩
  have q4 : Side S S' _ S S' w4 := Side.new hb4
  have t4 := t3.new hb4
  have k4 := k3.trans q4
  have bx4 := bx3.side q4
  clear t3 k3 bx3 q4 r3 vx hb4
  obtain ⟨z, hz⟩ : ∃ z, F.load n = z := ⟨_, rfl⟩
  obtain ⟨b, hbb⟩ : ∃ b, F.isBound n = b := ⟨_, rfl⟩
  rw [hz, hbb]
  have HZ := Lib.hid hz
  have HBB := Lib.hid hbb
  clear hz hbb
  have b9 : Bes (w4.alloc (.cells #[.int .i64 z.k, .int .i64 z.n, .string z.s] 44)) S S' w4.heap.size 44 #[.int .i64 z.k, .int .i64 z.n, .string z.s] := Bes.of t4 rfl
  have hb9 : Below w4.heap.size w4 (w4.alloc (.cells #[.int .i64 z.k, .int .i64 z.n, .string z.s] 44)) := (by repeat (first | exact Below.refl _ _ | assumption | refine Below.setCell ?_ (by first | (simp; done) | (simp; omega) | omega) _ | refine below_drewN ?_ _ | refine Below.drew ?_ | refine Below.alloc ?_ (by first | (simp; done) | (simp; omega) | omega) _))
  have q9 : Side S S' w4 S S' (w4.alloc (.cells #[.int .i64 z.k, .int .i64 z.n, .string z.s] 44)) := Side.new hb9
  have t9 := t4.new hb9
  have k9 := k4.trans q9
  have d1 : w4.cell? ⟨w.heap.size, 1, none⟩ = some (.int .i64 n) := bx4.blk.cell 1
  have hlb4 := bx4.blk.lt
  clear t4 k4 bx4 q9 hb9
  go_wp2_with fail
  refine (rload_any y F _ n _ t9.r).mono ?_
  rintro e w5 ⟨rfl, hb5⟩
  have q5 : Side S S' _ S S' w5 := Side.new hb5
  have t5 := t9.new hb5
  rw [HZ.out, HBB.out]
  have b5 := b9.side q5
  have e0 : w5.cell? ⟨w4.heap.size, 0, none⟩ = some (.int .i64 z.k) := b5.blk.cell 0
  have e1 : w5.cell? ⟨w4.heap.size, 1, none⟩ = some (.int .i64 z.n) := b5.blk.cell 1
  have e2 : w5.cell? ⟨w4.heap.size, 2, none⟩ = some (.string z.s) := b5.blk.cell 2
  have hl5 := b5.blk.lt
  have k5 := k9.trans q5
  have hs : V.same ⟨z.k, z.n, z.s⟩ ⟨z.k, z.n, z.s⟩ = true := by simp [V.same]
  have hbel : Below w5.heap.size w5 (w5.alloc (.cells #[.int .i64 z.k, .int .i64 z.n, .string z.s] 44)) := (by repeat (first | exact Below.refl _ _ | assumption | refine Below.setCell ?_ (by first | (simp; done) | (simp; omega) | omega) _ | refine below_drewN ?_ _ | refine Below.drew ?_ | refine Below.alloc ?_ (by first | (simp; done) | (simp; omega) | omega) _))
  have HBEL := Lib.hid hbel
  clear t9 k9 q5 b5 b9 hbel hb5
  go_wp2
  go_ret
  exact ⟨rfl, _, _, t5.new HBEL.out, k5.trans (Side.new HBEL.out)⟩

set_option maxRecDepth 100000 in
set_option maxHeartbeats 2000000 in
theorem both_5 (w0 w : World) (S S' : Nat → Prop) (g y : Nat) (F : Fr) (d n : Int) (A : Option Addr) (m c : Nat) (xs : List V) (hT : Two w0 w S S' g y F F) (hA : RdV w A m c xs) (hd : d.tmod 11 % 11 = 5) (hfv : F.values.length ≤ 900000) (hfb : F.blocks.length ≤ 900000) (hfl : F.locals.length + F.cells.length ≤ 1000) (hn64 : -9223372036854775808 ≤ n ∧ n ≤ 9223372036854775807):
    Calls Try.prog 33 #[.pointer (some ⟨g, 0, none⟩), .pointer (some ⟨y, 0, none⟩), .agg #[.int .i64 d, .int .i64 n, .slice A m c]] w fun e w' => e = .returned (.bool true) ∧ Next w0 w S S' g y (F.stored n ((cutRow xs).head?.getD V.zero)) (F.stored n ((cutRow xs).head?.getD V.zero)) w' := by
  have hd1 : -11 < d.tmod 11 := by have := Int.lt_tmod_of_pos d (show (0 : Int) < 11 by omega); omega
  have hd2 : d.tmod 11 < 11 := Int.tmod_lt_of_pos d (by omega)
  have bx : Bes (w.alloc (.cells #[.int .i64 d, .int .i64 n, .slice A m c] 76)) S S' w.heap.size 76 #[.int .i64 d, .int .i64 n, .slice A m c] := Bes.of hT rfl
  have hb0 : Below w.heap.size w (w.alloc (.cells #[.int .i64 d, .int .i64 n, .slice A m c] 76)) := (by repeat (first | exact Below.refl _ _ | assumption | refine Below.setCell ?_ (by first | (simp; done) | (simp; omega) | omega) _ | refine below_drewN ?_ _ | refine Below.drew ?_ | refine Below.alloc ?_ (by first | (simp; done) | (simp; omega) | omega) _))
  have k0 : Side S S' w S S' (w.alloc (.cells #[.int .i64 d, .int .i64 n, .slice A m c] 76)) := Side.new hb0
  have t0 := hT.new hb0
  have ha0 := hA.new hb0
  have hcl := cutRow_length xs
  have t_0 : (d.tmod 11 % 11 == 0) = false := by rw [hd]; rfl
  have t_1 : (d.tmod 11 % 11 == 1) = false := by rw [hd]; rfl
  have t_2 : (d.tmod 11 % 11 == 2) = false := by rw [hd]; rfl
  have t_3 : (d.tmod 11 % 11 == 3) = false := by rw [hd]; rfl
  have t_4 : (d.tmod 11 % 11 == 4) = false := by rw [hd]; rfl
  have t_5 : (d.tmod 11 % 11 == 5) = true := by rw [hd]; rfl
  have HCL := Lib.hid hcl
  clear hT hA hb0 hd hcl
  go_enter Try.func33, Try.ntmps33
  go_wp2_with fail
  refine (row_any A m c xs _ ha0).mono ?_
  rintro e w1 ⟨v, rfl, hv, hvn, hb1⟩
  obtain ⟨A1, c1, rfl, r1⟩ := RowB.of_own (S := S) (S' := S') hv (fun b e => ⟨fun hs => by have := hvn b e; have := t0.lt hs; omega, fun hs => by have := hvn b e; have := t0.lt' hs; omega⟩)
  have q1 : Side S S' _ S S' w1 := Side.new hb1
  have t1 := t0.new hb1
  have k1 := k0.trans q1
  have bx1 := bx.side q1
  clear t0 k0 q1 bx hv hvn hb1 ha0
  go_wp2_with fail
  refine (first_any A1 _ c1 (cutRow xs) w1 r1.rd).mono ?_
  rintro e w2 ⟨rfl, hb2⟩
  generalize hx : (cutRow xs).head?.getD V.zero = x
  have HX := Lib.hid hx
  clear hx
  have q2 : Side S S' w1 S S' w2 := Side.new hb2
  have t2 := t1.new hb2
  have k2 := k1.trans q2
  have bx2 := bx1.side q2
  have r2 := r1.side q2
  have vx : Bes (w2.alloc (.cells #[.int .i64 x.k, .int .i64 x.n, .string x.s] 44)) S S' w2.heap.size 44 #[.int .i64 x.k, .int .i64 x.n, .string x.s] := Bes.of t2 rfl
  have hb3 : Below w2.heap.size w2 (w2.alloc (.cells #[.int .i64 x.k, .int .i64 x.n, .string x.s] 44)) := (by repeat (first | exact Below.refl _ _ | assumption | refine Below.setCell ?_ (by first | (simp; done) | (simp; omega) | omega) _ | refine below_drewN ?_ _ | refine Below.drew ?_ | refine Below.alloc ?_ (by first | (simp; done) | (simp; omega) | omega) _))
  have q3 : Side S S' w2 S S' (w2.alloc (.cells #[.int .i64 x.k, .int .i64 x.n, .string x.s] 44)) := Side.new hb3
  have t3 := t2.new hb3
  have k3 := k2.trans q3
  have bx3 := bx2.side q3
  have r3 := r2.side q3
  have hlb := bx3.blk.lt
  have d0 : w2.cell? ⟨w.heap.size, 0, none⟩ = some (.int .i64 d) := bx2.blk.cell 0
  have d1 : w2.cell? ⟨w.heap.size, 1, none⟩ = some (.int .i64 n) := bx2.blk.cell 1
  have hlb2 := bx2.blk.lt
  have x0 : (w2.alloc (.cells #[.int .i64 x.k, .int .i64 x.n, .string x.s] 44)).cell? ⟨w2.heap.size, 0, none⟩ = some (.int .i64 x.k) := vx.blk.cell 0
  have x1 : (w2.alloc (.cells #[.int .i64 x.k, .int .i64 x.n, .string x.s] 44)).cell? ⟨w2.heap.size, 1, none⟩ = some (.int .i64 x.n) := vx.blk.cell 1
  have x2 : (w2.alloc (.cells #[.int .i64 x.k, .int .i64 x.n, .string x.s] 44)).cell? ⟨w2.heap.size, 2, none⟩ = some (.string x.s) := vx.blk.cell 2
  have X0 := Lib.hid x0
  have X1 := Lib.hid x1
  have X2 := Lib.hid x2
  clear t1 t2 k1 k2 bx1 bx2 r1 r2 q2 q3 hb2 hb3 x0 x1 x2
  go_wp2_with fail
  obtain ⟨b, hok⟩ : ∃ b, F.has n = b := ⟨_, rfl⟩
  have HOK := Lib.hid hok
  clear hok
  have hbd : Below (w2.alloc (.cells #[.int .i64 x.k, .int .i64 x.n, .string x.s] 44)).heap.size (w2.alloc (.cells #[.int .i64 x.k, .int .i64 x.n, .string x.s] 44)) (w2.alloc (.cells #[.int .i64 x.k, .int .i64 x.n, .string x.s] 44)).drew := (by repeat (first | exact Below.refl _ _ | assumption | refine Below.setCell ?_ (by first | (simp; done) | (simp; omega) | omega) _ | refine below_drewN ?_ _ | refine Below.drew ?_ | refine Below.alloc ?_ (by first | (simp; done) | (simp; omega) | omega) _))
  have qD : Side S S' (w2.alloc (.cells #[.int .i64 x.k, .int .i64 x.n, .string x.s] 44)) S S' (w2.alloc (.cells #[.int .i64 x.k, .int .i64 x.n, .string x.s] 44)).drew := Side.new hbd
  have tD := t3.new hbd
  have bD := bx3.side qD
  have vD := vx.side qD
  have kD := k3.trans qD
  have SD := Lib.hid (show (w2.alloc (.cells #[.int .i64 x.k, .int .i64 x.n, .string x.s] 44)).drew.cell? ⟨w.heap.size, 1, none⟩ = some (.int .i64 n) ∧ (w2.alloc (.cells #[.int .i64 x.k, .int .i64 x.n, .string x.s] 44)).drew.cell? ⟨w2.heap.size, 0, none⟩ = some (.int .i64 x.k) ∧ (w2.alloc (.cells #[.int .i64 x.k, .int .i64 x.n, .string x.s] 44)).drew.cell? ⟨w2.heap.size, 1, none⟩ = some (.int .i64 x.n) ∧ (w2.alloc (.cells #[.int .i64 x.k, .int .i64 x.n, .string x.s] 44)).drew.cell? ⟨w2.heap.size, 2, none⟩ = some (.string x.s) from ⟨bD.blk.cell 1, vD.blk.cell 0, vD.blk.cell 1, vD.blk.cell 2⟩)
  have hn1 : w.heap.size ≠ w2.heap.size := by omega
  clear t3 bx3 vx k3 qD hbd r3
  rw [show (d.tmod 11 + 11) % 11 = d.tmod 11 % 11 from by omega]
  go_cut [6] (fun r wx => r = .bool true ∧ Next w0 w S S' g y (F.stored n x) (F.stored n x) wx)
  case first =>
    go_region_held3 (fun w' => w'.cell? ⟨w.heap.size, 1, none⟩ = some (.int .i64 n) ∧ w'.cell? ⟨w2.heap.size, 0, none⟩ = some (.int .i64 x.k) ∧ w'.cell? ⟨w2.heap.size, 1, none⟩ = some (.int .i64 x.n) ∧ w'.cell? ⟨w2.heap.size, 2, none⟩ = some (.string x.s))
      (first | exact SB.out | exact SA.out | exact SD.out | exact ⟨d1, X0.out, X1.out, X2.out⟩ | go_keep)
      (first
      | (go_at_call 47; refine (rstore_any y F _ n x _ tA.r).mono ?_; rintro e w5 ⟨rfl, hF5, hm5⟩; rw [HOK.out]; have NB := tA.nextR hF5 hm5; have SB := Lib.hid (show w5.cell? ⟨w.heap.size, 1, none⟩ = some (.int .i64 n) ∧ w5.cell? ⟨w2.heap.size, 0, none⟩ = some (.int .i64 x.k) ∧ w5.cell? ⟨w2.heap.size, 1, none⟩ = some (.int .i64 x.n) ∧ w5.cell? ⟨w2.heap.size, 2, none⟩ = some (.string x.s) from by obtain ⟨U, U', tq, qq⟩ := NB; have b1 := bA.side qq; have b2 := vA.side qq; exact ⟨b1.blk.cell 1, b2.blk.cell 0, b2.blk.cell 1, b2.blk.cell 2⟩); clear hF5 hm5)
      | (go_at_call 31; refine (store_any g F _ n x _ tR.f).mono ?_; rintro e w5 ⟨rfl, hF5, hm5⟩; rw [HOK.out]; have NB := tR.nextF hF5 hm5; have SB := Lib.hid (show w5.cell? ⟨w.heap.size, 1, none⟩ = some (.int .i64 n) ∧ w5.cell? ⟨w2.heap.size, 0, none⟩ = some (.int .i64 x.k) ∧ w5.cell? ⟨w2.heap.size, 1, none⟩ = some (.int .i64 x.n) ∧ w5.cell? ⟨w2.heap.size, 2, none⟩ = some (.string x.s) from by obtain ⟨U, U', tq, qq⟩ := NB; have b1 := bR.side qq; have b2 := vR.side qq; exact ⟨b1.blk.cell 1, b2.blk.cell 0, b2.blk.cell 1, b2.blk.cell 2⟩); clear hF5 hm5)
      | (go_at_call 31; refine (store_any g F _ n x _ tD.f).mono ?_; rintro e w4 ⟨rfl, hF4, hm4⟩; rw [HOK.out]; obtain ⟨T, T', tA, qA⟩ := tD.nextF hF4 hm4; have bA := bD.side qA; have vA := vD.side qA; have SA := Lib.hid (show w4.cell? ⟨w.heap.size, 1, none⟩ = some (.int .i64 n) ∧ w4.cell? ⟨w2.heap.size, 0, none⟩ = some (.int .i64 x.k) ∧ w4.cell? ⟨w2.heap.size, 1, none⟩ = some (.int .i64 x.n) ∧ w4.cell? ⟨w2.heap.size, 2, none⟩ = some (.string x.s) from ⟨bA.blk.cell 1, vA.blk.cell 0, vA.blk.cell 1, vA.blk.cell 2⟩); clear hF4 hm4)
      | (go_at_call 47; refine (rstore_any y F _ n x _ tD.r).mono ?_; rintro e w4 ⟨rfl, hF4, hm4⟩; rw [HOK.out]; obtain ⟨T, T', tR, qA⟩ := tD.nextR hF4 hm4; have bR := bD.side qA; have vR := vD.side qA; have SA := Lib.hid (show w4.cell? ⟨w.heap.size, 1, none⟩ = some (.int .i64 n) ∧ w4.cell? ⟨w2.heap.size, 0, none⟩ = some (.int .i64 x.k) ∧ w4.cell? ⟨w2.heap.size, 1, none⟩ = some (.int .i64 x.n) ∧ w4.cell? ⟨w2.heap.size, 2, none⟩ = some (.string x.s) from ⟨bR.blk.cell 1, vR.blk.cell 0, vR.blk.cell 1, vR.blk.cell 2⟩); clear hF4 hm4))
    all_goals
      go_wp2_with fail
      go_meet
      obtain ⟨U, U', tq, qq⟩ := NB
      exact ⟨by first | rfl | simp, U, U', tq, (kD.trans qA).trans qq⟩
  case rest =>
    obtain ⟨rfl, hcut⟩ := hcut
    go_wp2
    go_ret
    exact ⟨rfl, by first | exact hcut | (rw [HX.out]; exact hcut)⟩

set_option maxRecDepth 100000 in
set_option maxHeartbeats 2000000 in
theorem both_6 (w0 w : World) (S S' : Nat → Prop) (g y : Nat) (F : Fr) (d n : Int) (A : Option Addr) (m c : Nat) (xs : List V) (hT : Two w0 w S S' g y F F) (hA : RdV w A m c xs) (hd : d.tmod 11 % 11 = 6) (hfv : F.values.length ≤ 900000) (hfb : F.blocks.length ≤ 900000) (hfl : F.locals.length + F.cells.length ≤ 1000) (hn64 : -9223372036854775808 ≤ n ∧ n ≤ 9223372036854775807):
    Calls Try.prog 33 #[.pointer (some ⟨g, 0, none⟩), .pointer (some ⟨y, 0, none⟩), .agg #[.int .i64 d, .int .i64 n, .slice A m c]] w fun e w' => e = .returned (.bool true) ∧ Next w0 w S S' g y (F.cleared n) (F.cleared n) w' := by
  have hd1 : -11 < d.tmod 11 := by have := Int.lt_tmod_of_pos d (show (0 : Int) < 11 by omega); omega
  have hd2 : d.tmod 11 < 11 := Int.tmod_lt_of_pos d (by omega)
  have bx : Bes (w.alloc (.cells #[.int .i64 d, .int .i64 n, .slice A m c] 76)) S S' w.heap.size 76 #[.int .i64 d, .int .i64 n, .slice A m c] := Bes.of hT rfl
  have hb0 : Below w.heap.size w (w.alloc (.cells #[.int .i64 d, .int .i64 n, .slice A m c] 76)) := (by repeat (first | exact Below.refl _ _ | assumption | refine Below.setCell ?_ (by first | (simp; done) | (simp; omega) | omega) _ | refine below_drewN ?_ _ | refine Below.drew ?_ | refine Below.alloc ?_ (by first | (simp; done) | (simp; omega) | omega) _))
  have k0 : Side S S' w S S' (w.alloc (.cells #[.int .i64 d, .int .i64 n, .slice A m c] 76)) := Side.new hb0
  have t0 := hT.new hb0
  have ha0 := hA.new hb0
  have hcl := cutRow_length xs
  have t_0 : (d.tmod 11 % 11 == 0) = false := by rw [hd]; rfl
  have t_1 : (d.tmod 11 % 11 == 1) = false := by rw [hd]; rfl
  have t_2 : (d.tmod 11 % 11 == 2) = false := by rw [hd]; rfl
  have t_3 : (d.tmod 11 % 11 == 3) = false := by rw [hd]; rfl
  have t_4 : (d.tmod 11 % 11 == 4) = false := by rw [hd]; rfl
  have t_5 : (d.tmod 11 % 11 == 5) = false := by rw [hd]; rfl
  have t_6 : (d.tmod 11 % 11 == 6) = true := by rw [hd]; rfl
  have HCL := Lib.hid hcl
  clear hT hA hb0 hd hcl
  go_enter Try.func33, Try.ntmps33
  go_wp2_with fail
  refine (row_any A m c xs _ ha0).mono ?_
  rintro e w1 ⟨v, rfl, hv, hvn, hb1⟩
  obtain ⟨A1, c1, rfl, r1⟩ := RowB.of_own (S := S) (S' := S') hv (fun b e => ⟨fun hs => by have := hvn b e; have := t0.lt hs; omega, fun hs => by have := hvn b e; have := t0.lt' hs; omega⟩)
  have q1 : Side S S' _ S S' w1 := Side.new hb1
  have t1 := t0.new hb1
  have k1 := k0.trans q1
  have bx1 := bx.side q1
  clear t0 k0 q1 bx hv hvn hb1 ha0
  go_wp2_with fail
  refine (first_any A1 _ c1 (cutRow xs) w1 r1.rd).mono ?_
  rintro e w2 ⟨rfl, hb2⟩
  generalize (cutRow xs).head?.getD V.zero = x
  have q2 : Side S S' w1 S S' w2 := Side.new hb2
  have t2 := t1.new hb2
  have k2 := k1.trans q2
  have bx2 := bx1.side q2
  have r2 := r1.side q2
  have vx : Bes (w2.alloc (.cells #[.int .i64 x.k, .int .i64 x.n, .string x.s] 44)) S S' w2.heap.size 44 #[.int .i64 x.k, .int .i64 x.n, .string x.s] := Bes.of t2 rfl
  have hb3 : Below w2.heap.size w2 (w2.alloc (.cells #[.int .i64 x.k, .int .i64 x.n, .string x.s] 44)) := (by repeat (first | exact Below.refl _ _ | assumption | refine Below.setCell ?_ (by first | (simp; done) | (simp; omega) | omega) _ | refine below_drewN ?_ _ | refine Below.drew ?_ | refine Below.alloc ?_ (by first | (simp; done) | (simp; omega) | omega) _))
  have q3 : Side S S' w2 S S' (w2.alloc (.cells #[.int .i64 x.k, .int .i64 x.n, .string x.s] 44)) := Side.new hb3
  have t3 := t2.new hb3
  have k3 := k2.trans q3
  have bx3 := bx2.side q3
  have r3 := r2.side q3
  have hlb := bx3.blk.lt
  have d0 : w2.cell? ⟨w.heap.size, 0, none⟩ = some (.int .i64 d) := bx2.blk.cell 0
  have d1 : w2.cell? ⟨w.heap.size, 1, none⟩ = some (.int .i64 n) := bx2.blk.cell 1
  have hlb2 := bx2.blk.lt
  have x0 : (w2.alloc (.cells #[.int .i64 x.k, .int .i64 x.n, .string x.s] 44)).cell? ⟨w2.heap.size, 0, none⟩ = some (.int .i64 x.k) := vx.blk.cell 0
  have x1 : (w2.alloc (.cells #[.int .i64 x.k, .int .i64 x.n, .string x.s] 44)).cell? ⟨w2.heap.size, 1, none⟩ = some (.int .i64 x.n) := vx.blk.cell 1
  have x2 : (w2.alloc (.cells #[.int .i64 x.k, .int .i64 x.n, .string x.s] 44)).cell? ⟨w2.heap.size, 2, none⟩ = some (.string x.s) := vx.blk.cell 2
  have X0 := Lib.hid x0
  have X1 := Lib.hid x1
  have X2 := Lib.hid x2
  clear t1 t2 k1 k2 bx1 bx2 r1 r2 q2 q3 hb2 hb3 x0 x1 x2
  go_wp2_with fail
  obtain ⟨b, hok⟩ : ∃ b, F.isBound n = b := ⟨_, rfl⟩
  have HOK := Lib.hid hok
  clear hok
  have hbd : Below (w2.alloc (.cells #[.int .i64 x.k, .int .i64 x.n, .string x.s] 44)).heap.size (w2.alloc (.cells #[.int .i64 x.k, .int .i64 x.n, .string x.s] 44)) (w2.alloc (.cells #[.int .i64 x.k, .int .i64 x.n, .string x.s] 44)).drew := (by repeat (first | exact Below.refl _ _ | assumption | refine Below.setCell ?_ (by first | (simp; done) | (simp; omega) | omega) _ | refine below_drewN ?_ _ | refine Below.drew ?_ | refine Below.alloc ?_ (by first | (simp; done) | (simp; omega) | omega) _))
  have qD : Side S S' (w2.alloc (.cells #[.int .i64 x.k, .int .i64 x.n, .string x.s] 44)) S S' (w2.alloc (.cells #[.int .i64 x.k, .int .i64 x.n, .string x.s] 44)).drew := Side.new hbd
  have tD := t3.new hbd
  have bD := bx3.side qD
  have vD := vx.side qD
  have kD := k3.trans qD
  have SD := Lib.hid (show (w2.alloc (.cells #[.int .i64 x.k, .int .i64 x.n, .string x.s] 44)).drew.cell? ⟨w.heap.size, 1, none⟩ = some (.int .i64 n) from bD.blk.cell 1)
  have hn1 : w.heap.size ≠ w2.heap.size := by omega
  clear t3 bx3 vx k3 qD hbd r3
  rw [show (d.tmod 11 + 11) % 11 = d.tmod 11 % 11 from by omega]
  go_cut [6] (fun r wx => r = .bool true ∧ Next w0 w S S' g y (F.cleared n) (F.cleared n) wx)
  case first =>
    go_region_held3 (fun w' => w'.cell? ⟨w.heap.size, 1, none⟩ = some (.int .i64 n))
      (first | exact SB.out | exact SA.out | exact SD.out | exact d1 | go_keep)
      (first
      | (go_at_call 48; refine (rclear_any y F _ n _ tA.r).mono ?_; rintro e w5 ⟨rfl, hF5, hm5⟩; rw [HOK.out]; have NB := tA.nextR hF5 hm5; have SB := Lib.hid (show w5.cell? ⟨w.heap.size, 1, none⟩ = some (.int .i64 n) from by obtain ⟨U, U', tq, qq⟩ := NB; have b1 := bA.side qq; have b2 := vA.side qq; exact b1.blk.cell 1); clear hF5 hm5)
      | (go_at_call 32; refine (clear_any g F _ n _ tR.f).mono ?_; rintro e w5 ⟨rfl, hF5, hm5⟩; rw [HOK.out]; have NB := tR.nextF hF5 hm5; have SB := Lib.hid (show w5.cell? ⟨w.heap.size, 1, none⟩ = some (.int .i64 n) from by obtain ⟨U, U', tq, qq⟩ := NB; have b1 := bR.side qq; have b2 := vR.side qq; exact b1.blk.cell 1); clear hF5 hm5)
      | (go_at_call 32; refine (clear_any g F _ n _ tD.f).mono ?_; rintro e w4 ⟨rfl, hF4, hm4⟩; rw [HOK.out]; obtain ⟨T, T', tA, qA⟩ := tD.nextF hF4 hm4; have bA := bD.side qA; have vA := vD.side qA; have SA := Lib.hid (show w4.cell? ⟨w.heap.size, 1, none⟩ = some (.int .i64 n) from bA.blk.cell 1); clear hF4 hm4)
      | (go_at_call 48; refine (rclear_any y F _ n _ tD.r).mono ?_; rintro e w4 ⟨rfl, hF4, hm4⟩; rw [HOK.out]; obtain ⟨T, T', tR, qA⟩ := tD.nextR hF4 hm4; have bR := bD.side qA; have vR := vD.side qA; have SA := Lib.hid (show w4.cell? ⟨w.heap.size, 1, none⟩ = some (.int .i64 n) from bR.blk.cell 1); clear hF4 hm4))
    all_goals
      go_wp2_with fail
      go_meet
      obtain ⟨U, U', tq, qq⟩ := NB
      exact ⟨by first | rfl | simp, U, U', tq, (kD.trans qA).trans qq⟩
  case rest =>
    obtain ⟨rfl, hcut⟩ := hcut
    go_wp2
    go_ret
    exact ⟨rfl, by first | exact hcut | (rw [HX.out]; exact hcut)⟩

set_option maxRecDepth 100000 in
set_option maxHeartbeats 2000000 in
theorem both_7 (w0 w : World) (S S' : Nat → Prop) (g y : Nat) (F : Fr) (d n : Int) (A : Option Addr) (m c : Nat) (xs : List V) (hT : Two w0 w S S' g y F F) (hA : RdV w A m c xs) (hd : d.tmod 11 % 11 = 7) (hfv : F.values.length ≤ 900000) (hfb : F.blocks.length ≤ 900000) (hfl : F.locals.length + F.cells.length ≤ 1000) (hn64 : -9223372036854775808 ≤ n ∧ n ≤ 9223372036854775807):
    Calls Try.prog 33 #[.pointer (some ⟨g, 0, none⟩), .pointer (some ⟨y, 0, none⟩), .agg #[.int .i64 d, .int .i64 n, .slice A m c]] w fun e w' => e = .returned (.bool true) ∧ Next w0 w S S' g y ({ F with blocks := F.blocks ++ [(n, (F.values.length : Int))] }) ({ F with blocks := F.blocks ++ [(n, (F.values.length : Int))] }) w' := by
  have hd1 : -11 < d.tmod 11 := by have := Int.lt_tmod_of_pos d (show (0 : Int) < 11 by omega); omega
  have hd2 : d.tmod 11 < 11 := Int.tmod_lt_of_pos d (by omega)
  have bx : Bes (w.alloc (.cells #[.int .i64 d, .int .i64 n, .slice A m c] 76)) S S' w.heap.size 76 #[.int .i64 d, .int .i64 n, .slice A m c] := Bes.of hT rfl
  have hb0 : Below w.heap.size w (w.alloc (.cells #[.int .i64 d, .int .i64 n, .slice A m c] 76)) := (by repeat (first | exact Below.refl _ _ | assumption | refine Below.setCell ?_ (by first | (simp; done) | (simp; omega) | omega) _ | refine below_drewN ?_ _ | refine Below.drew ?_ | refine Below.alloc ?_ (by first | (simp; done) | (simp; omega) | omega) _))
  have k0 : Side S S' w S S' (w.alloc (.cells #[.int .i64 d, .int .i64 n, .slice A m c] 76)) := Side.new hb0
  have t0 := hT.new hb0
  have ha0 := hA.new hb0
  have hcl := cutRow_length xs
  have t_0 : (d.tmod 11 % 11 == 0) = false := by rw [hd]; rfl
  have t_1 : (d.tmod 11 % 11 == 1) = false := by rw [hd]; rfl
  have t_2 : (d.tmod 11 % 11 == 2) = false := by rw [hd]; rfl
  have t_3 : (d.tmod 11 % 11 == 3) = false := by rw [hd]; rfl
  have t_4 : (d.tmod 11 % 11 == 4) = false := by rw [hd]; rfl
  have t_5 : (d.tmod 11 % 11 == 5) = false := by rw [hd]; rfl
  have t_6 : (d.tmod 11 % 11 == 6) = false := by rw [hd]; rfl
  have t_7 : (d.tmod 11 % 11 == 7) = true := by rw [hd]; rfl
  have HCL := Lib.hid hcl
  clear hT hA hb0 hd hcl
  go_enter Try.func33, Try.ntmps33
  go_wp2_with fail
  refine (row_any A m c xs _ ha0).mono ?_
  rintro e w1 ⟨v, rfl, hv, hvn, hb1⟩
  obtain ⟨A1, c1, rfl, r1⟩ := RowB.of_own (S := S) (S' := S') hv (fun b e => ⟨fun hs => by have := hvn b e; have := t0.lt hs; omega, fun hs => by have := hvn b e; have := t0.lt' hs; omega⟩)
  have q1 : Side S S' _ S S' w1 := Side.new hb1
  have t1 := t0.new hb1
  have k1 := k0.trans q1
  have bx1 := bx.side q1
  clear t0 k0 q1 bx hv hvn hb1 ha0
  go_wp2_with fail
  refine (first_any A1 _ c1 (cutRow xs) w1 r1.rd).mono ?_
  rintro e w2 ⟨rfl, hb2⟩
  generalize (cutRow xs).head?.getD V.zero = x
  have q2 : Side S S' w1 S S' w2 := Side.new hb2
  have t2 := t1.new hb2
  have k2 := k1.trans q2
  have bx2 := bx1.side q2
  have r2 := r1.side q2
  have vx : Bes (w2.alloc (.cells #[.int .i64 x.k, .int .i64 x.n, .string x.s] 44)) S S' w2.heap.size 44 #[.int .i64 x.k, .int .i64 x.n, .string x.s] := Bes.of t2 rfl
  have hb3 : Below w2.heap.size w2 (w2.alloc (.cells #[.int .i64 x.k, .int .i64 x.n, .string x.s] 44)) := (by repeat (first | exact Below.refl _ _ | assumption | refine Below.setCell ?_ (by first | (simp; done) | (simp; omega) | omega) _ | refine below_drewN ?_ _ | refine Below.drew ?_ | refine Below.alloc ?_ (by first | (simp; done) | (simp; omega) | omega) _))
  have q3 : Side S S' w2 S S' (w2.alloc (.cells #[.int .i64 x.k, .int .i64 x.n, .string x.s] 44)) := Side.new hb3
  have t3 := t2.new hb3
  have k3 := k2.trans q3
  have bx3 := bx2.side q3
  have r3 := r2.side q3
  have hlb := bx3.blk.lt
  have d0 : w2.cell? ⟨w.heap.size, 0, none⟩ = some (.int .i64 d) := bx2.blk.cell 0
  have d1 : w2.cell? ⟨w.heap.size, 1, none⟩ = some (.int .i64 n) := bx2.blk.cell 1
  have hlb2 := bx2.blk.lt
  have x0 : (w2.alloc (.cells #[.int .i64 x.k, .int .i64 x.n, .string x.s] 44)).cell? ⟨w2.heap.size, 0, none⟩ = some (.int .i64 x.k) := vx.blk.cell 0
  have x1 : (w2.alloc (.cells #[.int .i64 x.k, .int .i64 x.n, .string x.s] 44)).cell? ⟨w2.heap.size, 1, none⟩ = some (.int .i64 x.n) := vx.blk.cell 1
  have x2 : (w2.alloc (.cells #[.int .i64 x.k, .int .i64 x.n, .string x.s] 44)).cell? ⟨w2.heap.size, 2, none⟩ = some (.string x.s) := vx.blk.cell 2
  have X0 := Lib.hid x0
  have X1 := Lib.hid x1
  have X2 := Lib.hid x2
  clear t1 t2 k1 k2 bx1 bx2 r1 r2 q2 q3 hb2 hb3 x0 x1 x2
  go_wp2_with fail
  refine (enter_any g F S n _ t3.f (by omega)).mono ?_
  rintro e w4 ⟨rfl, hF4, hm4⟩
  obtain ⟨T, T', t4, q4⟩ := t3.nextF hF4 hm4
  have k4 := k3.trans q4
  have bx4 := bx3.side q4
  have d1 : w4.cell? ⟨w.heap.size, 1, none⟩ = some (.int .i64 n) := bx4.blk.cell 1
  clear t3 k3 bx3 q4 r3 vx hF4 hm4 bx4
  go_wp2_with fail
  refine (renter_any y F T' n _ t4.r (by omega)).mono ?_
  rintro e w5 ⟨rfl, hF5, hm5⟩
  obtain ⟨U, U', t5, q5⟩ := t4.nextR hF5 hm5
  clear t4 hF5 hm5
  go_wp2
  go_ret
  exact ⟨rfl, _, _, t5, k4.trans q5⟩

set_option maxRecDepth 100000 in
set_option maxHeartbeats 2000000 in
theorem both_8 (w0 w : World) (S S' : Nat → Prop) (g y : Nat) (F : Fr) (d n : Int) (A : Option Addr) (m c : Nat) (xs : List V) (hT : Two w0 w S S' g y F F) (hA : RdV w A m c xs) (hd : d.tmod 11 % 11 = 8) (hfv : F.values.length ≤ 900000) (hfb : F.blocks.length ≤ 900000) (hfl : F.locals.length + F.cells.length ≤ 1000) (hn64 : -9223372036854775808 ≤ n ∧ n ≤ 9223372036854775807):
    Calls Try.prog 33 #[.pointer (some ⟨g, 0, none⟩), .pointer (some ⟨y, 0, none⟩), .agg #[.int .i64 d, .int .i64 n, .slice A m c]] w fun e w' => e = .returned (.bool true) ∧ Next w0 w S S' g y ({ F with blocks := F.blocks.dropLast }) ({ F with blocks := F.blocks.dropLast }) w' := by
  have hd1 : -11 < d.tmod 11 := by have := Int.lt_tmod_of_pos d (show (0 : Int) < 11 by omega); omega
  have hd2 : d.tmod 11 < 11 := Int.tmod_lt_of_pos d (by omega)
  have bx : Bes (w.alloc (.cells #[.int .i64 d, .int .i64 n, .slice A m c] 76)) S S' w.heap.size 76 #[.int .i64 d, .int .i64 n, .slice A m c] := Bes.of hT rfl
  have hb0 : Below w.heap.size w (w.alloc (.cells #[.int .i64 d, .int .i64 n, .slice A m c] 76)) := (by repeat (first | exact Below.refl _ _ | assumption | refine Below.setCell ?_ (by first | (simp; done) | (simp; omega) | omega) _ | refine below_drewN ?_ _ | refine Below.drew ?_ | refine Below.alloc ?_ (by first | (simp; done) | (simp; omega) | omega) _))
  have k0 : Side S S' w S S' (w.alloc (.cells #[.int .i64 d, .int .i64 n, .slice A m c] 76)) := Side.new hb0
  have t0 := hT.new hb0
  have ha0 := hA.new hb0
  have hcl := cutRow_length xs
  have t_0 : (d.tmod 11 % 11 == 0) = false := by rw [hd]; rfl
  have t_1 : (d.tmod 11 % 11 == 1) = false := by rw [hd]; rfl
  have t_2 : (d.tmod 11 % 11 == 2) = false := by rw [hd]; rfl
  have t_3 : (d.tmod 11 % 11 == 3) = false := by rw [hd]; rfl
  have t_4 : (d.tmod 11 % 11 == 4) = false := by rw [hd]; rfl
  have t_5 : (d.tmod 11 % 11 == 5) = false := by rw [hd]; rfl
  have t_6 : (d.tmod 11 % 11 == 6) = false := by rw [hd]; rfl
  have t_7 : (d.tmod 11 % 11 == 7) = false := by rw [hd]; rfl
  have t_8 : (d.tmod 11 % 11 == 8) = true := by rw [hd]; rfl
  have HCL := Lib.hid hcl
  clear hT hA hb0 hd hcl
  go_enter Try.func33, Try.ntmps33
  go_wp2_with fail
  refine (row_any A m c xs _ ha0).mono ?_
  rintro e w1 ⟨v, rfl, hv, hvn, hb1⟩
  obtain ⟨A1, c1, rfl, r1⟩ := RowB.of_own (S := S) (S' := S') hv (fun b e => ⟨fun hs => by have := hvn b e; have := t0.lt hs; omega, fun hs => by have := hvn b e; have := t0.lt' hs; omega⟩)
  have q1 : Side S S' _ S S' w1 := Side.new hb1
  have t1 := t0.new hb1
  have k1 := k0.trans q1
  have bx1 := bx.side q1
  clear t0 k0 q1 bx hv hvn hb1 ha0
  go_wp2_with fail
  refine (first_any A1 _ c1 (cutRow xs) w1 r1.rd).mono ?_
  rintro e w2 ⟨rfl, hb2⟩
  generalize (cutRow xs).head?.getD V.zero = x
  have q2 : Side S S' w1 S S' w2 := Side.new hb2
  have t2 := t1.new hb2
  have k2 := k1.trans q2
  have bx2 := bx1.side q2
  have r2 := r1.side q2
  have vx : Bes (w2.alloc (.cells #[.int .i64 x.k, .int .i64 x.n, .string x.s] 44)) S S' w2.heap.size 44 #[.int .i64 x.k, .int .i64 x.n, .string x.s] := Bes.of t2 rfl
  have hb3 : Below w2.heap.size w2 (w2.alloc (.cells #[.int .i64 x.k, .int .i64 x.n, .string x.s] 44)) := (by repeat (first | exact Below.refl _ _ | assumption | refine Below.setCell ?_ (by first | (simp; done) | (simp; omega) | omega) _ | refine below_drewN ?_ _ | refine Below.drew ?_ | refine Below.alloc ?_ (by first | (simp; done) | (simp; omega) | omega) _))
  have q3 : Side S S' w2 S S' (w2.alloc (.cells #[.int .i64 x.k, .int .i64 x.n, .string x.s] 44)) := Side.new hb3
  have t3 := t2.new hb3
  have k3 := k2.trans q3
  have bx3 := bx2.side q3
  have r3 := r2.side q3
  have hlb := bx3.blk.lt
  have d0 : w2.cell? ⟨w.heap.size, 0, none⟩ = some (.int .i64 d) := bx2.blk.cell 0
  have d1 : w2.cell? ⟨w.heap.size, 1, none⟩ = some (.int .i64 n) := bx2.blk.cell 1
  have hlb2 := bx2.blk.lt
  have x0 : (w2.alloc (.cells #[.int .i64 x.k, .int .i64 x.n, .string x.s] 44)).cell? ⟨w2.heap.size, 0, none⟩ = some (.int .i64 x.k) := vx.blk.cell 0
  have x1 : (w2.alloc (.cells #[.int .i64 x.k, .int .i64 x.n, .string x.s] 44)).cell? ⟨w2.heap.size, 1, none⟩ = some (.int .i64 x.n) := vx.blk.cell 1
  have x2 : (w2.alloc (.cells #[.int .i64 x.k, .int .i64 x.n, .string x.s] 44)).cell? ⟨w2.heap.size, 2, none⟩ = some (.string x.s) := vx.blk.cell 2
  have X0 := Lib.hid x0
  have X1 := Lib.hid x1
  have X2 := Lib.hid x2
  clear t1 t2 k1 k2 bx1 bx2 r1 r2 q2 q3 hb2 hb3 x0 x1 x2
  go_wp2_with fail
  refine (leave_any g F S _ t3.f).mono ?_
  rintro e w4 ⟨rfl, hF4, hm4⟩
  obtain ⟨T, T', t4, q4⟩ := t3.nextF hF4 hm4
  have k4 := k3.trans q4
  clear t3 k3 bx3 q4 r3 vx hF4 hm4
  obtain ⟨b, hbb⟩ : ∃ b, (!F.blocks.isEmpty) = b := ⟨_, rfl⟩
  rw [hbb]
  have HBB := Lib.hid hbb
  clear hbb
  go_wp2_with fail
  refine (rleave_any y F T' _ t4.r (by omega)).mono ?_
  rintro e w5 ⟨rfl, hF5, hm5⟩
  rw [HBB.out]
  obtain ⟨U, U', t5, q5⟩ := t4.nextR hF5 hm5
  clear t4 hF5 hm5
  go_wp2
  go_ret
  exact ⟨rfl, _, _, t5, k4.trans q5⟩

set_option maxRecDepth 100000 in
set_option maxHeartbeats 2000000 in
theorem both_9 (w0 w : World) (S S' : Nat → Prop) (g y : Nat) (F : Fr) (d n : Int) (A : Option Addr) (m c : Nat) (xs : List V) (hT : Two w0 w S S' g y F F) (hA : RdV w A m c xs) (hd : d.tmod 11 % 11 = 9) (hfv : F.values.length ≤ 900000) (hfb : F.blocks.length ≤ 900000) (hfl : F.locals.length + F.cells.length ≤ 1000) (hn64 : -9223372036854775808 ≤ n ∧ n ≤ 9223372036854775807):
    Calls Try.prog 33 #[.pointer (some ⟨g, 0, none⟩), .pointer (some ⟨y, 0, none⟩), .agg #[.int .i64 d, .int .i64 n, .slice A m c]] w fun e w' => e = .returned (.bool true) ∧ Next w0 w S S' g y (F.handled ((cutRow xs).head?.getD V.zero)) (F.handled ((cutRow xs).head?.getD V.zero)) w' := by
  have hd1 : -11 < d.tmod 11 := by have := Int.lt_tmod_of_pos d (show (0 : Int) < 11 by omega); omega
  have hd2 : d.tmod 11 < 11 := Int.tmod_lt_of_pos d (by omega)
  have bx : Bes (w.alloc (.cells #[.int .i64 d, .int .i64 n, .slice A m c] 76)) S S' w.heap.size 76 #[.int .i64 d, .int .i64 n, .slice A m c] := Bes.of hT rfl
  have hb0 : Below w.heap.size w (w.alloc (.cells #[.int .i64 d, .int .i64 n, .slice A m c] 76)) := (by repeat (first | exact Below.refl _ _ | assumption | refine Below.setCell ?_ (by first | (simp; done) | (simp; omega) | omega) _ | refine below_drewN ?_ _ | refine Below.drew ?_ | refine Below.alloc ?_ (by first | (simp; done) | (simp; omega) | omega) _))
  have k0 : Side S S' w S S' (w.alloc (.cells #[.int .i64 d, .int .i64 n, .slice A m c] 76)) := Side.new hb0
  have t0 := hT.new hb0
  have ha0 := hA.new hb0
  have hcl := cutRow_length xs
  have t_0 : (d.tmod 11 % 11 == 0) = false := by rw [hd]; rfl
  have t_1 : (d.tmod 11 % 11 == 1) = false := by rw [hd]; rfl
  have t_2 : (d.tmod 11 % 11 == 2) = false := by rw [hd]; rfl
  have t_3 : (d.tmod 11 % 11 == 3) = false := by rw [hd]; rfl
  have t_4 : (d.tmod 11 % 11 == 4) = false := by rw [hd]; rfl
  have t_5 : (d.tmod 11 % 11 == 5) = false := by rw [hd]; rfl
  have t_6 : (d.tmod 11 % 11 == 6) = false := by rw [hd]; rfl
  have t_7 : (d.tmod 11 % 11 == 7) = false := by rw [hd]; rfl
  have t_8 : (d.tmod 11 % 11 == 8) = false := by rw [hd]; rfl
  have t_9 : (d.tmod 11 % 11 == 9) = true := by rw [hd]; rfl
  have HCL := Lib.hid hcl
  clear hT hA hb0 hd hcl
  go_enter Try.func33, Try.ntmps33
  go_wp2_with fail
  refine (row_any A m c xs _ ha0).mono ?_
  rintro e w1 ⟨v, rfl, hv, hvn, hb1⟩
  obtain ⟨A1, c1, rfl, r1⟩ := RowB.of_own (S := S) (S' := S') hv (fun b e => ⟨fun hs => by have := hvn b e; have := t0.lt hs; omega, fun hs => by have := hvn b e; have := t0.lt' hs; omega⟩)
  have q1 : Side S S' _ S S' w1 := Side.new hb1
  have t1 := t0.new hb1
  have k1 := k0.trans q1
  have bx1 := bx.side q1
  clear t0 k0 q1 bx hv hvn hb1 ha0
  go_wp2_with fail
  refine (first_any A1 _ c1 (cutRow xs) w1 r1.rd).mono ?_
  rintro e w2 ⟨rfl, hb2⟩
  generalize hx : (cutRow xs).head?.getD V.zero = x
  have HX := Lib.hid hx
  clear hx
  have q2 : Side S S' w1 S S' w2 := Side.new hb2
  have t2 := t1.new hb2
  have k2 := k1.trans q2
  have bx2 := bx1.side q2
  have r2 := r1.side q2
  have vx : Bes (w2.alloc (.cells #[.int .i64 x.k, .int .i64 x.n, .string x.s] 44)) S S' w2.heap.size 44 #[.int .i64 x.k, .int .i64 x.n, .string x.s] := Bes.of t2 rfl
  have hb3 : Below w2.heap.size w2 (w2.alloc (.cells #[.int .i64 x.k, .int .i64 x.n, .string x.s] 44)) := (by repeat (first | exact Below.refl _ _ | assumption | refine Below.setCell ?_ (by first | (simp; done) | (simp; omega) | omega) _ | refine below_drewN ?_ _ | refine Below.drew ?_ | refine Below.alloc ?_ (by first | (simp; done) | (simp; omega) | omega) _))
  have q3 : Side S S' w2 S S' (w2.alloc (.cells #[.int .i64 x.k, .int .i64 x.n, .string x.s] 44)) := Side.new hb3
  have t3 := t2.new hb3
  have k3 := k2.trans q3
  have bx3 := bx2.side q3
  have r3 := r2.side q3
  have hlb := bx3.blk.lt
  have d0 : w2.cell? ⟨w.heap.size, 0, none⟩ = some (.int .i64 d) := bx2.blk.cell 0
  have d1 : w2.cell? ⟨w.heap.size, 1, none⟩ = some (.int .i64 n) := bx2.blk.cell 1
  have hlb2 := bx2.blk.lt
  have x0 : (w2.alloc (.cells #[.int .i64 x.k, .int .i64 x.n, .string x.s] 44)).cell? ⟨w2.heap.size, 0, none⟩ = some (.int .i64 x.k) := vx.blk.cell 0
  have x1 : (w2.alloc (.cells #[.int .i64 x.k, .int .i64 x.n, .string x.s] 44)).cell? ⟨w2.heap.size, 1, none⟩ = some (.int .i64 x.n) := vx.blk.cell 1
  have x2 : (w2.alloc (.cells #[.int .i64 x.k, .int .i64 x.n, .string x.s] 44)).cell? ⟨w2.heap.size, 2, none⟩ = some (.string x.s) := vx.blk.cell 2
  have X0 := Lib.hid x0
  have X1 := Lib.hid x1
  have X2 := Lib.hid x2
  clear t1 t2 k1 k2 bx1 bx2 r1 r2 q2 q3 hb2 hb3 x0 x1 x2
  go_wp2_with fail
  obtain ⟨b, hok⟩ : ∃ b, F.catch?.isSome = b := ⟨_, rfl⟩
  have HOK := Lib.hid hok
  clear hok
  have hbd : Below (w2.alloc (.cells #[.int .i64 x.k, .int .i64 x.n, .string x.s] 44)).heap.size (w2.alloc (.cells #[.int .i64 x.k, .int .i64 x.n, .string x.s] 44)) (w2.alloc (.cells #[.int .i64 x.k, .int .i64 x.n, .string x.s] 44)).drew := (by repeat (first | exact Below.refl _ _ | assumption | refine Below.setCell ?_ (by first | (simp; done) | (simp; omega) | omega) _ | refine below_drewN ?_ _ | refine Below.drew ?_ | refine Below.alloc ?_ (by first | (simp; done) | (simp; omega) | omega) _))
  have qD : Side S S' (w2.alloc (.cells #[.int .i64 x.k, .int .i64 x.n, .string x.s] 44)) S S' (w2.alloc (.cells #[.int .i64 x.k, .int .i64 x.n, .string x.s] 44)).drew := Side.new hbd
  have tD := t3.new hbd
  have bD := bx3.side qD
  have vD := vx.side qD
  have kD := k3.trans qD
  have SD := Lib.hid (show (w2.alloc (.cells #[.int .i64 x.k, .int .i64 x.n, .string x.s] 44)).drew.cell? ⟨w2.heap.size, 0, none⟩ = some (.int .i64 x.k) ∧ (w2.alloc (.cells #[.int .i64 x.k, .int .i64 x.n, .string x.s] 44)).drew.cell? ⟨w2.heap.size, 1, none⟩ = some (.int .i64 x.n) ∧ (w2.alloc (.cells #[.int .i64 x.k, .int .i64 x.n, .string x.s] 44)).drew.cell? ⟨w2.heap.size, 2, none⟩ = some (.string x.s) from ⟨vD.blk.cell 0, vD.blk.cell 1, vD.blk.cell 2⟩)
  have hn1 : w.heap.size ≠ w2.heap.size := by omega
  clear t3 bx3 vx k3 qD hbd r3
  rw [show (d.tmod 11 + 11) % 11 = d.tmod 11 % 11 from by omega]
  go_cut [6] (fun r wx => r = .bool true ∧ Next w0 w S S' g y (F.handled x) (F.handled x) wx)
  case first =>
    go_region_held3 (fun w' => w'.cell? ⟨w2.heap.size, 0, none⟩ = some (.int .i64 x.k) ∧ w'.cell? ⟨w2.heap.size, 1, none⟩ = some (.int .i64 x.n) ∧ w'.cell? ⟨w2.heap.size, 2, none⟩ = some (.string x.s))
      (first | exact SB.out | exact SA.out | exact SD.out | exact ⟨X0.out, X1.out, X2.out⟩ | go_keep)
      (first
      | (go_at_call 51; refine (rhandle_any y F _ x _ tA.r (by omega) (by omega)).mono ?_; rintro e w5 ⟨rfl, hF5, hm5⟩; rw [HOK.out]; have NB := tA.nextR hF5 hm5; have SB := Lib.hid (show w5.cell? ⟨w2.heap.size, 0, none⟩ = some (.int .i64 x.k) ∧ w5.cell? ⟨w2.heap.size, 1, none⟩ = some (.int .i64 x.n) ∧ w5.cell? ⟨w2.heap.size, 2, none⟩ = some (.string x.s) from by obtain ⟨U, U', tq, qq⟩ := NB; have b1 := bA.side qq; have b2 := vA.side qq; exact ⟨b2.blk.cell 0, b2.blk.cell 1, b2.blk.cell 2⟩); clear hF5 hm5)
      | (go_at_call 23; refine (handle_any g F _ x _ tR.f (by omega)).mono ?_; rintro e w5 ⟨rfl, hF5, hm5⟩; rw [HOK.out]; have NB := tR.nextF hF5 hm5; have SB := Lib.hid (show w5.cell? ⟨w2.heap.size, 0, none⟩ = some (.int .i64 x.k) ∧ w5.cell? ⟨w2.heap.size, 1, none⟩ = some (.int .i64 x.n) ∧ w5.cell? ⟨w2.heap.size, 2, none⟩ = some (.string x.s) from by obtain ⟨U, U', tq, qq⟩ := NB; have b1 := bR.side qq; have b2 := vR.side qq; exact ⟨b2.blk.cell 0, b2.blk.cell 1, b2.blk.cell 2⟩); clear hF5 hm5)
      | (go_at_call 23; refine (handle_any g F _ x _ tD.f (by omega)).mono ?_; rintro e w4 ⟨rfl, hF4, hm4⟩; rw [HOK.out]; obtain ⟨T, T', tA, qA⟩ := tD.nextF hF4 hm4; have bA := bD.side qA; have vA := vD.side qA; have SA := Lib.hid (show w4.cell? ⟨w2.heap.size, 0, none⟩ = some (.int .i64 x.k) ∧ w4.cell? ⟨w2.heap.size, 1, none⟩ = some (.int .i64 x.n) ∧ w4.cell? ⟨w2.heap.size, 2, none⟩ = some (.string x.s) from ⟨vA.blk.cell 0, vA.blk.cell 1, vA.blk.cell 2⟩); clear hF4 hm4)
      | (go_at_call 51; refine (rhandle_any y F _ x _ tD.r (by omega) (by omega)).mono ?_; rintro e w4 ⟨rfl, hF4, hm4⟩; rw [HOK.out]; obtain ⟨T, T', tR, qA⟩ := tD.nextR hF4 hm4; have bR := bD.side qA; have vR := vD.side qA; have SA := Lib.hid (show w4.cell? ⟨w2.heap.size, 0, none⟩ = some (.int .i64 x.k) ∧ w4.cell? ⟨w2.heap.size, 1, none⟩ = some (.int .i64 x.n) ∧ w4.cell? ⟨w2.heap.size, 2, none⟩ = some (.string x.s) from ⟨vR.blk.cell 0, vR.blk.cell 1, vR.blk.cell 2⟩); clear hF4 hm4))
    all_goals
      go_wp2_with fail
      go_meet
      obtain ⟨U, U', tq, qq⟩ := NB
      exact ⟨by first | rfl | simp, U, U', tq, (kD.trans qA).trans qq⟩
  case rest =>
    obtain ⟨rfl, hcut⟩ := hcut
    go_wp2
    go_ret
    exact ⟨rfl, by first | exact hcut | (rw [HX.out]; exact hcut)⟩

set_option maxRecDepth 100000 in
set_option maxHeartbeats 2000000 in
theorem both_10 (w0 w : World) (S S' : Nat → Prop) (g y : Nat) (F : Fr) (d n : Int) (A : Option Addr) (m c : Nat) (xs : List V) (hT : Two w0 w S S' g y F F) (hA : RdV w A m c xs) (hd : d.tmod 11 % 11 = 10) (hfv : F.values.length ≤ 900000) (hfb : F.blocks.length ≤ 900000) (hfl : F.locals.length + F.cells.length ≤ 1000) (hn64 : -9223372036854775808 ≤ n ∧ n ≤ 9223372036854775807):
    Calls Try.prog 33 #[.pointer (some ⟨g, 0, none⟩), .pointer (some ⟨y, 0, none⟩), .agg #[.int .i64 d, .int .i64 n, .slice A m c]] w fun e w' => e = .returned (.bool true) ∧ Next w0 w S S' g y (F) (F) w' := by
  have hd1 : -11 < d.tmod 11 := by have := Int.lt_tmod_of_pos d (show (0 : Int) < 11 by omega); omega
  have hd2 : d.tmod 11 < 11 := Int.tmod_lt_of_pos d (by omega)
  have bx : Bes (w.alloc (.cells #[.int .i64 d, .int .i64 n, .slice A m c] 76)) S S' w.heap.size 76 #[.int .i64 d, .int .i64 n, .slice A m c] := Bes.of hT rfl
  have hb0 : Below w.heap.size w (w.alloc (.cells #[.int .i64 d, .int .i64 n, .slice A m c] 76)) := (by repeat (first | exact Below.refl _ _ | assumption | refine Below.setCell ?_ (by first | (simp; done) | (simp; omega) | omega) _ | refine below_drewN ?_ _ | refine Below.drew ?_ | refine Below.alloc ?_ (by first | (simp; done) | (simp; omega) | omega) _))
  have k0 : Side S S' w S S' (w.alloc (.cells #[.int .i64 d, .int .i64 n, .slice A m c] 76)) := Side.new hb0
  have t0 := hT.new hb0
  have ha0 := hA.new hb0
  have hcl := cutRow_length xs
  have t_0 : (d.tmod 11 % 11 == 0) = false := by rw [hd]; rfl
  have t_1 : (d.tmod 11 % 11 == 1) = false := by rw [hd]; rfl
  have t_2 : (d.tmod 11 % 11 == 2) = false := by rw [hd]; rfl
  have t_3 : (d.tmod 11 % 11 == 3) = false := by rw [hd]; rfl
  have t_4 : (d.tmod 11 % 11 == 4) = false := by rw [hd]; rfl
  have t_5 : (d.tmod 11 % 11 == 5) = false := by rw [hd]; rfl
  have t_6 : (d.tmod 11 % 11 == 6) = false := by rw [hd]; rfl
  have t_7 : (d.tmod 11 % 11 == 7) = false := by rw [hd]; rfl
  have t_8 : (d.tmod 11 % 11 == 8) = false := by rw [hd]; rfl
  have t_9 : (d.tmod 11 % 11 == 9) = false := by rw [hd]; rfl
  have HCL := Lib.hid hcl
  clear hT hA hb0 hd hcl
  go_enter Try.func33, Try.ntmps33
  go_wp2_with fail
  refine (row_any A m c xs _ ha0).mono ?_
  rintro e w1 ⟨v, rfl, hv, hvn, hb1⟩
  obtain ⟨A1, c1, rfl, r1⟩ := RowB.of_own (S := S) (S' := S') hv (fun b e => ⟨fun hs => by have := hvn b e; have := t0.lt hs; omega, fun hs => by have := hvn b e; have := t0.lt' hs; omega⟩)
  have q1 : Side S S' _ S S' w1 := Side.new hb1
  have t1 := t0.new hb1
  have k1 := k0.trans q1
  have bx1 := bx.side q1
  clear t0 k0 q1 bx hv hvn hb1 ha0
  go_wp2_with fail
  refine (first_any A1 _ c1 (cutRow xs) w1 r1.rd).mono ?_
  rintro e w2 ⟨rfl, hb2⟩
  generalize (cutRow xs).head?.getD V.zero = x
  have q2 : Side S S' w1 S S' w2 := Side.new hb2
  have t2 := t1.new hb2
  have k2 := k1.trans q2
  have bx2 := bx1.side q2
  have r2 := r1.side q2
  have vx : Bes (w2.alloc (.cells #[.int .i64 x.k, .int .i64 x.n, .string x.s] 44)) S S' w2.heap.size 44 #[.int .i64 x.k, .int .i64 x.n, .string x.s] := Bes.of t2 rfl
  have hb3 : Below w2.heap.size w2 (w2.alloc (.cells #[.int .i64 x.k, .int .i64 x.n, .string x.s] 44)) := (by repeat (first | exact Below.refl _ _ | assumption | refine Below.setCell ?_ (by first | (simp; done) | (simp; omega) | omega) _ | refine below_drewN ?_ _ | refine Below.drew ?_ | refine Below.alloc ?_ (by first | (simp; done) | (simp; omega) | omega) _))
  have q3 : Side S S' w2 S S' (w2.alloc (.cells #[.int .i64 x.k, .int .i64 x.n, .string x.s] 44)) := Side.new hb3
  have t3 := t2.new hb3
  have k3 := k2.trans q3
  have bx3 := bx2.side q3
  have r3 := r2.side q3
  have hlb := bx3.blk.lt
  have d0 : w2.cell? ⟨w.heap.size, 0, none⟩ = some (.int .i64 d) := bx2.blk.cell 0
  have d1 : w2.cell? ⟨w.heap.size, 1, none⟩ = some (.int .i64 n) := bx2.blk.cell 1
  have hlb2 := bx2.blk.lt
  have x0 : (w2.alloc (.cells #[.int .i64 x.k, .int .i64 x.n, .string x.s] 44)).cell? ⟨w2.heap.size, 0, none⟩ = some (.int .i64 x.k) := vx.blk.cell 0
  have x1 : (w2.alloc (.cells #[.int .i64 x.k, .int .i64 x.n, .string x.s] 44)).cell? ⟨w2.heap.size, 1, none⟩ = some (.int .i64 x.n) := vx.blk.cell 1
  have x2 : (w2.alloc (.cells #[.int .i64 x.k, .int .i64 x.n, .string x.s] 44)).cell? ⟨w2.heap.size, 2, none⟩ = some (.string x.s) := vx.blk.cell 2
  have X0 := Lib.hid x0
  have X1 := Lib.hid x1
  have X2 := Lib.hid x2
  clear t1 t2 k1 k2 bx1 bx2 r1 r2 q2 q3 hb2 hb3 x0 x1 x2
  go_wp2_with fail
  refine (held_any g F S _ t3.f (by omega)).mono ?_
  rintro e w4 ⟨u, rfl, hu⟩
  have q4 : Side S S' _ S S' w4 := Side.new hu.bel
  have t4 := t3.new hu.bel
  have k4 := k3.trans q4
  obtain ⟨A4, n4, c4, rfl, hr4, _⟩ := hu.own.rd
  clear t3 k3 bx3 q4 r3 vx hu
  go_wp2_with fail
  refine (rheld_any y F S' _ t4.r (by omega)).mono ?_
  rintro e w5 ⟨u, rfl, hu⟩
  have q5 : Side S S' _ S S' w5 := Side.new hu.bel
  have t5 := t4.new hu.bel
  have k5 := k4.trans q5
  have hr4 := hr4.new hu.bel
  obtain ⟨A5, n5, c5, rfl, hr5, _⟩ := hu.own.rd
  have hrow := (row_same A4 A5 n4 n5 c4 c5 _ _ w5 hr4 hr5).mono (R' := fun e w' => e = .returned (.bool true) ∧ Below w5.heap.size w5 w') fun e w' ⟨h1, q, h2⟩ => ⟨by rw [h1, rowSame_self], by rw [h2]; exact below_drewN (Below.refl _ _) q⟩
  have HROW := Lib.hid hrow
  clear t4 k4 q5 hr4 hr5 hrow hu
  go_wp2_with (go_at_call 24; refine HROW.out.mono ?_; rintro e w6 ⟨rfl, hb6⟩; have HB6 := Lib.hid hb6; clear hb6)
  go_ret
  exact ⟨rfl, _, _, t5.new HB6.out, k5.trans (Side.new HB6.out)⟩
end Go.Proofs.Ythdkloojhenlkaa
