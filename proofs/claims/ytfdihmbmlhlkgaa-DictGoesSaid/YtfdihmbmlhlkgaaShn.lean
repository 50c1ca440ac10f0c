/- shown. -/
import Derived.Test.YtfdihmbmlhlkgaaMad
namespace Go.Proofs.Ytfdihmbmlhlkgaa
open Go.RowKit
attribute [local go_sem high] guardV eqV neqV guardP neqP
attribute [local go_sem] V.v

abbrev oneV (n : Int) : V := ⟨2, n, ⟨#[]⟩⟩
abbrev yesV : V := ⟨1, 1, ⟨#[]⟩⟩
theorem HasD.put {w0 w : World} {S : Nat → Prop} {g : Nat} {L : List (V × V)} (h : HasD w0 w S g L) (x z : V) (hx : x.Ok) :
    Calls Try.prog 15 #[.pointer (some ⟨g, 0, none⟩), .agg #[.int .i64 x.k, .int .i64 x.n, .string x.s], .agg #[.int .i64 z.k, .int .i64 z.n, .string z.s]] w fun e w' => e = .returned (.bool (putOk L x)) ∧ HasD w0 w' (Grew S w w') g (putR L x z) ∧ Mod S w w' :=
  (put_any h.d x z hx).mono fun _ _ ⟨h1, h2, h3⟩ => ⟨h1, h.step h2 h3, h3⟩
theorem HasD.del {w0 w : World} {S : Nat → Prop} {g : Nat} {L : List (V × V)} (h : HasD w0 w S g L) (x : V) (hx : x.Ok) :
    Calls Try.prog 18 #[.pointer (some ⟨g, 0, none⟩), .agg #[.int .i64 x.k, .int .i64 x.n, .string x.s]] w fun e w' => e = .returned (.bool (findL L x).isSome) ∧ HasD w0 w' (Grew S w w') g (delL L x) ∧ Mod S w w' :=
  (del_any h.d x hx).mono fun _ _ ⟨h1, h2, h3⟩ => ⟨h1, h.step h2.grew h3, h3⟩
theorem HasD.get {w0 w : World} {S : Nat → Prop} {g : Nat} {L : List (V × V)} (h : HasD w0 w S g L) (x : V) (hx : x.Ok) :
    Calls Try.prog 29 #[.pointer (some ⟨g, 0, none⟩), .agg #[.int .i64 x.k, .int .i64 x.n, .string x.s]] w fun e w' => e = .returned (.tuple #[((findL L x).getD V.zero).v, .bool (findL L x).isSome]) ∧ Below w.heap.size w w' := get_any h.d x hx
theorem oneV_ok {n : Int} (h : -9223372036854775808 ≤ n ∧ n ≤ 9223372036854775807) : (oneV n).Ok := ⟨rfl, WalkArith.wf_i64 (n := n) ⟨by omega, by omega⟩, Nat.zero_le _⟩
theorem yesV_ok : yesV.Ok := ⟨rfl, rfl, Nat.zero_le _⟩
theorem zeroV_ok : V.zero.Ok := ⟨rfl, rfl, Nat.zero_le _⟩
def shL1 := putR [] (oneV 1) (oneV 5)
def shL2 := putR shL1 yesV (oneV 6)
def shL3 := putR shL2 (oneV 1) (oneV 7)
def shL4 := delL shL3 yesV
def shL5 := putR shL4 V.zero (oneV 8)
def shL6 := putR shL5 yesV (oneV 9)
theorem sh_a : putOk [] (oneV 1) = true := by decide
theorem sh_b : putOk shL1 yesV = true := by decide
theorem sh_c : putOk shL2 (oneV 1) = true := by decide
theorem sh_e : (findL shL3 yesV).isSome = true := by decide
theorem sh_f : putOk shL4 V.zero = true := by decide
theorem sh_g : putOk shL5 yesV = true := by decide
theorem sh_k : shL6.map Prod.fst = [oneV 1, V.zero, yesV] := by decide

set_option maxRecDepth 100000 in
set_option maxHeartbeats 2000000 in
theorem shown_any (w : World) : Calls Try.prog 12 #[] w fun e w' => e = .returned (.bool true) ∧ Below w.heap.size w w' := by
  go_enter Try.func12, Try.ntmps12
  go_wp2_with fail
  refine (new_any _).mono ?_
  rintro e w1 ⟨g, rfl, hd, hb1⟩
  have D1 := HasD.of_new hd hb1 (Below.refl _ w)
  generalize Grew (fun _ => False) w w1 = S1 at *
  clear hd hb1
  go_wp2_with fail
  refine (one_any 1 _).mono ?_
  rintro e w2 ⟨rfl, hb2⟩
  have D2 := D1.new hb2
  clear D1 hb2
  dsimp only [V.v]
  go_wp2_with fail
  refine (one_any 5 _).mono ?_
  rintro e w3 ⟨rfl, hb3⟩
  have D3 := D2.new hb3
  clear D2 hb3
  dsimp only [V.v]
  go_wp2_with fail
  refine (D3.put (oneV 1) (oneV 5) (oneV_ok (by omega))).mono ?_
  rintro e w4 ⟨rfl, D4, -⟩
  rw [sh_a]
  change HasD w w4 _ g shL1 at D4
  generalize Grew _ _ _ = S4 at D4
  clear D3
  go_wp2_with fail
  refine (yes_any _).mono ?_
  rintro e w5 ⟨rfl, hb5⟩
  have D5 := D4.new hb5
  clear D4 hb5
  dsimp only [V.v]
  go_wp2_with fail
  refine (one_any 6 _).mono ?_
  rintro e w6 ⟨rfl, hb6⟩
  have D6 := D5.new hb6
  clear D5 hb6
  dsimp only [V.v]
  go_wp2_with fail
  refine (D6.put yesV (oneV 6) yesV_ok).mono ?_
  rintro e w7 ⟨rfl, D7, -⟩
  rw [sh_b]
  change HasD w w7 _ g shL2 at D7
  generalize Grew _ _ _ = S7 at D7
  clear D6
  go_wp2_with fail
  refine (one_any 1 _).mono ?_
  rintro e w8 ⟨rfl, hb8⟩
  have D8 := D7.new hb8
  clear D7 hb8
  dsimp only [V.v]
  go_wp2_with fail
  refine (one_any 7 _).mono ?_
  rintro e w9 ⟨rfl, hb9⟩
  have D9 := D8.new hb9
  clear D8 hb9
  dsimp only [V.v]
  go_wp2_with fail
  refine (D9.put (oneV 1) (oneV 7) (oneV_ok (by omega))).mono ?_
  rintro e w10 ⟨rfl, D10, -⟩
  rw [sh_c]
  change HasD w w10 _ g shL3 at D10
  generalize Grew _ _ _ = S10 at D10
  clear D9
  go_wp2_with fail
  refine (yes_any _).mono ?_
  rintro e w11 ⟨rfl, hb11⟩
  have D11 := D10.new hb11
  clear D10 hb11
  dsimp only [V.v]
  go_wp2_with fail
  refine (D11.del yesV yesV_ok).mono ?_
  rintro e w12 ⟨rfl, D12, -⟩
  rw [sh_e]
  change HasD w w12 _ g shL4 at D12
  generalize Grew _ _ _ = S12 at D12
  clear D11
  go_wp2_with fail
  refine (one_any 8 _).mono ?_
  rintro e w13 ⟨rfl, hb13⟩
  have D13 := D12.new hb13
  clear D12 hb13
  dsimp only [V.v]
  go_wp2_with fail
  refine (D13.put V.zero (oneV 8) zeroV_ok).mono ?_
  rintro e w14 ⟨rfl, D14, -⟩
  rw [sh_f]
  change HasD w w14 _ g shL5 at D14
  generalize Grew _ _ _ = S14 at D14
  clear D13
  go_wp2_with fail
  refine (yes_any _).mono ?_
  rintro e w15 ⟨rfl, hb15⟩
  have D15 := D14.new hb15
  clear D14 hb15
  dsimp only [V.v]
  go_wp2_with fail
  refine (one_any 9 _).mono ?_
  rintro e w16 ⟨rfl, hb16⟩
  have D16 := D15.new hb16
  clear D15 hb16
  dsimp only [V.v]
  go_wp2_with fail
  refine (D16.put yesV (oneV 9) yesV_ok).mono ?_
  rintro e w17 ⟨rfl, D17, -⟩
  rw [sh_g]
  change HasD w w17 _ g shL6 at D17
  generalize Grew _ _ _ = S17 at D17
  clear D16
  go_wp2_with fail
  refine (keys_any D17.d).mono ?_
  rintro e w18 ⟨v, rfl, N⟩
  have hbw : Below w.heap.size w w18 := D17.z.bel.trans (N.bel.mono D17.z.bel.size)
  rw [sh_k] at N
  obtain ⟨A, c, rfl, hR⟩ := ownV_rdV rfl N.own
  clear D17 N
  go_wp2_with fail
  refine (one_any 1 _).mono ?_
  rintro e w19 ⟨rfl, hb1⟩
  dsimp only [V.v]
  have hR1 := hR.new hb1
  have hbw1 := hbw.trans (hb1.mono hbw.size)
  clear hR hb1 hbw
  go_wp2_with fail
  refine (yes_any _).mono ?_
  rintro e w20 ⟨rfl, hb2⟩
  dsimp only [V.v]
  have hR2 := hR1.new hb2
  have hbw2 := hbw1.trans (hb2.mono hbw1.size)
  clear hR1 hb2 hbw1
  go_wp2_with fail
  have hb3 : Below w20.heap.size w20 (w20.alloc (.cells #[.int .i64 2, .int .i64 1, .string ⟨#[]⟩, .int .i64 0, .int .i64 0, .string ⟨#[]⟩, .int .i64 1, .int .i64 1, .string ⟨#[]⟩] 24)) := (by repeat (first | exact Below.refl _ _ | assumption | refine Below.setCell ?_ (by first | (simp; done) | (simp; omega) | omega) _ | refine below_drewN ?_ _ | refine Below.drew ?_ | refine Below.alloc ?_ (by first | (simp; done) | (simp; omega) | omega) _))
  have hR3 := hR2.new hb3
  have hrow : RdV (w20.alloc (.cells #[.int .i64 2, .int .i64 1, .string ⟨#[]⟩, .int .i64 0, .int .i64 0, .string ⟨#[]⟩, .int .i64 1, .int .i64 1, .string ⟨#[]⟩] 24)) (some ⟨w20.heap.size, 0, none⟩) 3 3 [oneV 1, V.zero, yesV] :=
    ⟨rfl, Nat.le_refl _, by omega, rfl, fun _ => ⟨_, 0, rfl, by simp, fun j u hu => by
      rw [(Blk.new w20 24 _).cell, Nat.zero_add]
      rw [List.getElem?_toArray]
      exact hu⟩⟩
  have HBW := Lib.hid (hbw2.trans (hb3.mono hbw2.size))
  clear hbw2 hb3 hR2
  refine (row_yes _ _ 3 c 3 _ _ hR3 hrow).mono ?_
  rintro e w21 ⟨rfl, q, rfl⟩
  go_wp2_with fail
  go_ret
  exact ⟨rfl, below_drewN HBW.out q⟩
end Go.Proofs.Ytfdihmbmlhlkgaa
