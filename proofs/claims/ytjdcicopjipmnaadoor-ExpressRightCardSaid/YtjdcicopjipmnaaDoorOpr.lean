/- operators of two operands. -/
import Derived.Test.YtjdcicopjipmnaaDoorTwo
namespace Go.Proofs.YtjdcicopjipmnaaDoor
open Go.RowKit
set_option linter.unusedVariables false
set_option linter.unusedSimpArgs false
/-- operators, by a number -/
def opS : Nat → ByteArray
  | 0 => ⟨#[111, 114]⟩
  | 1 => ⟨#[97, 110, 100]⟩
  | 2 => ⟨#[61, 61]⟩
  | 3 => ⟨#[33, 61]⟩
  | 4 => ⟨#[60]⟩
  | 5 => ⟨#[60, 61]⟩
  | 6 => ⟨#[62]⟩
  | 7 => ⟨#[62, 61]⟩
  | 8 => ⟨#[105, 110]⟩
  | 9 => ⟨#[110, 111, 116, 32, 105, 110]⟩
  | 10 => ⟨#[105, 115]⟩
  | 11 => ⟨#[105, 115, 32, 110, 111, 116]⟩
  | 12 => ⟨#[43]⟩
  | 13 => ⟨#[45]⟩
  | 14 => ⟨#[42]⟩
  | 15 => ⟨#[47, 47]⟩
  | 16 => ⟨#[37]⟩
  | 17 => ⟨#[42, 42]⟩
  | _ => ⟨#[]⟩
def opT : Nat → List TokD
  | 0 => [wordT ⟨#[111, 114]⟩]
  | 1 => [wordT ⟨#[97, 110, 100]⟩]
  | 2 => [signT ⟨#[61, 61]⟩]
  | 3 => [signT ⟨#[33, 61]⟩]
  | 4 => [signT ⟨#[60]⟩]
  | 5 => [signT ⟨#[60, 61]⟩]
  | 6 => [signT ⟨#[62]⟩]
  | 7 => [signT ⟨#[62, 61]⟩]
  | 8 => [wordT ⟨#[105, 110]⟩]
  | 9 => [wordT ⟨#[110, 111, 116]⟩, wordT ⟨#[105, 110]⟩]
  | 10 => [wordT ⟨#[105, 115]⟩]
  | 11 => [wordT ⟨#[105, 115]⟩, wordT ⟨#[110, 111, 116]⟩]
  | 12 => [signT ⟨#[43]⟩]
  | 13 => [signT ⟨#[45]⟩]
  | 14 => [signT ⟨#[42]⟩]
  | 15 => [signT ⟨#[47, 47]⟩]
  | 16 => [signT ⟨#[37]⟩]
  | 17 => [signT ⟨#[42, 42]⟩]
  | _ => []
/-- its node: Op, S -/
def opO : Nat → Int
  | 0 => 15
  | 1 => 14
  | 2 => 13
  | 3 => 13
  | 4 => 13
  | 5 => 13
  | 6 => 13
  | 7 => 13
  | 8 => 13
  | 9 => 13
  | 10 => 13
  | 11 => 13
  | 12 => 12
  | 13 => 12
  | 14 => 12
  | 15 => 12
  | 16 => 12
  | 17 => 12
  | _ => 0
def opX : Nat → ByteArray
  | 0 => ⟨#[]⟩
  | 1 => ⟨#[]⟩
  | i => opS i
def opL : Nat → Int
  | 0 => 2
  | 1 => 3
  | 2 => 5
  | 3 => 5
  | 4 => 5
  | 5 => 5
  | 6 => 5
  | 7 => 5
  | 8 => 5
  | 9 => 5
  | 10 => 5
  | 11 => 5
  | 12 => 6
  | 13 => 6
  | 14 => 7
  | 15 => 7
  | 16 => 7
  | 17 => 9
  | _ => 0
theorem op_level (j : Nat) (h : j < 18) : levelB (opS j) = opL j := by
  have : ((List.range 18).all fun j => decide (levelB (opS j) = opL j)) = true := by kernel_rfl
  simpa using List.all_eq_true.1 this j (List.mem_range.2 h)
theorem op_small (j : Nat) : (opS j).size ≤ maxLen := by
  unfold opS
  split <;> exact sml (by decide)
theorem opT_small (j : Nat) : ∀ t ∈ opT j, t.s.size ≤ maxLen := by
  intro t ht
  unfold opT at ht
  split at ht <;> simp only [List.mem_cons, List.not_mem_nil, or_false] at ht <;> first | (rw [ht]; exact sml (by decide)) | (rcases ht with rfl | rfl <;> exact sml (by decide))
theorem opT_len (j : Nat) : (opT j).length ≤ 2 := by
  unfold opT
  split <;> decide
theorem opT_pos {j : Nat} (h : j < 18) : 1 ≤ (opT j).length := by
  have : ((List.range 18).all fun j => decide (1 ≤ (opT j).length)) = true := by decide
  simpa using List.all_eq_true.1 this j (List.mem_range.2 h)
theorem NewT.made {w w3 : World} (L : List TokD) (cs : Array Value) (n : Nat) (hL : L.length = n) (hc : cs = (L.flatMap tcs).toArray) (hm : n ≤ 9223372036854775807) (hb : Below w.heap.size w w3) : NewT w (w3.alloc (.cells cs 39)) (.slice (some ⟨w3.heap.size, 0, none⟩) n n) L :=
  ⟨OwnT.made w3 L cs n hL hc hm, fun b e => by have e2 : w3.heap.size = b := (by simpa [Value.ownBlock] using e); have := hb.size; omega, by have := hb.size; exact (by repeat (first | exact Below.refl _ _ | assumption | refine Below.setCell ?_ (by first | (simp; done) | (simp; omega) | omega) _ | refine below_drewN ?_ _ | refine Below.drew ?_ | refine Below.alloc ?_ (by first | (simp; done) | (simp; omega) | omega) _))⟩
set_option maxRecDepth 100000 in
theorem operator0 (b : Nat) (hb8 : b < 256) (hb : b % 18 = 0) (w : World) : Calls Tryd.prog 22 #[.int .u8 b] w fun e w' => ∃ v, e = .returned (.tuple #[.string ⟨#[111, 114]⟩, v]) ∧ NewT w w' v [wordT ⟨#[111, 114]⟩] := by
  have hw := IntWalk.i64_in (b : Int) (by omega)
  have hm : (b : Int).tmod 18 = 0 := by rw [Int.tmod_eq_emod_of_nonneg (by omega)]; omega
  have HB := Lib.hid (Below.refl w.heap.size w)
  have hsz := HB.out.size
  clear hb
  go_enter Tryd.func22, Tryd.ntmps22
  go_wp2_with (first | (go_at_call 26; go_must (refine (word4_any _ _).mono ?_); rintro e w3 ⟨rfl, hb3⟩; replace HB := Lib.hid (Below.trans (show Below w.heap.size w _ from (by have := HB.out; exact (by repeat (first | exact Below.refl _ _ | assumption | refine Below.setCell ?_ (by first | (simp; done) | (simp; omega) | omega) _ | refine below_drewN ?_ _ | refine Below.drew ?_ | refine Below.alloc ?_ (by first | (simp; done) | (simp; omega) | omega) _)))) (hb3.mono (by have := HB.out.size; first | omega | (simp; done) | (simp; omega)))); clear hsz; have hsz := HB.out.size; clear hb3) | (go_at_call 21; go_must (refine (sign_any _ _).mono ?_); rintro e w3 ⟨rfl, hb3⟩; replace HB := Lib.hid (Below.trans (show Below w.heap.size w _ from (by have := HB.out; exact (by repeat (first | exact Below.refl _ _ | assumption | refine Below.setCell ?_ (by first | (simp; done) | (simp; omega) | omega) _ | refine below_drewN ?_ _ | refine Below.drew ?_ | refine Below.alloc ?_ (by first | (simp; done) | (simp; omega) | omega) _)))) (hb3.mono (by have := HB.out.size; first | omega | (simp; done) | (simp; omega)))); clear hsz; have hsz := HB.out.size; clear hb3))
  exact bodyPost_ret (v := .tuple #[.string ⟨#[111, 114]⟩, .slice (some ⟨w3.heap.size, 0, none⟩) 1 1]) (by first | (simp [results, Tryd.results22, go_sem]; done) | (simp [results, Tryd.results22, go_sem]; rfl)) rfl ⟨_, rfl, NewT.made [wordT ⟨#[111, 114]⟩] _ 1 rfl rfl (by omega) HB.out⟩
set_option maxRecDepth 100000 in
theorem operator1 (b : Nat) (hb8 : b < 256) (hb : b % 18 = 1) (w : World) : Calls Tryd.prog 22 #[.int .u8 b] w fun e w' => ∃ v, e = .returned (.tuple #[.string ⟨#[97, 110, 100]⟩, v]) ∧ NewT w w' v [wordT ⟨#[97, 110, 100]⟩] := by
  have hw := IntWalk.i64_in (b : Int) (by omega)
  have hm : (b : Int).tmod 18 = 1 := by rw [Int.tmod_eq_emod_of_nonneg (by omega)]; omega
  have HB := Lib.hid (Below.refl w.heap.size w)
  have hsz := HB.out.size
  clear hb
  go_enter Tryd.func22, Tryd.ntmps22
  go_wp2_with (first | (go_at_call 26; go_must (refine (word4_any _ _).mono ?_); rintro e w3 ⟨rfl, hb3⟩; replace HB := Lib.hid (Below.trans (show Below w.heap.size w _ from (by have := HB.out; exact (by repeat (first | exact Below.refl _ _ | assumption | refine Below.setCell ?_ (by first | (simp; done) | (simp; omega) | omega) _ | refine below_drewN ?_ _ | refine Below.drew ?_ | refine Below.alloc ?_ (by first | (simp; done) | (simp; omega) | omega) _)))) (hb3.mono (by have := HB.out.size; first | omega | (simp; done) | (simp; omega)))); clear hsz; have hsz := HB.out.size; clear hb3) | (go_at_call 21; go_must (refine (sign_any _ _).mono ?_); rintro e w3 ⟨rfl, hb3⟩; replace HB := Lib.hid (Below.trans (show Below w.heap.size w _ from (by have := HB.out; exact (by repeat (first | exact Below.refl _ _ | assumption | refine Below.setCell ?_ (by first | (simp; done) | (simp; omega) | omega) _ | refine below_drewN ?_ _ | refine Below.drew ?_ | refine Below.alloc ?_ (by first | (simp; done) | (simp; omega) | omega) _)))) (hb3.mono (by have := HB.out.size; first | omega | (simp; done) | (simp; omega)))); clear hsz; have hsz := HB.out.size; clear hb3))
  exact bodyPost_ret (v := .tuple #[.string ⟨#[97, 110, 100]⟩, .slice (some ⟨w3.heap.size, 0, none⟩) 1 1]) (by first | (simp [results, Tryd.results22, go_sem]; done) | (simp [results, Tryd.results22, go_sem]; rfl)) rfl ⟨_, rfl, NewT.made [wordT ⟨#[97, 110, 100]⟩] _ 1 rfl rfl (by omega) HB.out⟩
set_option maxRecDepth 100000 in
theorem operator2 (b : Nat) (hb8 : b < 256) (hb : b % 18 = 2) (w : World) : Calls Tryd.prog 22 #[.int .u8 b] w fun e w' => ∃ v, e = .returned (.tuple #[.string ⟨#[61, 61]⟩, v]) ∧ NewT w w' v [signT ⟨#[61, 61]⟩] := by
  have hw := IntWalk.i64_in (b : Int) (by omega)
  have hm : (b : Int).tmod 18 = 2 := by rw [Int.tmod_eq_emod_of_nonneg (by omega)]; omega
  have HB := Lib.hid (Below.refl w.heap.size w)
  have hsz := HB.out.size
  clear hb
  go_enter Tryd.func22, Tryd.ntmps22
  go_wp2_with (first | (go_at_call 26; go_must (refine (word4_any _ _).mono ?_); rintro e w3 ⟨rfl, hb3⟩; replace HB := Lib.hid (Below.trans (show Below w.heap.size w _ from (by have := HB.out; exact (by repeat (first | exact Below.refl _ _ | assumption | refine Below.setCell ?_ (by first | (simp; done) | (simp; omega) | omega) _ | refine below_drewN ?_ _ | refine Below.drew ?_ | refine Below.alloc ?_ (by first | (simp; done) | (simp; omega) | omega) _)))) (hb3.mono (by have := HB.out.size; first | omega | (simp; done) | (simp; omega)))); clear hsz; have hsz := HB.out.size; clear hb3) | (go_at_call 21; go_must (refine (sign_any _ _).mono ?_); rintro e w3 ⟨rfl, hb3⟩; replace HB := Lib.hid (Below.trans (show Below w.heap.size w _ from (by have := HB.out; exact (by repeat (first | exact Below.refl _ _ | assumption | refine Below.setCell ?_ (by first | (simp; done) | (simp; omega) | omega) _ | refine below_drewN ?_ _ | refine Below.drew ?_ | refine Below.alloc ?_ (by first | (simp; done) | (simp; omega) | omega) _)))) (hb3.mono (by have := HB.out.size; first | omega | (simp; done) | (simp; omega)))); clear hsz; have hsz := HB.out.size; clear hb3))
  exact bodyPost_ret (v := .tuple #[.string ⟨#[61, 61]⟩, .slice (some ⟨w3.heap.size, 0, none⟩) 1 1]) (by first | (simp [results, Tryd.results22, go_sem]; done) | (simp [results, Tryd.results22, go_sem]; rfl)) rfl ⟨_, rfl, NewT.made [signT ⟨#[61, 61]⟩] _ 1 rfl rfl (by omega) HB.out⟩
set_option maxRecDepth 100000 in
theorem operator3 (b : Nat) (hb8 : b < 256) (hb : b % 18 = 3) (w : World) : Calls Tryd.prog 22 #[.int .u8 b] w fun e w' => ∃ v, e = .returned (.tuple #[.string ⟨#[33, 61]⟩, v]) ∧ NewT w w' v [signT ⟨#[33, 61]⟩] := by
  have hw := IntWalk.i64_in (b : Int) (by omega)
  have hm : (b : Int).tmod 18 = 3 := by rw [Int.tmod_eq_emod_of_nonneg (by omega)]; omega
  have HB := Lib.hid (Below.refl w.heap.size w)
  have hsz := HB.out.size
  clear hb
  go_enter Tryd.func22, Tryd.ntmps22
  go_wp2_with (first | (go_at_call 26; go_must (refine (word4_any _ _).mono ?_); rintro e w3 ⟨rfl, hb3⟩; replace HB := Lib.hid (Below.trans (show Below w.heap.size w _ from (by have := HB.out; exact (by repeat (first | exact Below.refl _ _ | assumption | refine Below.setCell ?_ (by first | (simp; done) | (simp; omega) | omega) _ | refine below_drewN ?_ _ | refine Below.drew ?_ | refine Below.alloc ?_ (by first | (simp; done) | (simp; omega) | omega) _)))) (hb3.mono (by have := HB.out.size; first | omega | (simp; done) | (simp; omega)))); clear hsz; have hsz := HB.out.size; clear hb3) | (go_at_call 21; go_must (refine (sign_any _ _).mono ?_); rintro e w3 ⟨rfl, hb3⟩; replace HB := Lib.hid (Below.trans (show Below w.heap.size w _ from (by have := HB.out; exact (by repeat (first | exact Below.refl _ _ | assumption | refine Below.setCell ?_ (by first | (simp; done) | (simp; omega) | omega) _ | refine below_drewN ?_ _ | refine Below.drew ?_ | refine Below.alloc ?_ (by first | (simp; done) | (simp; omega) | omega) _)))) (hb3.mono (by have := HB.out.size; first | omega | (simp; done) | (simp; omega)))); clear hsz; have hsz := HB.out.size; clear hb3))
  exact bodyPost_ret (v := .tuple #[.string ⟨#[33, 61]⟩, .slice (some ⟨w3.heap.size, 0, none⟩) 1 1]) (by first | (simp [results, Tryd.results22, go_sem]; done) | (simp [results, Tryd.results22, go_sem]; rfl)) rfl ⟨_, rfl, NewT.made [signT ⟨#[33, 61]⟩] _ 1 rfl rfl (by omega) HB.out⟩
set_option maxRecDepth 100000 in
theorem operator4 (b : Nat) (hb8 : b < 256) (hb : b % 18 = 4) (w : World) : Calls Tryd.prog 22 #[.int .u8 b] w fun e w' => ∃ v, e = .returned (.tuple #[.string ⟨#[60]⟩, v]) ∧ NewT w w' v [signT ⟨#[60]⟩] := by
  have hw := IntWalk.i64_in (b : Int) (by omega)
  have hm : (b : Int).tmod 18 = 4 := by rw [Int.tmod_eq_emod_of_nonneg (by omega)]; omega
  have HB := Lib.hid (Below.refl w.heap.size w)
  have hsz := HB.out.size
  clear hb
  go_enter Tryd.func22, Tryd.ntmps22
  go_wp2_with (first | (go_at_call 26; go_must (refine (word4_any _ _).mono ?_); rintro e w3 ⟨rfl, hb3⟩; replace HB := Lib.hid (Below.trans (show Below w.heap.size w _ from (by have := HB.out; exact (by repeat (first | exact Below.refl _ _ | assumption | refine Below.setCell ?_ (by first | (simp; done) | (simp; omega) | omega) _ | refine below_drewN ?_ _ | refine Below.drew ?_ | refine Below.alloc ?_ (by first | (simp; done) | (simp; omega) | omega) _)))) (hb3.mono (by have := HB.out.size; first | omega | (simp; done) | (simp; omega)))); clear hsz; have hsz := HB.out.size; clear hb3) | (go_at_call 21; go_must (refine (sign_any _ _).mono ?_); rintro e w3 ⟨rfl, hb3⟩; replace HB := Lib.hid (Below.trans (show Below w.heap.size w _ from (by have := HB.out; exact (by repeat (first | exact Below.refl _ _ | assumption | refine Below.setCell ?_ (by first | (simp; done) | (simp; omega) | omega) _ | refine below_drewN ?_ _ | refine Below.drew ?_ | refine Below.alloc ?_ (by first | (simp; done) | (simp; omega) | omega) _)))) (hb3.mono (by have := HB.out.size; first | omega | (simp; done) | (simp; omega)))); clear hsz; have hsz := HB.out.size; clear hb3))
  exact bodyPost_ret (v := .tuple #[.string ⟨#[60]⟩, .slice (some ⟨w3.heap.size, 0, none⟩) 1 1]) (by first | (simp [results, Tryd.results22, go_sem]; done) | (simp [results, Tryd.results22, go_sem]; rfl)) rfl ⟨_, rfl, NewT.made [signT ⟨#[60]⟩] _ 1 rfl rfl (by omega) HB.out⟩
set_option maxRecDepth 100000 in
theorem operator5 (b : Nat) (hb8 : b < 256) (hb : b % 18 = 5) (w : World) : Calls Tryd.prog 22 #[.int .u8 b] w fun e w' => ∃ v, e = .returned (.tuple #[.string ⟨#[60, 61]⟩, v]) ∧ NewT w w' v [signT ⟨#[60, 61]⟩] := by
  have hw := IntWalk.i64_in (b : Int) (by omega)
  have hm : (b : Int).tmod 18 = 5 := by rw [Int.tmod_eq_emod_of_nonneg (by omega)]; omega
  have HB := Lib.hid (Below.refl w.heap.size w)
  have hsz := HB.out.size
  clear hb
  go_enter Tryd.func22, Tryd.ntmps22
  go_wp2_with (first | (go_at_call 26; go_must (refine (word4_any _ _).mono ?_); rintro e w3 ⟨rfl, hb3⟩; replace HB := Lib.hid (Below.trans (show Below w.heap.size w _ from (by have := HB.out; exact (by repeat (first | exact Below.refl _ _ | assumption | refine Below.setCell ?_ (by first | (simp; done) | (simp; omega) | omega) _ | refine below_drewN ?_ _ | refine Below.drew ?_ | refine Below.alloc ?_ (by first | (simp; done) | (simp; omega) | omega) _)))) (hb3.mono (by have := HB.out.size; first | omega | (simp; done) | (simp; omega)))); clear hsz; have hsz := HB.out.size; clear hb3) | (go_at_call 21; go_must (refine (sign_any _ _).mono ?_); rintro e w3 ⟨rfl, hb3⟩; replace HB := Lib.hid (Below.trans (show Below w.heap.size w _ from (by have := HB.out; exact (by repeat (first | exact Below.refl _ _ | assumption | refine Below.setCell ?_ (by first | (simp; done) | (simp; omega) | omega) _ | refine below_drewN ?_ _ | refine Below.drew ?_ | refine Below.alloc ?_ (by first | (simp; done) | (simp; omega) | omega) _)))) (hb3.mono (by have := HB.out.size; first | omega | (simp; done) | (simp; omega)))); clear hsz; have hsz := HB.out.size; clear hb3))
  exact bodyPost_ret (v := .tuple #[.string ⟨#[60, 61]⟩, .slice (some ⟨w3.heap.size, 0, none⟩) 1 1]) (by first | (simp [results, Tryd.results22, go_sem]; done) | (simp [results, Tryd.results22, go_sem]; rfl)) rfl ⟨_, rfl, NewT.made [signT ⟨#[60, 61]⟩] _ 1 rfl rfl (by omega) HB.out⟩
set_option maxRecDepth 100000 in
theorem operator6 (b : Nat) (hb8 : b < 256) (hb : b % 18 = 6) (w : World) : Calls Tryd.prog 22 #[.int .u8 b] w fun e w' => ∃ v, e = .returned (.tuple #[.string ⟨#[62]⟩, v]) ∧ NewT w w' v [signT ⟨#[62]⟩] := by
  have hw := IntWalk.i64_in (b : Int) (by omega)
  have hm : (b : Int).tmod 18 = 6 := by rw [Int.tmod_eq_emod_of_nonneg (by omega)]; omega
  have HB := Lib.hid (Below.refl w.heap.size w)
  have hsz := HB.out.size
  clear hb
  go_enter Tryd.func22, Tryd.ntmps22
  go_wp2_with (first | (go_at_call 26; go_must (refine (word4_any _ _).mono ?_); rintro e w3 ⟨rfl, hb3⟩; replace HB := Lib.hid (Below.trans (show Below w.heap.size w _ from (by have := HB.out; exact (by repeat (first | exact Below.refl _ _ | assumption | refine Below.setCell ?_ (by first | (simp; done) | (simp; omega) | omega) _ | refine below_drewN ?_ _ | refine Below.drew ?_ | refine Below.alloc ?_ (by first | (simp; done) | (simp; omega) | omega) _)))) (hb3.mono (by have := HB.out.size; first | omega | (simp; done) | (simp; omega)))); clear hsz; have hsz := HB.out.size; clear hb3) | (go_at_call 21; go_must (refine (sign_any _ _).mono ?_); rintro e w3 ⟨rfl, hb3⟩; replace HB := Lib.hid (Below.trans (show Below w.heap.size w _ from (by have := HB.out; exact (by repeat (first | exact Below.refl _ _ | assumption | refine Below.setCell ?_ (by first | (simp; done) | (simp; omega) | omega) _ | refine below_drewN ?_ _ | refine Below.drew ?_ | refine Below.alloc ?_ (by first | (simp; done) | (simp; omega) | omega) _)))) (hb3.mono (by have := HB.out.size; first | omega | (simp; done) | (simp; omega)))); clear hsz; have hsz := HB.out.size; clear hb3))
  exact bodyPost_ret (v := .tuple #[.string ⟨#[62]⟩, .slice (some ⟨w3.heap.size, 0, none⟩) 1 1]) (by first | (simp [results, Tryd.results22, go_sem]; done) | (simp [results, Tryd.results22, go_sem]; rfl)) rfl ⟨_, rfl, NewT.made [signT ⟨#[62]⟩] _ 1 rfl rfl (by omega) HB.out⟩
set_option maxRecDepth 100000 in
theorem operator7 (b : Nat) (hb8 : b < 256) (hb : b % 18 = 7) (w : World) : Calls Tryd.prog 22 #[.int .u8 b] w fun e w' => ∃ v, e = .returned (.tuple #[.string ⟨#[62, 61]⟩, v]) ∧ NewT w w' v [signT ⟨#[62, 61]⟩] := by
  have hw := IntWalk.i64_in (b : Int) (by omega)
  have hm : (b : Int).tmod 18 = 7 := by rw [Int.tmod_eq_emod_of_nonneg (by omega)]; omega
  have HB := Lib.hid (Below.refl w.heap.size w)
  have hsz := HB.out.size
  clear hb
  go_enter Tryd.func22, Tryd.ntmps22
  go_wp2_with (first | (go_at_call 26; go_must (refine (word4_any _ _).mono ?_); rintro e w3 ⟨rfl, hb3⟩; replace HB := Lib.hid (Below.trans (show Below w.heap.size w _ from (by have := HB.out; exact (by repeat (first | exact Below.refl _ _ | assumption | refine Below.setCell ?_ (by first | (simp; done) | (simp; omega) | omega) _ | refine below_drewN ?_ _ | refine Below.drew ?_ | refine Below.alloc ?_ (by first | (simp; done) | (simp; omega) | omega) _)))) (hb3.mono (by have := HB.out.size; first | omega | (simp; done) | (simp; omega)))); clear hsz; have hsz := HB.out.size; clear hb3) | (go_at_call 21; go_must (refine (sign_any _ _).mono ?_); rintro e w3 ⟨rfl, hb3⟩; replace HB := Lib.hid (Below.trans (show Below w.heap.size w _ from (by have := HB.out; exact (by repeat (first | exact Below.refl _ _ | assumption | refine Below.setCell ?_ (by first | (simp; done) | (simp; omega) | omega) _ | refine below_drewN ?_ _ | refine Below.drew ?_ | refine Below.alloc ?_ (by first | (simp; done) | (simp; omega) | omega) _)))) (hb3.mono (by have := HB.out.size; first | omega | (simp; done) | (simp; omega)))); clear hsz; have hsz := HB.out.size; clear hb3))
  exact bodyPost_ret (v := .tuple #[.string ⟨#[62, 61]⟩, .slice (some ⟨w3.heap.size, 0, none⟩) 1 1]) (by first | (simp [results, Tryd.results22, go_sem]; done) | (simp [results, Tryd.results22, go_sem]; rfl)) rfl ⟨_, rfl, NewT.made [signT ⟨#[62, 61]⟩] _ 1 rfl rfl (by omega) HB.out⟩
set_option maxRecDepth 100000 in
theorem operator8 (b : Nat) (hb8 : b < 256) (hb : b % 18 = 8) (w : World) : Calls Tryd.prog 22 #[.int .u8 b] w fun e w' => ∃ v, e = .returned (.tuple #[.string ⟨#[105, 110]⟩, v]) ∧ NewT w w' v [wordT ⟨#[105, 110]⟩] := by
  have hw := IntWalk.i64_in (b : Int) (by omega)
  have hm : (b : Int).tmod 18 = 8 := by rw [Int.tmod_eq_emod_of_nonneg (by omega)]; omega
  have HB := Lib.hid (Below.refl w.heap.size w)
  have hsz := HB.out.size
  clear hb
  go_enter Tryd.func22, Tryd.ntmps22
  go_wp2_with (first | (go_at_call 26; go_must (refine (word4_any _ _).mono ?_); rintro e w3 ⟨rfl, hb3⟩; replace HB := Lib.hid (Below.trans (show Below w.heap.size w _ from (by have := HB.out; exact (by repeat (first | exact Below.refl _ _ | assumption | refine Below.setCell ?_ (by first | (simp; done) | (simp; omega) | omega) _ | refine below_drewN ?_ _ | refine Below.drew ?_ | refine Below.alloc ?_ (by first | (simp; done) | (simp; omega) | omega) _)))) (hb3.mono (by have := HB.out.size; first | omega | (simp; done) | (simp; omega)))); clear hsz; have hsz := HB.out.size; clear hb3) | (go_at_call 21; go_must (refine (sign_any _ _).mono ?_); rintro e w3 ⟨rfl, hb3⟩; replace HB := Lib.hid (Below.trans (show Below w.heap.size w _ from (by have := HB.out; exact (by repeat (first | exact Below.refl _ _ | assumption | refine Below.setCell ?_ (by first | (simp; done) | (simp; omega) | omega) _ | refine below_drewN ?_ _ | refine Below.drew ?_ | refine Below.alloc ?_ (by first | (simp; done) | (simp; omega) | omega) _)))) (hb3.mono (by have := HB.out.size; first | omega | (simp; done) | (simp; omega)))); clear hsz; have hsz := HB.out.size; clear hb3))
  exact bodyPost_ret (v := .tuple #[.string ⟨#[105, 110]⟩, .slice (some ⟨w3.heap.size, 0, none⟩) 1 1]) (by first | (simp [results, Tryd.results22, go_sem]; done) | (simp [results, Tryd.results22, go_sem]; rfl)) rfl ⟨_, rfl, NewT.made [wordT ⟨#[105, 110]⟩] _ 1 rfl rfl (by omega) HB.out⟩
set_option maxRecDepth 100000 in
theorem operator9 (b : Nat) (hb8 : b < 256) (hb : b % 18 = 9) (w : World) : Calls Tryd.prog 22 #[.int .u8 b] w fun e w' => ∃ v, e = .returned (.tuple #[.string ⟨#[110, 111, 116, 32, 105, 110]⟩, v]) ∧ NewT w w' v [wordT ⟨#[110, 111, 116]⟩, wordT ⟨#[105, 110]⟩] := by
  have hw := IntWalk.i64_in (b : Int) (by omega)
  have hm : (b : Int).tmod 18 = 9 := by rw [Int.tmod_eq_emod_of_nonneg (by omega)]; omega
  have HB := Lib.hid (Below.refl w.heap.size w)
  have hsz := HB.out.size
  clear hb
  go_enter Tryd.func22, Tryd.ntmps22
  go_wp2_with ((go_at_call 26; go_must (refine (word4_any _ _).mono ?_); rintro e w3 ⟨rfl, hb3⟩; replace HB := Lib.hid (Below.trans (show Below w.heap.size w _ from (by have := HB.out; exact (by repeat (first | exact Below.refl _ _ | assumption | refine Below.setCell ?_ (by first | (simp; done) | (simp; omega) | omega) _ | refine below_drewN ?_ _ | refine Below.drew ?_ | refine Below.alloc ?_ (by first | (simp; done) | (simp; omega) | omega) _)))) (hb3.mono (by have := HB.out.size; first | omega | (simp; done) | (simp; omega)))); clear hsz; have hsz := HB.out.size; clear hb3); go_wp2_with ((go_at_call 26; go_must (refine (word4_any _ _).mono ?_); rintro e w4 ⟨rfl, hb3⟩; replace HB := Lib.hid (Below.trans (show Below w.heap.size w _ from (by have := HB.out; exact (by repeat (first | exact Below.refl _ _ | assumption | refine Below.setCell ?_ (by first | (simp; done) | (simp; omega) | omega) _ | refine below_drewN ?_ _ | refine Below.drew ?_ | refine Below.alloc ?_ (by first | (simp; done) | (simp; omega) | omega) _)))) (hb3.mono (by have := HB.out.size; first | omega | (simp; done) | (simp; omega)))); clear hsz; have hsz := HB.out.size; clear hb3)))
  exact bodyPost_ret (v := .tuple #[.string ⟨#[110, 111, 116, 32, 105, 110]⟩, .slice (some ⟨w4.heap.size, 0, none⟩) 2 2]) (by first | (simp [results, Tryd.results22, go_sem]; done) | (simp [results, Tryd.results22, go_sem]; rfl)) rfl ⟨_, rfl, NewT.made [wordT ⟨#[110, 111, 116]⟩, wordT ⟨#[105, 110]⟩] _ 2 rfl rfl (by omega) HB.out⟩
set_option maxRecDepth 100000 in
theorem operator10 (b : Nat) (hb8 : b < 256) (hb : b % 18 = 10) (w : World) : Calls Tryd.prog 22 #[.int .u8 b] w fun e w' => ∃ v, e = .returned (.tuple #[.string ⟨#[105, 115]⟩, v]) ∧ NewT w w' v [wordT ⟨#[105, 115]⟩] := by
  have hw := IntWalk.i64_in (b : Int) (by omega)
  have hm : (b : Int).tmod 18 = 10 := by rw [Int.tmod_eq_emod_of_nonneg (by omega)]; omega
  have HB := Lib.hid (Below.refl w.heap.size w)
  have hsz := HB.out.size
  clear hb
  go_enter Tryd.func22, Tryd.ntmps22
  go_wp2_with (first | (go_at_call 26; go_must (refine (word4_any _ _).mono ?_); rintro e w3 ⟨rfl, hb3⟩; replace HB := Lib.hid (Below.trans (show Below w.heap.size w _ from (by have := HB.out; exact (by repeat (first | exact Below.refl _ _ | assumption | refine Below.setCell ?_ (by first | (simp; done) | (simp; omega) | omega) _ | refine below_drewN ?_ _ | refine Below.drew ?_ | refine Below.alloc ?_ (by first | (simp; done) | (simp; omega) | omega) _)))) (hb3.mono (by have := HB.out.size; first | omega | (simp; done) | (simp; omega)))); clear hsz; have hsz := HB.out.size; clear hb3) | (go_at_call 21; go_must (refine (sign_any _ _).mono ?_); rintro e w3 ⟨rfl, hb3⟩; replace HB := Lib.hid (Below.trans (show Below w.heap.size w _ from (by have := HB.out; exact (by repeat (first | exact Below.refl _ _ | assumption | refine Below.setCell ?_ (by first | (simp; done) | (simp; omega) | omega) _ | refine below_drewN ?_ _ | refine Below.drew ?_ | refine Below.alloc ?_ (by first | (simp; done) | (simp; omega) | omega) _)))) (hb3.mono (by have := HB.out.size; first | omega | (simp; done) | (simp; omega)))); clear hsz; have hsz := HB.out.size; clear hb3))
  exact bodyPost_ret (v := .tuple #[.string ⟨#[105, 115]⟩, .slice (some ⟨w3.heap.size, 0, none⟩) 1 1]) (by first | (simp [results, Tryd.results22, go_sem]; done) | (simp [results, Tryd.results22, go_sem]; rfl)) rfl ⟨_, rfl, NewT.made [wordT ⟨#[105, 115]⟩] _ 1 rfl rfl (by omega) HB.out⟩
set_option maxRecDepth 100000 in
theorem operator11 (b : Nat) (hb8 : b < 256) (hb : b % 18 = 11) (w : World) : Calls Tryd.prog 22 #[.int .u8 b] w fun e w' => ∃ v, e = .returned (.tuple #[.string ⟨#[105, 115, 32, 110, 111, 116]⟩, v]) ∧ NewT w w' v [wordT ⟨#[105, 115]⟩, wordT ⟨#[110, 111, 116]⟩] := by
  have hw := IntWalk.i64_in (b : Int) (by omega)
  have hm : (b : Int).tmod 18 = 11 := by rw [Int.tmod_eq_emod_of_nonneg (by omega)]; omega
  have HB := Lib.hid (Below.refl w.heap.size w)
  have hsz := HB.out.size
  clear hb
  go_enter Tryd.func22, Tryd.ntmps22
  go_wp2_with ((go_at_call 26; go_must (refine (word4_any _ _).mono ?_); rintro e w3 ⟨rfl, hb3⟩; replace HB := Lib.hid (Below.trans (show Below w.heap.size w _ from (by have := HB.out; exact (by repeat (first | exact Below.refl _ _ | assumption | refine Below.setCell ?_ (by first | (simp; done) | (simp; omega) | omega) _ | refine below_drewN ?_ _ | refine Below.drew ?_ | refine Below.alloc ?_ (by first | (simp; done) | (simp; omega) | omega) _)))) (hb3.mono (by have := HB.out.size; first | omega | (simp; done) | (simp; omega)))); clear hsz; have hsz := HB.out.size; clear hb3); go_wp2_with ((go_at_call 26; go_must (refine (word4_any _ _).mono ?_); rintro e w4 ⟨rfl, hb3⟩; replace HB := Lib.hid (Below.trans (show Below w.heap.size w _ from (by have := HB.out; exact (by repeat (first | exact Below.refl _ _ | assumption | refine Below.setCell ?_ (by first | (simp; done) | (simp; omega) | omega) _ | refine below_drewN ?_ _ | refine Below.drew ?_ | refine Below.alloc ?_ (by first | (simp; done) | (simp; omega) | omega) _)))) (hb3.mono (by have := HB.out.size; first | omega | (simp; done) | (simp; omega)))); clear hsz; have hsz := HB.out.size; clear hb3)))
  exact bodyPost_ret (v := .tuple #[.string ⟨#[105, 115, 32, 110, 111, 116]⟩, .slice (some ⟨w4.heap.size, 0, none⟩) 2 2]) (by first | (simp [results, Tryd.results22, go_sem]; done) | (simp [results, Tryd.results22, go_sem]; rfl)) rfl ⟨_, rfl, NewT.made [wordT ⟨#[105, 115]⟩, wordT ⟨#[110, 111, 116]⟩] _ 2 rfl rfl (by omega) HB.out⟩
set_option maxRecDepth 100000 in
theorem operator12 (b : Nat) (hb8 : b < 256) (hb : b % 18 = 12) (w : World) : Calls Tryd.prog 22 #[.int .u8 b] w fun e w' => ∃ v, e = .returned (.tuple #[.string ⟨#[43]⟩, v]) ∧ NewT w w' v [signT ⟨#[43]⟩] := by
  have hw := IntWalk.i64_in (b : Int) (by omega)
  have hm : (b : Int).tmod 18 = 12 := by rw [Int.tmod_eq_emod_of_nonneg (by omega)]; omega
  have HB := Lib.hid (Below.refl w.heap.size w)
  have hsz := HB.out.size
  clear hb
  go_enter Tryd.func22, Tryd.ntmps22
  go_wp2_with (first | (go_at_call 26; go_must (refine (word4_any _ _).mono ?_); rintro e w3 ⟨rfl, hb3⟩; replace HB := Lib.hid (Below.trans (show Below w.heap.size w _ from (by have := HB.out; exact (by repeat (first | exact Below.refl _ _ | assumption | refine Below.setCell ?_ (by first | (simp; done) | (simp; omega) | omega) _ | refine below_drewN ?_ _ | refine Below.drew ?_ | refine Below.alloc ?_ (by first | (simp; done) | (simp; omega) | omega) _)))) (hb3.mono (by have := HB.out.size; first | omega | (simp; done) | (simp; omega)))); clear hsz; have hsz := HB.out.size; clear hb3) | (go_at_call 21; go_must (refine (sign_any _ _).mono ?_); rintro e w3 ⟨rfl, hb3⟩; replace HB := Lib.hid (Below.trans (show Below w.heap.size w _ from (by have := HB.out; exact (by repeat (first | exact Below.refl _ _ | assumption | refine Below.setCell ?_ (by first | (simp; done) | (simp; omega) | omega) _ | refine below_drewN ?_ _ | refine Below.drew ?_ | refine Below.alloc ?_ (by first | (simp; done) | (simp; omega) | omega) _)))) (hb3.mono (by have := HB.out.size; first | omega | (simp; done) | (simp; omega)))); clear hsz; have hsz := HB.out.size; clear hb3))
  exact bodyPost_ret (v := .tuple #[.string ⟨#[43]⟩, .slice (some ⟨w3.heap.size, 0, none⟩) 1 1]) (by first | (simp [results, Tryd.results22, go_sem]; done) | (simp [results, Tryd.results22, go_sem]; rfl)) rfl ⟨_, rfl, NewT.made [signT ⟨#[43]⟩] _ 1 rfl rfl (by omega) HB.out⟩
set_option maxRecDepth 100000 in
theorem operator13 (b : Nat) (hb8 : b < 256) (hb : b % 18 = 13) (w : World) : Calls Tryd.prog 22 #[.int .u8 b] w fun e w' => ∃ v, e = .returned (.tuple #[.string ⟨#[45]⟩, v]) ∧ NewT w w' v [signT ⟨#[45]⟩] := by
  have hw := IntWalk.i64_in (b : Int) (by omega)
  have hm : (b : Int).tmod 18 = 13 := by rw [Int.tmod_eq_emod_of_nonneg (by omega)]; omega
  have HB := Lib.hid (Below.refl w.heap.size w)
  have hsz := HB.out.size
  clear hb
  go_enter Tryd.func22, Tryd.ntmps22
  go_wp2_with (first | (go_at_call 26; go_must (refine (word4_any _ _).mono ?_); rintro e w3 ⟨rfl, hb3⟩; replace HB := Lib.hid (Below.trans (show Below w.heap.size w _ from (by have := HB.out; exact (by repeat (first | exact Below.refl _ _ | assumption | refine Below.setCell ?_ (by first | (simp; done) | (simp; omega) | omega) _ | refine below_drewN ?_ _ | refine Below.drew ?_ | refine Below.alloc ?_ (by first | (simp; done) | (simp; omega) | omega) _)))) (hb3.mono (by have := HB.out.size; first | omega | (simp; done) | (simp; omega)))); clear hsz; have hsz := HB.out.size; clear hb3) | (go_at_call 21; go_must (refine (sign_any _ _).mono ?_); rintro e w3 ⟨rfl, hb3⟩; replace HB := Lib.hid (Below.trans (show Below w.heap.size w _ from (by have := HB.out; exact (by repeat (first | exact Below.refl _ _ | assumption | refine Below.setCell ?_ (by first | (simp; done) | (simp; omega) | omega) _ | refine below_drewN ?_ _ | refine Below.drew ?_ | refine Below.alloc ?_ (by first | (simp; done) | (simp; omega) | omega) _)))) (hb3.mono (by have := HB.out.size; first | omega | (simp; done) | (simp; omega)))); clear hsz; have hsz := HB.out.size; clear hb3))
  exact bodyPost_ret (v := .tuple #[.string ⟨#[45]⟩, .slice (some ⟨w3.heap.size, 0, none⟩) 1 1]) (by first | (simp [results, Tryd.results22, go_sem]; done) | (simp [results, Tryd.results22, go_sem]; rfl)) rfl ⟨_, rfl, NewT.made [signT ⟨#[45]⟩] _ 1 rfl rfl (by omega) HB.out⟩
set_option maxRecDepth 100000 in
theorem operator14 (b : Nat) (hb8 : b < 256) (hb : b % 18 = 14) (w : World) : Calls Tryd.prog 22 #[.int .u8 b] w fun e w' => ∃ v, e = .returned (.tuple #[.string ⟨#[42]⟩, v]) ∧ NewT w w' v [signT ⟨#[42]⟩] := by
  have hw := IntWalk.i64_in (b : Int) (by omega)
  have hm : (b : Int).tmod 18 = 14 := by rw [Int.tmod_eq_emod_of_nonneg (by omega)]; omega
  have HB := Lib.hid (Below.refl w.heap.size w)
  have hsz := HB.out.size
  clear hb
  go_enter Tryd.func22, Tryd.ntmps22
  go_wp2_with (first | (go_at_call 26; go_must (refine (word4_any _ _).mono ?_); rintro e w3 ⟨rfl, hb3⟩; replace HB := Lib.hid (Below.trans (show Below w.heap.size w _ from (by have := HB.out; exact (by repeat (first | exact Below.refl _ _ | assumption | refine Below.setCell ?_ (by first | (simp; done) | (simp; omega) | omega) _ | refine below_drewN ?_ _ | refine Below.drew ?_ | refine Below.alloc ?_ (by first | (simp; done) | (simp; omega) | omega) _)))) (hb3.mono (by have := HB.out.size; first | omega | (simp; done) | (simp; omega)))); clear hsz; have hsz := HB.out.size; clear hb3) | (go_at_call 21; go_must (refine (sign_any _ _).mono ?_); rintro e w3 ⟨rfl, hb3⟩; replace HB := Lib.hid (Below.trans (show Below w.heap.size w _ from (by have := HB.out; exact (by repeat (first | exact Below.refl _ _ | assumption | refine Below.setCell ?_ (by first | (simp; done) | (simp; omega) | omega) _ | refine below_drewN ?_ _ | refine Below.drew ?_ | refine Below.alloc ?_ (by first | (simp; done) | (simp; omega) | omega) _)))) (hb3.mono (by have := HB.out.size; first | omega | (simp; done) | (simp; omega)))); clear hsz; have hsz := HB.out.size; clear hb3))
  exact bodyPost_ret (v := .tuple #[.string ⟨#[42]⟩, .slice (some ⟨w3.heap.size, 0, none⟩) 1 1]) (by first | (simp [results, Tryd.results22, go_sem]; done) | (simp [results, Tryd.results22, go_sem]; rfl)) rfl ⟨_, rfl, NewT.made [signT ⟨#[42]⟩] _ 1 rfl rfl (by omega) HB.out⟩
set_option maxRecDepth 100000 in
theorem operator15 (b : Nat) (hb8 : b < 256) (hb : b % 18 = 15) (w : World) : Calls Tryd.prog 22 #[.int .u8 b] w fun e w' => ∃ v, e = .returned (.tuple #[.string ⟨#[47, 47]⟩, v]) ∧ NewT w w' v [signT ⟨#[47, 47]⟩] := by
  have hw := IntWalk.i64_in (b : Int) (by omega)
  have hm : (b : Int).tmod 18 = 15 := by rw [Int.tmod_eq_emod_of_nonneg (by omega)]; omega
  have HB := Lib.hid (Below.refl w.heap.size w)
  have hsz := HB.out.size
  clear hb
  go_enter Tryd.func22, Tryd.ntmps22
  go_wp2_with (first | (go_at_call 26; go_must (refine (word4_any _ _).mono ?_); rintro e w3 ⟨rfl, hb3⟩; replace HB := Lib.hid (Below.trans (show Below w.heap.size w _ from (by have := HB.out; exact (by repeat (first | exact Below.refl _ _ | assumption | refine Below.setCell ?_ (by first | (simp; done) | (simp; omega) | omega) _ | refine below_drewN ?_ _ | refine Below.drew ?_ | refine Below.alloc ?_ (by first | (simp; done) | (simp; omega) | omega) _)))) (hb3.mono (by have := HB.out.size; first | omega | (simp; done) | (simp; omega)))); clear hsz; have hsz := HB.out.size; clear hb3) | (go_at_call 21; go_must (refine (sign_any _ _).mono ?_); rintro e w3 ⟨rfl, hb3⟩; replace HB := Lib.hid (Below.trans (show Below w.heap.size w _ from (by have := HB.out; exact (by repeat (first | exact Below.refl _ _ | assumption | refine Below.setCell ?_ (by first | (simp; done) | (simp; omega) | omega) _ | refine below_drewN ?_ _ | refine Below.drew ?_ | refine Below.alloc ?_ (by first | (simp; done) | (simp; omega) | omega) _)))) (hb3.mono (by have := HB.out.size; first | omega | (simp; done) | (simp; omega)))); clear hsz; have hsz := HB.out.size; clear hb3))
  exact bodyPost_ret (v := .tuple #[.string ⟨#[47, 47]⟩, .slice (some ⟨w3.heap.size, 0, none⟩) 1 1]) (by first | (simp [results, Tryd.results22, go_sem]; done) | (simp [results, Tryd.results22, go_sem]; rfl)) rfl ⟨_, rfl, NewT.made [signT ⟨#[47, 47]⟩] _ 1 rfl rfl (by omega) HB.out⟩
set_option maxRecDepth 100000 in
theorem operator16 (b : Nat) (hb8 : b < 256) (hb : b % 18 = 16) (w : World) : Calls Tryd.prog 22 #[.int .u8 b] w fun e w' => ∃ v, e = .returned (.tuple #[.string ⟨#[37]⟩, v]) ∧ NewT w w' v [signT ⟨#[37]⟩] := by
  have hw := IntWalk.i64_in (b : Int) (by omega)
  have hm : (b : Int).tmod 18 = 16 := by rw [Int.tmod_eq_emod_of_nonneg (by omega)]; omega
  have HB := Lib.hid (Below.refl w.heap.size w)
  have hsz := HB.out.size
  clear hb
  go_enter Tryd.func22, Tryd.ntmps22
  go_wp2_with (first | (go_at_call 26; go_must (refine (word4_any _ _).mono ?_); rintro e w3 ⟨rfl, hb3⟩; replace HB := Lib.hid (Below.trans (show Below w.heap.size w _ from (by have := HB.out; exact (by repeat (first | exact Below.refl _ _ | assumption | refine Below.setCell ?_ (by first | (simp; done) | (simp; omega) | omega) _ | refine below_drewN ?_ _ | refine Below.drew ?_ | refine Below.alloc ?_ (by first | (simp; done) | (simp; omega) | omega) _)))) (hb3.mono (by have := HB.out.size; first | omega | (simp; done) | (simp; omega)))); clear hsz; have hsz := HB.out.size; clear hb3) | (go_at_call 21; go_must (refine (sign_any _ _).mono ?_); rintro e w3 ⟨rfl, hb3⟩; replace HB := Lib.hid (Below.trans (show Below w.heap.size w _ from (by have := HB.out; exact (by repeat (first | exact Below.refl _ _ | assumption | refine Below.setCell ?_ (by first | (simp; done) | (simp; omega) | omega) _ | refine below_drewN ?_ _ | refine Below.drew ?_ | refine Below.alloc ?_ (by first | (simp; done) | (simp; omega) | omega) _)))) (hb3.mono (by have := HB.out.size; first | omega | (simp; done) | (simp; omega)))); clear hsz; have hsz := HB.out.size; clear hb3))
  exact bodyPost_ret (v := .tuple #[.string ⟨#[37]⟩, .slice (some ⟨w3.heap.size, 0, none⟩) 1 1]) (by first | (simp [results, Tryd.results22, go_sem]; done) | (simp [results, Tryd.results22, go_sem]; rfl)) rfl ⟨_, rfl, NewT.made [signT ⟨#[37]⟩] _ 1 rfl rfl (by omega) HB.out⟩
set_option maxRecDepth 100000 in
theorem operator17 (b : Nat) (hb8 : b < 256) (hb : b % 18 = 17) (w : World) : Calls Tryd.prog 22 #[.int .u8 b] w fun e w' => ∃ v, e = .returned (.tuple #[.string ⟨#[42, 42]⟩, v]) ∧ NewT w w' v [signT ⟨#[42, 42]⟩] := by
  have hw := IntWalk.i64_in (b : Int) (by omega)
  have hm : (b : Int).tmod 18 = 17 := by rw [Int.tmod_eq_emod_of_nonneg (by omega)]; omega
  have HB := Lib.hid (Below.refl w.heap.size w)
  have hsz := HB.out.size
  clear hb
  go_enter Tryd.func22, Tryd.ntmps22
  go_wp2_with (first | (go_at_call 26; go_must (refine (word4_any _ _).mono ?_); rintro e w3 ⟨rfl, hb3⟩; replace HB := Lib.hid (Below.trans (show Below w.heap.size w _ from (by have := HB.out; exact (by repeat (first | exact Below.refl _ _ | assumption | refine Below.setCell ?_ (by first | (simp; done) | (simp; omega) | omega) _ | refine below_drewN ?_ _ | refine Below.drew ?_ | refine Below.alloc ?_ (by first | (simp; done) | (simp; omega) | omega) _)))) (hb3.mono (by have := HB.out.size; first | omega | (simp; done) | (simp; omega)))); clear hsz; have hsz := HB.out.size; clear hb3) | (go_at_call 21; go_must (refine (sign_any _ _).mono ?_); rintro e w3 ⟨rfl, hb3⟩; replace HB := Lib.hid (Below.trans (show Below w.heap.size w _ from (by have := HB.out; exact (by repeat (first | exact Below.refl _ _ | assumption | refine Below.setCell ?_ (by first | (simp; done) | (simp; omega) | omega) _ | refine below_drewN ?_ _ | refine Below.drew ?_ | refine Below.alloc ?_ (by first | (simp; done) | (simp; omega) | omega) _)))) (hb3.mono (by have := HB.out.size; first | omega | (simp; done) | (simp; omega)))); clear hsz; have hsz := HB.out.size; clear hb3))
  exact bodyPost_ret (v := .tuple #[.string ⟨#[42, 42]⟩, .slice (some ⟨w3.heap.size, 0, none⟩) 1 1]) (by first | (simp [results, Tryd.results22, go_sem]; done) | (simp [results, Tryd.results22, go_sem]; rfl)) rfl ⟨_, rfl, NewT.made [signT ⟨#[42, 42]⟩] _ 1 rfl rfl (by omega) HB.out⟩
set_option maxRecDepth 100000 in
theorem is_op0 (at_ n : Int) (v : Value) (w : World) : Calls Tryd.prog 25 #[.agg #[.int .i64 15, .int .i64 at_, .string ⟨#[]⟩, .int .i64 n, v], .string ⟨#[111, 114]⟩] w fun e w' => e = .returned (.bool true) ∧ Below w.heap.size w w' := by
  have hlv : levelB ⟨#[111, 114]⟩ = 2 := op_level 0 (by decide)
  go_enter Tryd.func25, Tryd.ntmps25
  go_wp2_with fail
  go_ret
  exact ⟨rfl, by exact (by repeat (first | exact Below.refl _ _ | assumption | refine Below.setCell ?_ (by first | (simp; done) | (simp; omega) | omega) _ | refine below_drewN ?_ _ | refine Below.drew ?_ | refine Below.alloc ?_ (by first | (simp; done) | (simp; omega) | omega) _))⟩
set_option maxRecDepth 100000 in
theorem is_op1 (at_ n : Int) (v : Value) (w : World) : Calls Tryd.prog 25 #[.agg #[.int .i64 14, .int .i64 at_, .string ⟨#[]⟩, .int .i64 n, v], .string ⟨#[97, 110, 100]⟩] w fun e w' => e = .returned (.bool true) ∧ Below w.heap.size w w' := by
  have hlv : levelB ⟨#[97, 110, 100]⟩ = 3 := op_level 1 (by decide)
  go_enter Tryd.func25, Tryd.ntmps25
  go_wp2_with fail
  go_ret
  exact ⟨rfl, by exact (by repeat (first | exact Below.refl _ _ | assumption | refine Below.setCell ?_ (by first | (simp; done) | (simp; omega) | omega) _ | refine below_drewN ?_ _ | refine Below.drew ?_ | refine Below.alloc ?_ (by first | (simp; done) | (simp; omega) | omega) _))⟩
set_option maxRecDepth 100000 in
theorem is_op2 (at_ n : Int) (v : Value) (w : World) : Calls Tryd.prog 25 #[.agg #[.int .i64 13, .int .i64 at_, .string ⟨#[61, 61]⟩, .int .i64 n, v], .string ⟨#[61, 61]⟩] w fun e w' => e = .returned (.bool true) ∧ Below w.heap.size w w' := by
  have hlv : levelB ⟨#[61, 61]⟩ = 5 := op_level 2 (by decide)
  go_enter Tryd.func25, Tryd.ntmps25
  go_wp2_with (go_at_call 24; go_must (refine (level_any ⟨#[61, 61]⟩ (sml (by decide)) _).mono ?_); rintro e w3 ⟨rfl, hb3⟩; have hg := (Blk.new w 51 #[.int .i64 13, .int .i64 at_, .string ⟨#[61, 61]⟩, .int .i64 n, v]).bel hb3; have g0 := hg.cell 0; have g2 := hg.cell 2; have glt := hg.lt; simp only [List.getElem?_toArray, List.getElem?_cons_zero, List.getElem?_cons_succ] at g0 g2; have HB := Lib.hid (Below.trans (show Below w.heap.size w _ from (by repeat (first | exact Below.refl _ _ | assumption | refine Below.setCell ?_ (by first | (simp; done) | (simp; omega) | omega) _ | refine below_drewN ?_ _ | refine Below.drew ?_ | refine Below.alloc ?_ (by first | (simp; done) | (simp; omega) | omega) _))) (hb3.mono (by simp))); clear hg hb3)
  go_ret
  exact ⟨rfl, HB.out⟩
set_option maxRecDepth 100000 in
theorem is_op3 (at_ n : Int) (v : Value) (w : World) : Calls Tryd.prog 25 #[.agg #[.int .i64 13, .int .i64 at_, .string ⟨#[33, 61]⟩, .int .i64 n, v], .string ⟨#[33, 61]⟩] w fun e w' => e = .returned (.bool true) ∧ Below w.heap.size w w' := by
  have hlv : levelB ⟨#[33, 61]⟩ = 5 := op_level 3 (by decide)
  go_enter Tryd.func25, Tryd.ntmps25
  go_wp2_with (go_at_call 24; go_must (refine (level_any ⟨#[33, 61]⟩ (sml (by decide)) _).mono ?_); rintro e w3 ⟨rfl, hb3⟩; have hg := (Blk.new w 51 #[.int .i64 13, .int .i64 at_, .string ⟨#[33, 61]⟩, .int .i64 n, v]).bel hb3; have g0 := hg.cell 0; have g2 := hg.cell 2; have glt := hg.lt; simp only [List.getElem?_toArray, List.getElem?_cons_zero, List.getElem?_cons_succ] at g0 g2; have HB := Lib.hid (Below.trans (show Below w.heap.size w _ from (by repeat (first | exact Below.refl _ _ | assumption | refine Below.setCell ?_ (by first | (simp; done) | (simp; omega) | omega) _ | refine below_drewN ?_ _ | refine Below.drew ?_ | refine Below.alloc ?_ (by first | (simp; done) | (simp; omega) | omega) _))) (hb3.mono (by simp))); clear hg hb3)
  go_ret
  exact ⟨rfl, HB.out⟩
set_option maxRecDepth 100000 in
theorem is_op4 (at_ n : Int) (v : Value) (w : World) : Calls Tryd.prog 25 #[.agg #[.int .i64 13, .int .i64 at_, .string ⟨#[60]⟩, .int .i64 n, v], .string ⟨#[60]⟩] w fun e w' => e = .returned (.bool true) ∧ Below w.heap.size w w' := by
  have hlv : levelB ⟨#[60]⟩ = 5 := op_level 4 (by decide)
  go_enter Tryd.func25, Tryd.ntmps25
  go_wp2_with (go_at_call 24; go_must (refine (level_any ⟨#[60]⟩ (sml (by decide)) _).mono ?_); rintro e w3 ⟨rfl, hb3⟩; have hg := (Blk.new w 51 #[.int .i64 13, .int .i64 at_, .string ⟨#[60]⟩, .int .i64 n, v]).bel hb3; have g0 := hg.cell 0; have g2 := hg.cell 2; have glt := hg.lt; simp only [List.getElem?_toArray, List.getElem?_cons_zero, List.getElem?_cons_succ] at g0 g2; have HB := Lib.hid (Below.trans (show Below w.heap.size w _ from (by repeat (first | exact Below.refl _ _ | assumption | refine Below.setCell ?_ (by first | (simp; done) | (simp; omega) | omega) _ | refine below_drewN ?_ _ | refine Below.drew ?_ | refine Below.alloc ?_ (by first | (simp; done) | (simp; omega) | omega) _))) (hb3.mono (by simp))); clear hg hb3)
  go_ret
  exact ⟨rfl, HB.out⟩
set_option maxRecDepth 100000 in
theorem is_op5 (at_ n : Int) (v : Value) (w : World) : Calls Tryd.prog 25 #[.agg #[.int .i64 13, .int .i64 at_, .string ⟨#[60, 61]⟩, .int .i64 n, v], .string ⟨#[60, 61]⟩] w fun e w' => e = .returned (.bool true) ∧ Below w.heap.size w w' := by
  have hlv : levelB ⟨#[60, 61]⟩ = 5 := op_level 5 (by decide)
  go_enter Tryd.func25, Tryd.ntmps25
  go_wp2_with (go_at_call 24; go_must (refine (level_any ⟨#[60, 61]⟩ (sml (by decide)) _).mono ?_); rintro e w3 ⟨rfl, hb3⟩; have hg := (Blk.new w 51 #[.int .i64 13, .int .i64 at_, .string ⟨#[60, 61]⟩, .int .i64 n, v]).bel hb3; have g0 := hg.cell 0; have g2 := hg.cell 2; have glt := hg.lt; simp only [List.getElem?_toArray, List.getElem?_cons_zero, List.getElem?_cons_succ] at g0 g2; have HB := Lib.hid (Below.trans (show Below w.heap.size w _ from (by repeat (first | exact Below.refl _ _ | assumption | refine Below.setCell ?_ (by first | (simp; done) | (simp; omega) | omega) _ | refine below_drewN ?_ _ | refine Below.drew ?_ | refine Below.alloc ?_ (by first | (simp; done) | (simp; omega) | omega) _))) (hb3.mono (by simp))); clear hg hb3)
  go_ret
  exact ⟨rfl, HB.out⟩
set_option maxRecDepth 100000 in
theorem is_op6 (at_ n : Int) (v : Value) (w : World) : Calls Tryd.prog 25 #[.agg #[.int .i64 13, .int .i64 at_, .string ⟨#[62]⟩, .int .i64 n, v], .string ⟨#[62]⟩] w fun e w' => e = .returned (.bool true) ∧ Below w.heap.size w w' := by
  have hlv : levelB ⟨#[62]⟩ = 5 := op_level 6 (by decide)
  go_enter Tryd.func25, Tryd.ntmps25
  go_wp2_with (go_at_call 24; go_must (refine (level_any ⟨#[62]⟩ (sml (by decide)) _).mono ?_); rintro e w3 ⟨rfl, hb3⟩; have hg := (Blk.new w 51 #[.int .i64 13, .int .i64 at_, .string ⟨#[62]⟩, .int .i64 n, v]).bel hb3; have g0 := hg.cell 0; have g2 := hg.cell 2; have glt := hg.lt; simp only [List.getElem?_toArray, List.getElem?_cons_zero, List.getElem?_cons_succ] at g0 g2; have HB := Lib.hid (Below.trans (show Below w.heap.size w _ from (by repeat (first | exact Below.refl _ _ | assumption | refine Below.setCell ?_ (by first | (simp; done) | (simp; omega) | omega) _ | refine below_drewN ?_ _ | refine Below.drew ?_ | refine Below.alloc ?_ (by first | (simp; done) | (simp; omega) | omega) _))) (hb3.mono (by simp))); clear hg hb3)
  go_ret
  exact ⟨rfl, HB.out⟩
set_option maxRecDepth 100000 in
theorem is_op7 (at_ n : Int) (v : Value) (w : World) : Calls Tryd.prog 25 #[.agg #[.int .i64 13, .int .i64 at_, .string ⟨#[62, 61]⟩, .int .i64 n, v], .string ⟨#[62, 61]⟩] w fun e w' => e = .returned (.bool true) ∧ Below w.heap.size w w' := by
  have hlv : levelB ⟨#[62, 61]⟩ = 5 := op_level 7 (by decide)
  go_enter Tryd.func25, Tryd.ntmps25
  go_wp2_with (go_at_call 24; go_must (refine (level_any ⟨#[62, 61]⟩ (sml (by decide)) _).mono ?_); rintro e w3 ⟨rfl, hb3⟩; have hg := (Blk.new w 51 #[.int .i64 13, .int .i64 at_, .string ⟨#[62, 61]⟩, .int .i64 n, v]).bel hb3; have g0 := hg.cell 0; have g2 := hg.cell 2; have glt := hg.lt; simp only [List.getElem?_toArray, List.getElem?_cons_zero, List.getElem?_cons_succ] at g0 g2; have HB := Lib.hid (Below.trans (show Below w.heap.size w _ from (by repeat (first | exact Below.refl _ _ | assumption | refine Below.setCell ?_ (by first | (simp; done) | (simp; omega) | omega) _ | refine below_drewN ?_ _ | refine Below.drew ?_ | refine Below.alloc ?_ (by first | (simp; done) | (simp; omega) | omega) _))) (hb3.mono (by simp))); clear hg hb3)
  go_ret
  exact ⟨rfl, HB.out⟩
set_option maxRecDepth 100000 in
theorem is_op8 (at_ n : Int) (v : Value) (w : World) : Calls Tryd.prog 25 #[.agg #[.int .i64 13, .int .i64 at_, .string ⟨#[105, 110]⟩, .int .i64 n, v], .string ⟨#[105, 110]⟩] w fun e w' => e = .returned (.bool true) ∧ Below w.heap.size w w' := by
  have hlv : levelB ⟨#[105, 110]⟩ = 5 := op_level 8 (by decide)
  go_enter Tryd.func25, Tryd.ntmps25
  go_wp2_with (go_at_call 24; go_must (refine (level_any ⟨#[105, 110]⟩ (sml (by decide)) _).mono ?_); rintro e w3 ⟨rfl, hb3⟩; have hg := (Blk.new w 51 #[.int .i64 13, .int .i64 at_, .string ⟨#[105, 110]⟩, .int .i64 n, v]).bel hb3; have g0 := hg.cell 0; have g2 := hg.cell 2; have glt := hg.lt; simp only [List.getElem?_toArray, List.getElem?_cons_zero, List.getElem?_cons_succ] at g0 g2; have HB := Lib.hid (Below.trans (show Below w.heap.size w _ from (by repeat (first | exact Below.refl _ _ | assumption | refine Below.setCell ?_ (by first | (simp; done) | (simp; omega) | omega) _ | refine below_drewN ?_ _ | refine Below.drew ?_ | refine Below.alloc ?_ (by first | (simp; done) | (simp; omega) | omega) _))) (hb3.mono (by simp))); clear hg hb3)
  go_ret
  exact ⟨rfl, HB.out⟩
set_option maxRecDepth 100000 in
theorem is_op9 (at_ n : Int) (v : Value) (w : World) : Calls Tryd.prog 25 #[.agg #[.int .i64 13, .int .i64 at_, .string ⟨#[110, 111, 116, 32, 105, 110]⟩, .int .i64 n, v], .string ⟨#[110, 111, 116, 32, 105, 110]⟩] w fun e w' => e = .returned (.bool true) ∧ Below w.heap.size w w' := by
  have hlv : levelB ⟨#[110, 111, 116, 32, 105, 110]⟩ = 5 := op_level 9 (by decide)
  go_enter Tryd.func25, Tryd.ntmps25
  go_wp2_with (go_at_call 24; go_must (refine (level_any ⟨#[110, 111, 116, 32, 105, 110]⟩ (sml (by decide)) _).mono ?_); rintro e w3 ⟨rfl, hb3⟩; have hg := (Blk.new w 51 #[.int .i64 13, .int .i64 at_, .string ⟨#[110, 111, 116, 32, 105, 110]⟩, .int .i64 n, v]).bel hb3; have g0 := hg.cell 0; have g2 := hg.cell 2; have glt := hg.lt; simp only [List.getElem?_toArray, List.getElem?_cons_zero, List.getElem?_cons_succ] at g0 g2; have HB := Lib.hid (Below.trans (show Below w.heap.size w _ from (by repeat (first | exact Below.refl _ _ | assumption | refine Below.setCell ?_ (by first | (simp; done) | (simp; omega) | omega) _ | refine below_drewN ?_ _ | refine Below.drew ?_ | refine Below.alloc ?_ (by first | (simp; done) | (simp; omega) | omega) _))) (hb3.mono (by simp))); clear hg hb3)
  go_ret
  exact ⟨rfl, HB.out⟩
set_option maxRecDepth 100000 in
theorem is_op10 (at_ n : Int) (v : Value) (w : World) : Calls Tryd.prog 25 #[.agg #[.int .i64 13, .int .i64 at_, .string ⟨#[105, 115]⟩, .int .i64 n, v], .string ⟨#[105, 115]⟩] w fun e w' => e = .returned (.bool true) ∧ Below w.heap.size w w' := by
  have hlv : levelB ⟨#[105, 115]⟩ = 5 := op_level 10 (by decide)
  go_enter Tryd.func25, Tryd.ntmps25
  go_wp2_with (go_at_call 24; go_must (refine (level_any ⟨#[105, 115]⟩ (sml (by decide)) _).mono ?_); rintro e w3 ⟨rfl, hb3⟩; have hg := (Blk.new w 51 #[.int .i64 13, .int .i64 at_, .string ⟨#[105, 115]⟩, .int .i64 n, v]).bel hb3; have g0 := hg.cell 0; have g2 := hg.cell 2; have glt := hg.lt; simp only [List.getElem?_toArray, List.getElem?_cons_zero, List.getElem?_cons_succ] at g0 g2; have HB := Lib.hid (Below.trans (show Below w.heap.size w _ from (by repeat (first | exact Below.refl _ _ | assumption | refine Below.setCell ?_ (by first | (simp; done) | (simp; omega) | omega) _ | refine below_drewN ?_ _ | refine Below.drew ?_ | refine Below.alloc ?_ (by first | (simp; done) | (simp; omega) | omega) _))) (hb3.mono (by simp))); clear hg hb3)
  go_ret
  exact ⟨rfl, HB.out⟩
set_option maxRecDepth 100000 in
theorem is_op11 (at_ n : Int) (v : Value) (w : World) : Calls Tryd.prog 25 #[.agg #[.int .i64 13, .int .i64 at_, .string ⟨#[105, 115, 32, 110, 111, 116]⟩, .int .i64 n, v], .string ⟨#[105, 115, 32, 110, 111, 116]⟩] w fun e w' => e = .returned (.bool true) ∧ Below w.heap.size w w' := by
  have hlv : levelB ⟨#[105, 115, 32, 110, 111, 116]⟩ = 5 := op_level 11 (by decide)
  go_enter Tryd.func25, Tryd.ntmps25
  go_wp2_with (go_at_call 24; go_must (refine (level_any ⟨#[105, 115, 32, 110, 111, 116]⟩ (sml (by decide)) _).mono ?_); rintro e w3 ⟨rfl, hb3⟩; have hg := (Blk.new w 51 #[.int .i64 13, .int .i64 at_, .string ⟨#[105, 115, 32, 110, 111, 116]⟩, .int .i64 n, v]).bel hb3; have g0 := hg.cell 0; have g2 := hg.cell 2; have glt := hg.lt; simp only [List.getElem?_toArray, List.getElem?_cons_zero, List.getElem?_cons_succ] at g0 g2; have HB := Lib.hid (Below.trans (show Below w.heap.size w _ from (by repeat (first | exact Below.refl _ _ | assumption | refine Below.setCell ?_ (by first | (simp; done) | (simp; omega) | omega) _ | refine below_drewN ?_ _ | refine Below.drew ?_ | refine Below.alloc ?_ (by first | (simp; done) | (simp; omega) | omega) _))) (hb3.mono (by simp))); clear hg hb3)
  go_ret
  exact ⟨rfl, HB.out⟩
set_option maxRecDepth 100000 in
theorem is_op12 (at_ n : Int) (v : Value) (w : World) : Calls Tryd.prog 25 #[.agg #[.int .i64 12, .int .i64 at_, .string ⟨#[43]⟩, .int .i64 n, v], .string ⟨#[43]⟩] w fun e w' => e = .returned (.bool true) ∧ Below w.heap.size w w' := by
  have hlv : levelB ⟨#[43]⟩ = 6 := op_level 12 (by decide)
  go_enter Tryd.func25, Tryd.ntmps25
  go_wp2_with (go_at_call 24; go_must (refine (level_any ⟨#[43]⟩ (sml (by decide)) _).mono ?_); rintro e w3 ⟨rfl, hb3⟩; have hg := (Blk.new w 51 #[.int .i64 12, .int .i64 at_, .string ⟨#[43]⟩, .int .i64 n, v]).bel hb3; have g0 := hg.cell 0; have g2 := hg.cell 2; have glt := hg.lt; simp only [List.getElem?_toArray, List.getElem?_cons_zero, List.getElem?_cons_succ] at g0 g2; have HB := Lib.hid (Below.trans (show Below w.heap.size w _ from (by repeat (first | exact Below.refl _ _ | assumption | refine Below.setCell ?_ (by first | (simp; done) | (simp; omega) | omega) _ | refine below_drewN ?_ _ | refine Below.drew ?_ | refine Below.alloc ?_ (by first | (simp; done) | (simp; omega) | omega) _))) (hb3.mono (by simp))); clear hg hb3)
  go_ret
  exact ⟨rfl, HB.out⟩
set_option maxRecDepth 100000 in
theorem is_op13 (at_ n : Int) (v : Value) (w : World) : Calls Tryd.prog 25 #[.agg #[.int .i64 12, .int .i64 at_, .string ⟨#[45]⟩, .int .i64 n, v], .string ⟨#[45]⟩] w fun e w' => e = .returned (.bool true) ∧ Below w.heap.size w w' := by
  have hlv : levelB ⟨#[45]⟩ = 6 := op_level 13 (by decide)
  go_enter Tryd.func25, Tryd.ntmps25
  go_wp2_with (go_at_call 24; go_must (refine (level_any ⟨#[45]⟩ (sml (by decide)) _).mono ?_); rintro e w3 ⟨rfl, hb3⟩; have hg := (Blk.new w 51 #[.int .i64 12, .int .i64 at_, .string ⟨#[45]⟩, .int .i64 n, v]).bel hb3; have g0 := hg.cell 0; have g2 := hg.cell 2; have glt := hg.lt; simp only [List.getElem?_toArray, List.getElem?_cons_zero, List.getElem?_cons_succ] at g0 g2; have HB := Lib.hid (Below.trans (show Below w.heap.size w _ from (by repeat (first | exact Below.refl _ _ | assumption | refine Below.setCell ?_ (by first | (simp; done) | (simp; omega) | omega) _ | refine below_drewN ?_ _ | refine Below.drew ?_ | refine Below.alloc ?_ (by first | (simp; done) | (simp; omega) | omega) _))) (hb3.mono (by simp))); clear hg hb3)
  go_ret
  exact ⟨rfl, HB.out⟩
set_option maxRecDepth 100000 in
theorem is_op14 (at_ n : Int) (v : Value) (w : World) : Calls Tryd.prog 25 #[.agg #[.int .i64 12, .int .i64 at_, .string ⟨#[42]⟩, .int .i64 n, v], .string ⟨#[42]⟩] w fun e w' => e = .returned (.bool true) ∧ Below w.heap.size w w' := by
  have hlv : levelB ⟨#[42]⟩ = 7 := op_level 14 (by decide)
  go_enter Tryd.func25, Tryd.ntmps25
  go_wp2_with (go_at_call 24; go_must (refine (level_any ⟨#[42]⟩ (sml (by decide)) _).mono ?_); rintro e w3 ⟨rfl, hb3⟩; have hg := (Blk.new w 51 #[.int .i64 12, .int .i64 at_, .string ⟨#[42]⟩, .int .i64 n, v]).bel hb3; have g0 := hg.cell 0; have g2 := hg.cell 2; have glt := hg.lt; simp only [List.getElem?_toArray, List.getElem?_cons_zero, List.getElem?_cons_succ] at g0 g2; have HB := Lib.hid (Below.trans (show Below w.heap.size w _ from (by repeat (first | exact Below.refl _ _ | assumption | refine Below.setCell ?_ (by first | (simp; done) | (simp; omega) | omega) _ | refine below_drewN ?_ _ | refine Below.drew ?_ | refine Below.alloc ?_ (by first | (simp; done) | (simp; omega) | omega) _))) (hb3.mono (by simp))); clear hg hb3)
  go_ret
  exact ⟨rfl, HB.out⟩
set_option maxRecDepth 100000 in
theorem is_op15 (at_ n : Int) (v : Value) (w : World) : Calls Tryd.prog 25 #[.agg #[.int .i64 12, .int .i64 at_, .string ⟨#[47, 47]⟩, .int .i64 n, v], .string ⟨#[47, 47]⟩] w fun e w' => e = .returned (.bool true) ∧ Below w.heap.size w w' := by
  have hlv : levelB ⟨#[47, 47]⟩ = 7 := op_level 15 (by decide)
  go_enter Tryd.func25, Tryd.ntmps25
  go_wp2_with (go_at_call 24; go_must (refine (level_any ⟨#[47, 47]⟩ (sml (by decide)) _).mono ?_); rintro e w3 ⟨rfl, hb3⟩; have hg := (Blk.new w 51 #[.int .i64 12, .int .i64 at_, .string ⟨#[47, 47]⟩, .int .i64 n, v]).bel hb3; have g0 := hg.cell 0; have g2 := hg.cell 2; have glt := hg.lt; simp only [List.getElem?_toArray, List.getElem?_cons_zero, List.getElem?_cons_succ] at g0 g2; have HB := Lib.hid (Below.trans (show Below w.heap.size w _ from (by repeat (first | exact Below.refl _ _ | assumption | refine Below.setCell ?_ (by first | (simp; done) | (simp; omega) | omega) _ | refine below_drewN ?_ _ | refine Below.drew ?_ | refine Below.alloc ?_ (by first | (simp; done) | (simp; omega) | omega) _))) (hb3.mono (by simp))); clear hg hb3)
  go_ret
  exact ⟨rfl, HB.out⟩
set_option maxRecDepth 100000 in
theorem is_op16 (at_ n : Int) (v : Value) (w : World) : Calls Tryd.prog 25 #[.agg #[.int .i64 12, .int .i64 at_, .string ⟨#[37]⟩, .int .i64 n, v], .string ⟨#[37]⟩] w fun e w' => e = .returned (.bool true) ∧ Below w.heap.size w w' := by
  have hlv : levelB ⟨#[37]⟩ = 7 := op_level 16 (by decide)
  go_enter Tryd.func25, Tryd.ntmps25
  go_wp2_with (go_at_call 24; go_must (refine (level_any ⟨#[37]⟩ (sml (by decide)) _).mono ?_); rintro e w3 ⟨rfl, hb3⟩; have hg := (Blk.new w 51 #[.int .i64 12, .int .i64 at_, .string ⟨#[37]⟩, .int .i64 n, v]).bel hb3; have g0 := hg.cell 0; have g2 := hg.cell 2; have glt := hg.lt; simp only [List.getElem?_toArray, List.getElem?_cons_zero, List.getElem?_cons_succ] at g0 g2; have HB := Lib.hid (Below.trans (show Below w.heap.size w _ from (by repeat (first | exact Below.refl _ _ | assumption | refine Below.setCell ?_ (by first | (simp; done) | (simp; omega) | omega) _ | refine below_drewN ?_ _ | refine Below.drew ?_ | refine Below.alloc ?_ (by first | (simp; done) | (simp; omega) | omega) _))) (hb3.mono (by simp))); clear hg hb3)
  go_ret
  exact ⟨rfl, HB.out⟩
set_option maxRecDepth 100000 in
theorem is_op17 (at_ n : Int) (v : Value) (w : World) : Calls Tryd.prog 25 #[.agg #[.int .i64 12, .int .i64 at_, .string ⟨#[42, 42]⟩, .int .i64 n, v], .string ⟨#[42, 42]⟩] w fun e w' => e = .returned (.bool true) ∧ Below w.heap.size w w' := by
  have hlv : levelB ⟨#[42, 42]⟩ = 9 := op_level 17 (by decide)
  go_enter Tryd.func25, Tryd.ntmps25
  go_wp2_with (go_at_call 24; go_must (refine (level_any ⟨#[42, 42]⟩ (sml (by decide)) _).mono ?_); rintro e w3 ⟨rfl, hb3⟩; have hg := (Blk.new w 51 #[.int .i64 12, .int .i64 at_, .string ⟨#[42, 42]⟩, .int .i64 n, v]).bel hb3; have g0 := hg.cell 0; have g2 := hg.cell 2; have glt := hg.lt; simp only [List.getElem?_toArray, List.getElem?_cons_zero, List.getElem?_cons_succ] at g0 g2; have HB := Lib.hid (Below.trans (show Below w.heap.size w _ from (by repeat (first | exact Below.refl _ _ | assumption | refine Below.setCell ?_ (by first | (simp; done) | (simp; omega) | omega) _ | refine below_drewN ?_ _ | refine Below.drew ?_ | refine Below.alloc ?_ (by first | (simp; done) | (simp; omega) | omega) _))) (hb3.mono (by simp))); clear hg hb3)
  go_ret
  exact ⟨rfl, HB.out⟩
theorem operator_any (b : Nat) (hb : b < 256) (w : World) : Calls Tryd.prog 22 #[.int .u8 b] w fun e w' => ∃ v, e = .returned (.tuple #[.string (opS (b % 18)), v]) ∧ NewT w w' v (opT (b % 18)) := by
  obtain ⟨j, hj⟩ : ∃ j, b % 18 = j := ⟨_, rfl⟩
  have h18 : j < 18 := by omega
  rw [hj]
  match j, h18, hj with
  | 0, _, hj => exact operator0 b hb hj w
  | 1, _, hj => exact operator1 b hb hj w
  | 2, _, hj => exact operator2 b hb hj w
  | 3, _, hj => exact operator3 b hb hj w
  | 4, _, hj => exact operator4 b hb hj w
  | 5, _, hj => exact operator5 b hb hj w
  | 6, _, hj => exact operator6 b hb hj w
  | 7, _, hj => exact operator7 b hb hj w
  | 8, _, hj => exact operator8 b hb hj w
  | 9, _, hj => exact operator9 b hb hj w
  | 10, _, hj => exact operator10 b hb hj w
  | 11, _, hj => exact operator11 b hb hj w
  | 12, _, hj => exact operator12 b hb hj w
  | 13, _, hj => exact operator13 b hb hj w
  | 14, _, hj => exact operator14 b hb hj w
  | 15, _, hj => exact operator15 b hb hj w
  | 16, _, hj => exact operator16 b hb hj w
  | 17, _, hj => exact operator17 b hb hj w
  | n + 18, h, _ => exact absurd h (by omega)
theorem is_any2 (j : Nat) (h : j < 18) (at_ n : Int) (v : Value) (w : World) : Calls Tryd.prog 25 #[.agg #[.int .i64 (opO j), .int .i64 at_, .string (opX j), .int .i64 n, v], .string (opS j)] w fun e w' => e = .returned (.bool true) ∧ Below w.heap.size w w' := by
  match j, h with
  | 0, _ => exact is_op0 at_ n v w
  | 1, _ => exact is_op1 at_ n v w
  | 2, _ => exact is_op2 at_ n v w
  | 3, _ => exact is_op3 at_ n v w
  | 4, _ => exact is_op4 at_ n v w
  | 5, _ => exact is_op5 at_ n v w
  | 6, _ => exact is_op6 at_ n v w
  | 7, _ => exact is_op7 at_ n v w
  | 8, _ => exact is_op8 at_ n v w
  | 9, _ => exact is_op9 at_ n v w
  | 10, _ => exact is_op10 at_ n v w
  | 11, _ => exact is_op11 at_ n v w
  | 12, _ => exact is_op12 at_ n v w
  | 13, _ => exact is_op13 at_ n v w
  | 14, _ => exact is_op14 at_ n v w
  | 15, _ => exact is_op15 at_ n v w
  | 16, _ => exact is_op16 at_ n v w
  | 17, _ => exact is_op17 at_ n v w
  | n + 18, h => exact absurd h (by omega)
end Go.Proofs.YtjdcicopjipmnaaDoor
