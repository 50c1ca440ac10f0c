/- The document's Right: texts, by Op. -/
import Derived.Test.YtjdcicopjipmnaaDoorRgb
namespace Go.Proofs.YtjdcicopjipmnaaDoor
open Go.RowKit
set_option linter.unusedVariables false
set_option linter.unusedSimpArgs false
theorem Rd.strG {g : Nat} {w : World} (K : List ByteArray) (cs : Array Value) (n : Nat) (hg : g = w.heap.size) (hn : K.length = n) (hc : cs = (strsB K).toArray) (hm : n ≤ 9223372036854775807) : Rd (w.alloc (.cells cs 9)) (some ⟨g, 0, none⟩) n n 1 (strsB K) := by
  subst hg hc
  exact ⟨Nat.le_refl _, hm, by simp [strsB, hn], fun _ => ⟨w.heap.size, 0, rfl, by simp, fun j u hj => by
    rw [Nat.zero_add, (Blk.new w 9 _).cell]
    simpa using hj⟩⟩
theorem isEmpty_nil : (⟨#[]⟩ : ByteArray).toList.isEmpty = true := by kernel_rfl
set_option maxRecDepth 100000 in
set_option maxHeartbeats 1000000 in
theorem texts_1 (a : Int) (A : Option Addr) (m c : Nat) (w : World) : Calls Tryd.prog 40 #[.agg #[.int .i64 1, .int .i64 a, .string ⟨#[]⟩, .int .i64 0, .slice A m c]] w fun e w' => e = .returned (.bool true) ∧ Below w.heap.size w w' := by
  go_enter Tryd.func40, Tryd.ntmps40
  go_wp2_with fail
  go_ret
  exact ⟨rfl, by exact (by repeat (first | exact Below.refl _ _ | assumption | refine Below.setCell ?_ (by first | (simp; done) | (simp; omega) | omega) _ | refine below_drewN ?_ _ | refine Below.drew ?_ | refine Below.alloc ?_ (by first | (simp; done) | (simp; omega) | omega) _))⟩
set_option maxRecDepth 100000 in
set_option maxHeartbeats 1000000 in
theorem texts_2 (a : Int) (A : Option Addr) (m c : Nat) (w : World) : Calls Tryd.prog 40 #[.agg #[.int .i64 2, .int .i64 a, .string ⟨#[]⟩, .int .i64 0, .slice A m c]] w fun e w' => e = .returned (.bool true) ∧ Below w.heap.size w w' := by
  go_enter Tryd.func40, Tryd.ntmps40
  go_wp2_with fail
  go_ret
  exact ⟨rfl, by exact (by repeat (first | exact Below.refl _ _ | assumption | refine Below.setCell ?_ (by first | (simp; done) | (simp; omega) | omega) _ | refine below_drewN ?_ _ | refine Below.drew ?_ | refine Below.alloc ?_ (by first | (simp; done) | (simp; omega) | omega) _))⟩
set_option maxRecDepth 100000 in
set_option maxHeartbeats 1000000 in
theorem texts_3 (a : Int) (A : Option Addr) (m c : Nat) (w : World) : Calls Tryd.prog 40 #[.agg #[.int .i64 3, .int .i64 a, .string ⟨#[]⟩, .int .i64 0, .slice A m c]] w fun e w' => e = .returned (.bool true) ∧ Below w.heap.size w w' := by
  go_enter Tryd.func40, Tryd.ntmps40
  go_wp2_with fail
  go_ret
  exact ⟨rfl, by exact (by repeat (first | exact Below.refl _ _ | assumption | refine Below.setCell ?_ (by first | (simp; done) | (simp; omega) | omega) _ | refine below_drewN ?_ _ | refine Below.drew ?_ | refine Below.alloc ?_ (by first | (simp; done) | (simp; omega) | omega) _))⟩
set_option maxRecDepth 100000 in
set_option maxHeartbeats 1000000 in
theorem texts_7 (a : Int) (A : Option Addr) (m c : Nat) (w : World) : Calls Tryd.prog 40 #[.agg #[.int .i64 7, .int .i64 a, .string ⟨#[]⟩, .int .i64 0, .slice A m c]] w fun e w' => e = .returned (.bool true) ∧ Below w.heap.size w w' := by
  go_enter Tryd.func40, Tryd.ntmps40
  go_wp2_with fail
  go_ret
  exact ⟨rfl, by exact (by repeat (first | exact Below.refl _ _ | assumption | refine Below.setCell ?_ (by first | (simp; done) | (simp; omega) | omega) _ | refine below_drewN ?_ _ | refine Below.drew ?_ | refine Below.alloc ?_ (by first | (simp; done) | (simp; omega) | omega) _))⟩
set_option maxRecDepth 100000 in
set_option maxHeartbeats 1000000 in
theorem texts_8 (a : Int) (A : Option Addr) (m c : Nat) (w : World) : Calls Tryd.prog 40 #[.agg #[.int .i64 8, .int .i64 a, .string ⟨#[]⟩, .int .i64 0, .slice A m c]] w fun e w' => e = .returned (.bool true) ∧ Below w.heap.size w w' := by
  go_enter Tryd.func40, Tryd.ntmps40
  go_wp2_with fail
  go_ret
  exact ⟨rfl, by exact (by repeat (first | exact Below.refl _ _ | assumption | refine Below.setCell ?_ (by first | (simp; done) | (simp; omega) | omega) _ | refine below_drewN ?_ _ | refine Below.drew ?_ | refine Below.alloc ?_ (by first | (simp; done) | (simp; omega) | omega) _))⟩
set_option maxRecDepth 100000 in
set_option maxHeartbeats 1000000 in
theorem texts_9 (a : Int) (A : Option Addr) (m c : Nat) (w : World) : Calls Tryd.prog 40 #[.agg #[.int .i64 9, .int .i64 a, .string ⟨#[]⟩, .int .i64 0, .slice A m c]] w fun e w' => e = .returned (.bool true) ∧ Below w.heap.size w w' := by
  go_enter Tryd.func40, Tryd.ntmps40
  go_wp2_with fail
  go_ret
  exact ⟨rfl, by exact (by repeat (first | exact Below.refl _ _ | assumption | refine Below.setCell ?_ (by first | (simp; done) | (simp; omega) | omega) _ | refine below_drewN ?_ _ | refine Below.drew ?_ | refine Below.alloc ?_ (by first | (simp; done) | (simp; omega) | omega) _))⟩
set_option maxRecDepth 100000 in
set_option maxHeartbeats 1000000 in
theorem texts_10 (a : Int) (A : Option Addr) (m c : Nat) (w : World) : Calls Tryd.prog 40 #[.agg #[.int .i64 10, .int .i64 a, .string ⟨#[]⟩, .int .i64 0, .slice A m c]] w fun e w' => e = .returned (.bool true) ∧ Below w.heap.size w w' := by
  go_enter Tryd.func40, Tryd.ntmps40
  go_wp2_with fail
  go_ret
  exact ⟨rfl, by exact (by repeat (first | exact Below.refl _ _ | assumption | refine Below.setCell ?_ (by first | (simp; done) | (simp; omega) | omega) _ | refine below_drewN ?_ _ | refine Below.drew ?_ | refine Below.alloc ?_ (by first | (simp; done) | (simp; omega) | omega) _))⟩
set_option maxRecDepth 100000 in
set_option maxHeartbeats 1000000 in
theorem texts_11 (a : Int) (A : Option Addr) (m c : Nat) (w : World) : Calls Tryd.prog 40 #[.agg #[.int .i64 11, .int .i64 a, .string ⟨#[]⟩, .int .i64 0, .slice A m c]] w fun e w' => e = .returned (.bool true) ∧ Below w.heap.size w w' := by
  go_enter Tryd.func40, Tryd.ntmps40
  go_wp2_with fail
  go_ret
  exact ⟨rfl, by exact (by repeat (first | exact Below.refl _ _ | assumption | refine Below.setCell ?_ (by first | (simp; done) | (simp; omega) | omega) _ | refine below_drewN ?_ _ | refine Below.drew ?_ | refine Below.alloc ?_ (by first | (simp; done) | (simp; omega) | omega) _))⟩
set_option maxRecDepth 100000 in
set_option maxHeartbeats 1000000 in
theorem texts_14 (a : Int) (A : Option Addr) (m c : Nat) (w : World) : Calls Tryd.prog 40 #[.agg #[.int .i64 14, .int .i64 a, .string ⟨#[]⟩, .int .i64 0, .slice A m c]] w fun e w' => e = .returned (.bool true) ∧ Below w.heap.size w w' := by
  go_enter Tryd.func40, Tryd.ntmps40
  go_wp2_with fail
  go_ret
  exact ⟨rfl, by exact (by repeat (first | exact Below.refl _ _ | assumption | refine Below.setCell ?_ (by first | (simp; done) | (simp; omega) | omega) _ | refine below_drewN ?_ _ | refine Below.drew ?_ | refine Below.alloc ?_ (by first | (simp; done) | (simp; omega) | omega) _))⟩
set_option maxRecDepth 100000 in
set_option maxHeartbeats 1000000 in
theorem texts_15 (a : Int) (A : Option Addr) (m c : Nat) (w : World) : Calls Tryd.prog 40 #[.agg #[.int .i64 15, .int .i64 a, .string ⟨#[]⟩, .int .i64 0, .slice A m c]] w fun e w' => e = .returned (.bool true) ∧ Below w.heap.size w w' := by
  go_enter Tryd.func40, Tryd.ntmps40
  go_wp2_with fail
  go_ret
  exact ⟨rfl, by exact (by repeat (first | exact Below.refl _ _ | assumption | refine Below.setCell ?_ (by first | (simp; done) | (simp; omega) | omega) _ | refine below_drewN ?_ _ | refine Below.drew ?_ | refine Below.alloc ?_ (by first | (simp; done) | (simp; omega) | omega) _))⟩
set_option maxRecDepth 100000 in
set_option maxHeartbeats 1000000 in
theorem texts_16 (a : Int) (A : Option Addr) (m c : Nat) (w : World) : Calls Tryd.prog 40 #[.agg #[.int .i64 16, .int .i64 a, .string ⟨#[]⟩, .int .i64 0, .slice A m c]] w fun e w' => e = .returned (.bool true) ∧ Below w.heap.size w w' := by
  go_enter Tryd.func40, Tryd.ntmps40
  go_wp2_with fail
  go_ret
  exact ⟨rfl, by exact (by repeat (first | exact Below.refl _ _ | assumption | refine Below.setCell ?_ (by first | (simp; done) | (simp; omega) | omega) _ | refine below_drewN ?_ _ | refine Below.drew ?_ | refine Below.alloc ?_ (by first | (simp; done) | (simp; omega) | omega) _))⟩
set_option maxRecDepth 100000 in
set_option maxHeartbeats 1000000 in
theorem texts_17 (a : Int) (A : Option Addr) (m c : Nat) (w : World) : Calls Tryd.prog 40 #[.agg #[.int .i64 17, .int .i64 a, .string ⟨#[]⟩, .int .i64 0, .slice A m c]] w fun e w' => e = .returned (.bool true) ∧ Below w.heap.size w w' := by
  go_enter Tryd.func40, Tryd.ntmps40
  go_wp2_with fail
  go_ret
  exact ⟨rfl, by exact (by repeat (first | exact Below.refl _ _ | assumption | refine Below.setCell ?_ (by first | (simp; done) | (simp; omega) | omega) _ | refine below_drewN ?_ _ | refine Below.drew ?_ | refine Below.alloc ?_ (by first | (simp; done) | (simp; omega) | omega) _))⟩
set_option maxRecDepth 100000 in
set_option maxHeartbeats 1000000 in
theorem texts_19 (a : Int) (A : Option Addr) (m c : Nat) (w : World) : Calls Tryd.prog 40 #[.agg #[.int .i64 19, .int .i64 a, .string ⟨#[]⟩, .int .i64 0, .slice A m c]] w fun e w' => e = .returned (.bool true) ∧ Below w.heap.size w w' := by
  go_enter Tryd.func40, Tryd.ntmps40
  go_wp2_with fail
  go_ret
  exact ⟨rfl, by exact (by repeat (first | exact Below.refl _ _ | assumption | refine Below.setCell ?_ (by first | (simp; done) | (simp; omega) | omega) _ | refine below_drewN ?_ _ | refine Below.drew ?_ | refine Below.alloc ?_ (by first | (simp; done) | (simp; omega) | omega) _))⟩
set_option maxRecDepth 100000 in
set_option maxHeartbeats 1000000 in
theorem texts_20 (a : Int) (A : Option Addr) (m c : Nat) (w : World) : Calls Tryd.prog 40 #[.agg #[.int .i64 20, .int .i64 a, .string ⟨#[]⟩, .int .i64 0, .slice A m c]] w fun e w' => e = .returned (.bool true) ∧ Below w.heap.size w w' := by
  go_enter Tryd.func40, Tryd.ntmps40
  go_wp2_with fail
  go_ret
  exact ⟨rfl, by exact (by repeat (first | exact Below.refl _ _ | assumption | refine Below.setCell ?_ (by first | (simp; done) | (simp; omega) | omega) _ | refine below_drewN ?_ _ | refine Below.drew ?_ | refine Below.alloc ?_ (by first | (simp; done) | (simp; omega) | omega) _))⟩
set_option maxRecDepth 100000 in
set_option maxHeartbeats 1000000 in
theorem texts_21 (a : Int) (A : Option Addr) (m c : Nat) (w : World) : Calls Tryd.prog 40 #[.agg #[.int .i64 21, .int .i64 a, .string ⟨#[]⟩, .int .i64 0, .slice A m c]] w fun e w' => e = .returned (.bool true) ∧ Below w.heap.size w w' := by
  go_enter Tryd.func40, Tryd.ntmps40
  go_wp2_with fail
  go_ret
  exact ⟨rfl, by exact (by repeat (first | exact Below.refl _ _ | assumption | refine Below.setCell ?_ (by first | (simp; done) | (simp; omega) | omega) _ | refine below_drewN ?_ _ | refine Below.drew ?_ | refine Below.alloc ?_ (by first | (simp; done) | (simp; omega) | omega) _))⟩
set_option maxRecDepth 100000 in
set_option maxHeartbeats 1000000 in
theorem texts_42 (a : Int) (A : Option Addr) (m c : Nat) (w : World) : Calls Tryd.prog 40 #[.agg #[.int .i64 42, .int .i64 a, .string ⟨#[]⟩, .int .i64 0, .slice A m c]] w fun e w' => e = .returned (.bool true) ∧ Below w.heap.size w w' := by
  go_enter Tryd.func40, Tryd.ntmps40
  go_wp2_with fail
  go_ret
  exact ⟨rfl, by exact (by repeat (first | exact Below.refl _ _ | assumption | refine Below.setCell ?_ (by first | (simp; done) | (simp; omega) | omega) _ | refine below_drewN ?_ _ | refine Below.drew ?_ | refine Below.alloc ?_ (by first | (simp; done) | (simp; omega) | omega) _))⟩
set_option maxRecDepth 100000 in
set_option maxHeartbeats 1000000 in
theorem texts_40 (a : Int) (A : Option Addr) (m c : Nat) (w : World) : Calls Tryd.prog 40 #[.agg #[.int .i64 40, .int .i64 a, .string ⟨#[]⟩, .int .i64 0, .slice A m c]] w fun e w' => e = .returned (.bool true) ∧ Below w.heap.size w w' := by
  go_enter Tryd.func40, Tryd.ntmps40
  go_wp2_with fail
  go_ret
  exact ⟨rfl, by exact (by repeat (first | exact Below.refl _ _ | assumption | refine Below.setCell ?_ (by first | (simp; done) | (simp; omega) | omega) _ | refine below_drewN ?_ _ | refine Below.drew ?_ | refine Below.alloc ?_ (by first | (simp; done) | (simp; omega) | omega) _))⟩
set_option maxRecDepth 100000 in
set_option maxHeartbeats 1000000 in
theorem texts_4 (a : Int) (A : Option Addr) (m c : Nat) (n : Int) (hn : 0 ≤ n) (w : World) : Calls Tryd.prog 40 #[.agg #[.int .i64 4, .int .i64 a, .string ⟨#[]⟩, .int .i64 n, .slice A m c]] w fun e w' => e = .returned (.bool true) ∧ Below w.heap.size w w' := by
  by_cases h0 : n = 0
  · subst h0
    go_enter Tryd.func40, Tryd.ntmps40
    go_wp2_with fail
    go_ret
    exact ⟨rfl, by exact (by repeat (first | exact Below.refl _ _ | assumption | refine Below.setCell ?_ (by first | (simp; done) | (simp; omega) | omega) _ | refine below_drewN ?_ _ | refine Below.drew ?_ | refine Below.alloc ?_ (by first | (simp; done) | (simp; omega) | omega) _))⟩
  have h1 : (n != 0) = true := by simp [h0]
  have h2 : decide (n < 0) = false := decide_eq_false (by omega)
  go_enter Tryd.func40, Tryd.ntmps40
  go_wp2_with fail
  go_ret
  exact ⟨rfl, by exact (by repeat (first | exact Below.refl _ _ | assumption | refine Below.setCell ?_ (by first | (simp; done) | (simp; omega) | omega) _ | refine below_drewN ?_ _ | refine Below.drew ?_ | refine Below.alloc ?_ (by first | (simp; done) | (simp; omega) | omega) _))⟩
set_option maxRecDepth 100000 in
set_option maxHeartbeats 1000000 in
theorem texts_5 (a : Int) (A : Option Addr) (m c : Nat) (s : ByteArray) (hs : s.size ≤ 65536) (w : World) : Calls Tryd.prog 40 #[.agg #[.int .i64 5, .int .i64 a, .string s, .int .i64 0, .slice A m c]] w fun e w' => e = .returned (.bool true) ∧ Below w.heap.size w w' := by
  have hd : decide ((s.size : Int) ≤ 65536) = true := decide_eq_true (by omega)
  go_enter Tryd.func40, Tryd.ntmps40
  go_wp2_with fail
  go_ret
  exact ⟨rfl, by exact (by repeat (first | exact Below.refl _ _ | assumption | refine Below.setCell ?_ (by first | (simp; done) | (simp; omega) | omega) _ | refine below_drewN ?_ _ | refine Below.drew ?_ | refine Below.alloc ?_ (by first | (simp; done) | (simp; omega) | omega) _))⟩
set_option maxRecDepth 100000 in
set_option maxHeartbeats 1000000 in
theorem texts_6 (a : Int) (A : Option Addr) (m c : Nat) (s : ByteArray) (hs : s.size ≤ 65536) (hn : nameB s = true) (w : World) : Calls Tryd.prog 40 #[.agg #[.int .i64 6, .int .i64 a, .string s, .int .i64 0, .slice A m c]] w fun e w' => e = .returned (.bool true) ∧ Below w.heap.size w w' := by
  go_enter Tryd.func40, Tryd.ntmps40
  go_wp2_with (go_at_call 58; go_must (refine (name3_yes s (Nat.le_trans hs (by decide)) hn _).mono ?_); rintro e w1 ⟨rfl, hb⟩; have HB := Lib.hid (Below.trans (show Below w.heap.size w _ from (by repeat (first | exact Below.refl _ _ | assumption | refine Below.setCell ?_ (by first | (simp; done) | (simp; omega) | omega) _ | refine below_drewN ?_ _ | refine Below.drew ?_ | refine Below.alloc ?_ (by first | (simp; done) | (simp; omega) | omega) _))) (below_low hb (by simp; omega))); clear hb)
  go_ret
  exact ⟨rfl, HB.out⟩
set_option maxRecDepth 100000 in
set_option maxHeartbeats 1000000 in
theorem texts_18 (a : Int) (A : Option Addr) (m c : Nat) (s : ByteArray) (hs : s.size ≤ 65536) (hn : nameB s = true) (w : World) : Calls Tryd.prog 40 #[.agg #[.int .i64 18, .int .i64 a, .string s, .int .i64 0, .slice A m c]] w fun e w' => e = .returned (.bool true) ∧ Below w.heap.size w w' := by
  go_enter Tryd.func40, Tryd.ntmps40
  go_wp2_with (go_at_call 58; go_must (refine (name3_yes s (Nat.le_trans hs (by decide)) hn _).mono ?_); rintro e w1 ⟨rfl, hb⟩; have HB := Lib.hid (Below.trans (show Below w.heap.size w _ from (by repeat (first | exact Below.refl _ _ | assumption | refine Below.setCell ?_ (by first | (simp; done) | (simp; omega) | omega) _ | refine below_drewN ?_ _ | refine Below.drew ?_ | refine Below.alloc ?_ (by first | (simp; done) | (simp; omega) | omega) _))) (below_low hb (by simp; omega))); clear hb)
  go_ret
  exact ⟨rfl, HB.out⟩
set_option maxRecDepth 100000 in
set_option maxHeartbeats 1000000 in
theorem texts_22 (a : Int) (A : Option Addr) (m c : Nat) (s : ByteArray) (hs : s.size ≤ 65536) (hn : nameB s = true) (w : World) : Calls Tryd.prog 40 #[.agg #[.int .i64 22, .int .i64 a, .string s, .int .i64 0, .slice A m c]] w fun e w' => e = .returned (.bool true) ∧ Below w.heap.size w w' := by
  go_enter Tryd.func40, Tryd.ntmps40
  go_wp2_with (go_at_call 58; go_must (refine (name3_yes s (Nat.le_trans hs (by decide)) hn _).mono ?_); rintro e w1 ⟨rfl, hb⟩; have HB := Lib.hid (Below.trans (show Below w.heap.size w _ from (by repeat (first | exact Below.refl _ _ | assumption | refine Below.setCell ?_ (by first | (simp; done) | (simp; omega) | omega) _ | refine below_drewN ?_ _ | refine Below.drew ?_ | refine Below.alloc ?_ (by first | (simp; done) | (simp; omega) | omega) _))) (below_low hb (by simp; omega))); clear hb)
  go_ret
  exact ⟨rfl, HB.out⟩
set_option maxRecDepth 100000 in
set_option maxHeartbeats 1000000 in
theorem texts_12 (a : Int) (A : Option Addr) (m c : Nat) (s : ByteArray) (hs : s ∈ binaries) (w : World) : Calls Tryd.prog 40 #[.agg #[.int .i64 12, .int .i64 a, .string s, .int .i64 0, .slice A m c]] w fun e w' => e = .returned (.bool true) ∧ Below w.heap.size w w' := by
  have HS : Hid ((binaries.any fun k => decide (k = s)) = true) := Lib.hid (List.any_eq_true.2 ⟨s, hs, by simp⟩)
  clear hs
  go_enter Tryd.func40, Tryd.ntmps40
  go_wp2_with (go_at_call 59; go_must (refine (among_any s (K := binaries) (Rd.bel (Rd.strG binaries _ 6 (by simp only [World.size_alloc]) rfl rfl (by omega)) (Below.alloc (Below.refl _ _) (Nat.le_refl _) _)) rfl).mono ?_); rintro e w1 ⟨rfl, rfl⟩; rw [HS.out])
  go_ret
  exact ⟨rfl, by exact (by repeat (first | exact Below.refl _ _ | assumption | refine Below.setCell ?_ (by first | (simp; done) | (simp; omega) | omega) _ | refine below_drewN ?_ _ | refine Below.drew ?_ | refine Below.alloc ?_ (by first | (simp; done) | (simp; omega) | omega) _))⟩
set_option maxRecDepth 100000 in
set_option maxHeartbeats 1000000 in
theorem texts_13 (a : Int) (A : Option Addr) (m c : Nat) (s : ByteArray) (hs : s ∈ comparers) (w : World) : Calls Tryd.prog 40 #[.agg #[.int .i64 13, .int .i64 a, .string s, .int .i64 0, .slice A m c]] w fun e w' => e = .returned (.bool true) ∧ Below w.heap.size w w' := by
  have HS : Hid ((comparers.any fun k => decide (k = s)) = true) := Lib.hid (List.any_eq_true.2 ⟨s, hs, by simp⟩)
  clear hs
  go_enter Tryd.func40, Tryd.ntmps40
  go_wp2_with (go_at_call 59; go_must (refine (among_any s (K := comparers) (Rd.strG comparers _ 10 (by simp only [World.size_alloc]) rfl rfl (by omega)) rfl).mono ?_); rintro e w1 ⟨rfl, rfl⟩; rw [HS.out])
  go_ret
  exact ⟨rfl, by exact (by repeat (first | exact Below.refl _ _ | assumption | refine Below.setCell ?_ (by first | (simp; done) | (simp; omega) | omega) _ | refine below_drewN ?_ _ | refine Below.drew ?_ | refine Below.alloc ?_ (by first | (simp; done) | (simp; omega) | omega) _))⟩
end Go.Proofs.YtjdcicopjipmnaaDoor
