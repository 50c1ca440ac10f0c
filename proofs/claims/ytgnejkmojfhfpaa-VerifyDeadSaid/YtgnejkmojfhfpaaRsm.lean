/- The reference's small functions: in, named, counted, Jumps, Big, Same. -/
import Derived.Test.YtgnejkmojfhfpaaPrg
import Derived.Deep.QuietTactic
import Derived.BigQuiet
namespace Go.Proofs.Ytgnejkmojfhfpaa
open Go.RowKit
set_option linter.unusedVariables false
set_option linter.unusedSimpArgs false

def inB (a b : Int) : Bool := decide (0 ≤ a ∧ a < b)
theorem in_any (a b : Int) (w : World) : Calls Try.prog 26 #[.int .i64 a, .int .i64 b] w fun e w' => e = .returned (.bool (inB a b)) ∧ w = w' := by
  by_cases h0 : 0 ≤ a
  · have d0 : decide (0 ≤ a) = true := decide_eq_true h0
    by_cases h1 : a < b
    · have d1 : decide (a < b) = true := decide_eq_true h1
      rw [show inB a b = true from decide_eq_true ⟨h0, h1⟩]
      clear h0 h1
      go_enter Try.func26, Try.ntmps26
      go_wp2_with fail
      go_ret
      exact ⟨rfl, rfl⟩
    · have d1 : decide (a < b) = false := decide_eq_false h1
      rw [show inB a b = false from decide_eq_false (by omega)]
      clear h0 h1
      go_enter Try.func26, Try.ntmps26
      go_wp2_with fail
      go_ret
      exact ⟨rfl, rfl⟩
  · have d0 : decide (0 ≤ a) = false := decide_eq_false h0
    rw [show inB a b = false from decide_eq_false (by omega)]
    clear h0
    go_enter Try.func26, Try.ntmps26
    go_wp2_with fail
    go_ret
    exact ⟨rfl, rfl⟩
def namedB (op : Int) : Bool := decide ((12 ≤ op ∧ op ≤ 19) ∨ (25 ≤ op ∧ op ≤ 27) ∨ op = 35 ∨ op = 55 ∨ op = 56)
theorem named_any (op : Int) (w : World) : Calls Try.prog 56 #[.int .i64 op] w fun e w' => e = .returned (.bool (namedB op)) ∧ w = w' := by
  rcases (by omega : op ≤ 11 ∨ (12 ≤ op ∧ op ≤ 19) ∨ (20 ≤ op ∧ op ≤ 24) ∨ (25 ≤ op ∧ op ≤ 27) ∨ (28 ≤ op ∧ op ≤ 34) ∨ op = 35 ∨ (36 ≤ op ∧ op ≤ 54) ∨ op = 55 ∨ op = 56 ∨ 57 ≤ op) with h | h | h | h | h | rfl | h | rfl | rfl | h
  · have f0 : decide ((12 : Int) ≤ op) = false := decide_eq_false (by omega)
    have f1 : decide (op ≤ (19 : Int)) = true := decide_eq_true (by omega)
    have f2 : decide ((25 : Int) ≤ op) = false := decide_eq_false (by omega)
    have f3 : decide (op ≤ (27 : Int)) = true := decide_eq_true (by omega)
    have f4 : (op == (35 : Int)) = false := by simp; omega
    have f5 : (op == (55 : Int)) = false := by simp; omega
    have f6 : (op == (56 : Int)) = false := by simp; omega
    rw [show namedB op = false from decide_eq_false (by omega)]
    clear h
    go_enter Try.func56, Try.ntmps56
    go_wp2_with fail
    go_ret
    exact ⟨rfl, rfl⟩
  · have f0 : decide ((12 : Int) ≤ op) = true := decide_eq_true (by omega)
    have f1 : decide (op ≤ (19 : Int)) = true := decide_eq_true (by omega)
    have f2 : decide ((25 : Int) ≤ op) = false := decide_eq_false (by omega)
    have f3 : decide (op ≤ (27 : Int)) = true := decide_eq_true (by omega)
    have f4 : (op == (35 : Int)) = false := by simp; omega
    have f5 : (op == (55 : Int)) = false := by simp; omega
    have f6 : (op == (56 : Int)) = false := by simp; omega
    rw [show namedB op = true from decide_eq_true (by omega)]
    clear h
    go_enter Try.func56, Try.ntmps56
    go_wp2_with fail
    go_ret
    exact ⟨rfl, rfl⟩
  · have f0 : decide ((12 : Int) ≤ op) = true := decide_eq_true (by omega)
    have f1 : decide (op ≤ (19 : Int)) = false := decide_eq_false (by omega)
    have f2 : decide ((25 : Int) ≤ op) = false := decide_eq_false (by omega)
    have f3 : decide (op ≤ (27 : Int)) = true := decide_eq_true (by omega)
    have f4 : (op == (35 : Int)) = false := by simp; omega
    have f5 : (op == (55 : Int)) = false := by simp; omega
    have f6 : (op == (56 : Int)) = false := by simp; omega
    rw [show namedB op = false from decide_eq_false (by omega)]
    clear h
    go_enter Try.func56, Try.ntmps56
    go_wp2_with fail
    go_ret
    exact ⟨rfl, rfl⟩
  · have f0 : decide ((12 : Int) ≤ op) = true := decide_eq_true (by omega)
    have f1 : decide (op ≤ (19 : Int)) = false := decide_eq_false (by omega)
    have f2 : decide ((25 : Int) ≤ op) = true := decide_eq_true (by omega)
    have f3 : decide (op ≤ (27 : Int)) = true := decide_eq_true (by omega)
    have f4 : (op == (35 : Int)) = false := by simp; omega
    have f5 : (op == (55 : Int)) = false := by simp; omega
    have f6 : (op == (56 : Int)) = false := by simp; omega
    rw [show namedB op = true from decide_eq_true (by omega)]
    clear h
    go_enter Try.func56, Try.ntmps56
    go_wp2_with fail
    go_ret
    exact ⟨rfl, rfl⟩
  · have f0 : decide ((12 : Int) ≤ op) = true := decide_eq_true (by omega)
    have f1 : decide (op ≤ (19 : Int)) = false := decide_eq_false (by omega)
    have f2 : decide ((25 : Int) ≤ op) = true := decide_eq_true (by omega)
    have f3 : decide (op ≤ (27 : Int)) = false := decide_eq_false (by omega)
    have f4 : (op == (35 : Int)) = false := by simp; omega
    have f5 : (op == (55 : Int)) = false := by simp; omega
    have f6 : (op == (56 : Int)) = false := by simp; omega
    rw [show namedB op = false from decide_eq_false (by omega)]
    clear h
    go_enter Try.func56, Try.ntmps56
    go_wp2_with fail
    go_ret
    exact ⟨rfl, rfl⟩
  · rw [show namedB 35 = true from decide_eq_true (by omega)]
    go_enter Try.func56, Try.ntmps56
    go_wp2_with fail
    go_ret
    exact ⟨rfl, rfl⟩
  · have f0 : decide ((12 : Int) ≤ op) = true := decide_eq_true (by omega)
    have f1 : decide (op ≤ (19 : Int)) = false := decide_eq_false (by omega)
    have f2 : decide ((25 : Int) ≤ op) = true := decide_eq_true (by omega)
    have f3 : decide (op ≤ (27 : Int)) = false := decide_eq_false (by omega)
    have f4 : (op == (35 : Int)) = false := by simp; omega
    have f5 : (op == (55 : Int)) = false := by simp; omega
    have f6 : (op == (56 : Int)) = false := by simp; omega
    rw [show namedB op = false from decide_eq_false (by omega)]
    clear h
    go_enter Try.func56, Try.ntmps56
    go_wp2_with fail
    go_ret
    exact ⟨rfl, rfl⟩
  · rw [show namedB 55 = true from decide_eq_true (by omega)]
    go_enter Try.func56, Try.ntmps56
    go_wp2_with fail
    go_ret
    exact ⟨rfl, rfl⟩
  · rw [show namedB 56 = true from decide_eq_true (by omega)]
    go_enter Try.func56, Try.ntmps56
    go_wp2_with fail
    go_ret
    exact ⟨rfl, rfl⟩
  · have f0 : decide ((12 : Int) ≤ op) = true := decide_eq_true (by omega)
    have f1 : decide (op ≤ (19 : Int)) = false := decide_eq_false (by omega)
    have f2 : decide ((25 : Int) ≤ op) = true := decide_eq_true (by omega)
    have f3 : decide (op ≤ (27 : Int)) = false := decide_eq_false (by omega)
    have f4 : (op == (35 : Int)) = false := by simp; omega
    have f5 : (op == (55 : Int)) = false := by simp; omega
    have f6 : (op == (56 : Int)) = false := by simp; omega
    rw [show namedB op = false from decide_eq_false (by omega)]
    clear h
    go_enter Try.func56, Try.ntmps56
    go_wp2_with fail
    go_ret
    exact ⟨rfl, rfl⟩
def countedB (op : Int) : Bool := decide ((22 ≤ op ∧ op ≤ 24) ∨ op = 32 ∨ (43 ≤ op ∧ op ≤ 45))
theorem counted_any (op : Int) (w : World) : Calls Try.prog 57 #[.int .i64 op] w fun e w' => e = .returned (.bool (countedB op)) ∧ w = w' := by
  rcases (by omega : op ≤ 21 ∨ (22 ≤ op ∧ op ≤ 24) ∨ (25 ≤ op ∧ op ≤ 31) ∨ op = 32 ∨ (33 ≤ op ∧ op ≤ 42) ∨ (43 ≤ op ∧ op ≤ 45) ∨ 46 ≤ op) with h | h | h | rfl | h | h | h
  · have f0 : decide ((22 : Int) ≤ op) = false := decide_eq_false (by omega)
    have f1 : decide (op ≤ (24 : Int)) = true := decide_eq_true (by omega)
    have f2 : (op == (32 : Int)) = false := by simp; omega
    have f3 : decide ((43 : Int) ≤ op) = false := decide_eq_false (by omega)
    have f4 : decide (op ≤ (45 : Int)) = true := decide_eq_true (by omega)
    rw [show countedB op = false from decide_eq_false (by omega)]
    clear h
    go_enter Try.func57, Try.ntmps57
    go_wp2_with fail
    go_ret
    exact ⟨rfl, rfl⟩
  · have f0 : decide ((22 : Int) ≤ op) = true := decide_eq_true (by omega)
    have f1 : decide (op ≤ (24 : Int)) = true := decide_eq_true (by omega)
    have f2 : (op == (32 : Int)) = false := by simp; omega
    have f3 : decide ((43 : Int) ≤ op) = false := decide_eq_false (by omega)
    have f4 : decide (op ≤ (45 : Int)) = true := decide_eq_true (by omega)
    rw [show countedB op = true from decide_eq_true (by omega)]
    clear h
    go_enter Try.func57, Try.ntmps57
    go_wp2_with fail
    go_ret
    exact ⟨rfl, rfl⟩
  · have f0 : decide ((22 : Int) ≤ op) = true := decide_eq_true (by omega)
    have f1 : decide (op ≤ (24 : Int)) = false := decide_eq_false (by omega)
    have f2 : (op == (32 : Int)) = false := by simp; omega
    have f3 : decide ((43 : Int) ≤ op) = false := decide_eq_false (by omega)
    have f4 : decide (op ≤ (45 : Int)) = true := decide_eq_true (by omega)
    rw [show countedB op = false from decide_eq_false (by omega)]
    clear h
    go_enter Try.func57, Try.ntmps57
    go_wp2_with fail
    go_ret
    exact ⟨rfl, rfl⟩
  · rw [show countedB 32 = true from decide_eq_true (by omega)]
    go_enter Try.func57, Try.ntmps57
    go_wp2_with fail
    go_ret
    exact ⟨rfl, rfl⟩
  · have f0 : decide ((22 : Int) ≤ op) = true := decide_eq_true (by omega)
    have f1 : decide (op ≤ (24 : Int)) = false := decide_eq_false (by omega)
    have f2 : (op == (32 : Int)) = false := by simp; omega
    have f3 : decide ((43 : Int) ≤ op) = false := decide_eq_false (by omega)
    have f4 : decide (op ≤ (45 : Int)) = true := decide_eq_true (by omega)
    rw [show countedB op = false from decide_eq_false (by omega)]
    clear h
    go_enter Try.func57, Try.ntmps57
    go_wp2_with fail
    go_ret
    exact ⟨rfl, rfl⟩
  · have f0 : decide ((22 : Int) ≤ op) = true := decide_eq_true (by omega)
    have f1 : decide (op ≤ (24 : Int)) = false := decide_eq_false (by omega)
    have f2 : (op == (32 : Int)) = false := by simp; omega
    have f3 : decide ((43 : Int) ≤ op) = true := decide_eq_true (by omega)
    have f4 : decide (op ≤ (45 : Int)) = true := decide_eq_true (by omega)
    rw [show countedB op = true from decide_eq_true (by omega)]
    clear h
    go_enter Try.func57, Try.ntmps57
    go_wp2_with fail
    go_ret
    exact ⟨rfl, rfl⟩
  · have f0 : decide ((22 : Int) ≤ op) = true := decide_eq_true (by omega)
    have f1 : decide (op ≤ (24 : Int)) = false := decide_eq_false (by omega)
    have f2 : (op == (32 : Int)) = false := by simp; omega
    have f3 : decide ((43 : Int) ≤ op) = true := decide_eq_true (by omega)
    have f4 : decide (op ≤ (45 : Int)) = false := decide_eq_false (by omega)
    rw [show countedB op = false from decide_eq_false (by omega)]
    clear h
    go_enter Try.func57, Try.ntmps57
    go_wp2_with fail
    go_ret
    exact ⟨rfl, rfl⟩
def rjumpsB (op : Int) : Bool := decide ((36 ≤ op ∧ op ≤ 40) ∨ op = 42 ∨ op = 47)
theorem rjumps_any (op : Int) (w : World) : Calls Try.prog 58 #[.int .i64 op] w fun e w' => e = .returned (.bool (rjumpsB op)) ∧ w = w' := by
  rcases (by omega : op ≤ 35 ∨ (36 ≤ op ∧ op ≤ 40) ∨ op = 41 ∨ op = 42 ∨ (43 ≤ op ∧ op ≤ 46) ∨ op = 47 ∨ 48 ≤ op) with h | h | rfl | rfl | h | rfl | h
  · have f0 : decide ((36 : Int) ≤ op) = false := decide_eq_false (by omega)
    have f1 : decide (op ≤ (40 : Int)) = true := decide_eq_true (by omega)
    have f2 : (op == (42 : Int)) = false := by simp; omega
    have f3 : (op == (47 : Int)) = false := by simp; omega
    rw [show rjumpsB op = false from decide_eq_false (by omega)]
    clear h
    go_enter Try.func58, Try.ntmps58
    go_wp2_with fail
    go_ret
    exact ⟨rfl, rfl⟩
  · have f0 : decide ((36 : Int) ≤ op) = true := decide_eq_true (by omega)
    have f1 : decide (op ≤ (40 : Int)) = true := decide_eq_true (by omega)
    have f2 : (op == (42 : Int)) = false := by simp; omega
    have f3 : (op == (47 : Int)) = false := by simp; omega
    rw [show rjumpsB op = true from decide_eq_true (by omega)]
    clear h
    go_enter Try.func58, Try.ntmps58
    go_wp2_with fail
    go_ret
    exact ⟨rfl, rfl⟩
  · rw [show rjumpsB 41 = false from decide_eq_false (by omega)]
    go_enter Try.func58, Try.ntmps58
    go_wp2_with fail
    go_ret
    exact ⟨rfl, rfl⟩
  · rw [show rjumpsB 42 = true from decide_eq_true (by omega)]
    go_enter Try.func58, Try.ntmps58
    go_wp2_with fail
    go_ret
    exact ⟨rfl, rfl⟩
  · have f0 : decide ((36 : Int) ≤ op) = true := decide_eq_true (by omega)
    have f1 : decide (op ≤ (40 : Int)) = false := decide_eq_false (by omega)
    have f2 : (op == (42 : Int)) = false := by simp; omega
    have f3 : (op == (47 : Int)) = false := by simp; omega
    rw [show rjumpsB op = false from decide_eq_false (by omega)]
    clear h
    go_enter Try.func58, Try.ntmps58
    go_wp2_with fail
    go_ret
    exact ⟨rfl, rfl⟩
  · rw [show rjumpsB 47 = true from decide_eq_true (by omega)]
    go_enter Try.func58, Try.ntmps58
    go_wp2_with fail
    go_ret
    exact ⟨rfl, rfl⟩
  · have f0 : decide ((36 : Int) ≤ op) = true := decide_eq_true (by omega)
    have f1 : decide (op ≤ (40 : Int)) = false := decide_eq_false (by omega)
    have f2 : (op == (42 : Int)) = false := by simp; omega
    have f3 : (op == (47 : Int)) = false := by simp; omega
    rw [show rjumpsB op = false from decide_eq_false (by omega)]
    clear h
    go_enter Try.func58, Try.ntmps58
    go_wp2_with fail
    go_ret
    exact ⟨rfl, rfl⟩
theorem rjumps_eq (op : Int) : rjumpsB op = jumpsB op := rfl
/-- is a code too much? -/
def tooB (c : CodeD) : Bool := decide (600 < c.ins.length) || decide (5000 < c.consts.length)
def bigB (p : ProgD) : Bool := decide (60 < p.length) || p.any tooB
theorem any_take {α : Type} {f : α → Bool} {l : List α} {k : Nat} {x : α} (hx : l[k]? = some x) (h : (l.take k).any f = false) : (l.take (k + 1)).any f = f x := by
  rw [List.take_add_one, hx]
  simp [h]
set_option maxRecDepth 100000 in
set_option maxHeartbeats 1000000 in
theorem big_any {w : World} {A : Option Addr} {n c : Nat} {p : ProgD} (h : ProgAt w A n c p) : Calls Try.prog 10 #[.slice A n c] w fun e w' => e = .returned (.bool (bigB p)) ∧ w = w' := by
  have hl := h.len
  have hm := h.most
  unfold Most at hm
  have H := Lib.hid h
  have HL := Lib.hid hl
  clear h
  by_cases hn : 60 < n
  · have HB : Hid (bigB p = true) := Lib.hid (by unfold bigB; rw [hl, decide_eq_true hn]; rfl)
    have d1 : decide (60 < n) = true := decide_eq_true hn
    have d2 : decide ((60 : Int) < (n : Int)) = true := decide_eq_true (by omega)
    have d3 : decide (n ≤ 60) = false := decide_eq_false (by omega)
    have d4 : decide ((n : Int) ≤ 60) = false := decide_eq_false (by omega)
    have d5 : 0 < n := by omega
    clear hl
    go_enter Try.func10, Try.ntmps10
    go_wp2_with fail
    go_loop [3] (fun i => i = .int .i64 0) (fun i => 0)
    case atStart => rfl
    case round =>
      subst hrel
      go_wp2_with fail
      go_ret
      exact ⟨ret_bool HB.out.symm, rfl⟩
  · have d1 : decide (60 < n) = false := decide_eq_false hn
    have d2 : decide ((60 : Int) < (n : Int)) = false := decide_eq_false (by omega)
    have d3 : decide (n ≤ 60) = true := decide_eq_true (by omega)
    have d4 : decide ((n : Int) ≤ 60) = true := decide_eq_true (by omega)
    have d5 : n ≤ 60 := by omega
    have HN : Hid (bigB p = p.any tooB) := Lib.hid (by unfold bigB; rw [hl, decide_eq_false hn]; rfl)
    clear hl hn
    go_enter Try.func10, Try.ntmps10
    go_wp2_with fail
    go_loop [3] (fun i => ∃ k : Nat, k ≤ n ∧ i = .int .i64 k ∧ Hid ((p.take k).any tooB = false)) (fun i => n - (intOf i).toNat)
    case atStart => exact ⟨0, by omega, rfl, Lib.hid rfl⟩
    case round =>
      obtain ⟨k, hk, rfl, H0⟩ := hrel
      by_cases hlt : k < n
      · obtain ⟨x, hx⟩ : ∃ x, p[k]? = some x := ⟨_, List.getElem?_eq_getElem (by rw [HL.out]; exact hlt)⟩
        have HX := Lib.hid (any_take hx H0.out)
        have HT : Hid (tooB x = true → p.any tooB = true) := Lib.hid fun ht => List.any_eq_true.2 ⟨x, List.mem_of_getElem? hx, ht⟩
        obtain ⟨b, o, cs, rfl, hb, hc, hce⟩ := H.out.at_ hx
        obtain ⟨A1, n1, c1, A2, n2, c2, A3, n3, c3, A4, n4, c4, A5, n5, c5, A6, n6, c6, rfl, r1, r2, r3, r4, r5, r6, m1, m2, m3, m4, m5, m6⟩ := hc.parts
        have e9 : w.cell? ⟨b, o + k * 11 + 9, none⟩ = some (.slice A5 n5 c5) := hce 9 _ rfl
        have e10 : w.cell? ⟨b, o + k * 11 + 10, none⟩ = some (.slice A6 n6 c6) := hce 10 _ rfl
        have HTB : Hid (tooB x = (decide (600 < n6) || decide (5000 < n5))) := Lib.hid (by unfold tooB; rw [r5.1, r6.1])
        unfold Most at m5 m6
        clear hx hc hce r1 r2 r3 r4 r5 r6 m1 m2 m3 m4
        by_cases h6 : 600 < n6
        · have f1 : decide (600 < n6) = true := decide_eq_true h6
          have f2 : decide ((600 : Int) < (n6 : Int)) = true := decide_eq_true (by omega)
          have HF := Lib.hid (HT.out (by rw [HTB.out, f1]; rfl))
          clear h6
          go_wp2_with fail
          go_ret
          exact ⟨ret_bool (by rw [HN.out, HF.out]), rfl⟩
        · have f1 : decide (600 < n6) = false := decide_eq_false h6
          have f2 : decide ((600 : Int) < (n6 : Int)) = false := decide_eq_false (by omega)
          by_cases h5 : 5000 < n5
          · have f3 : decide (5000 < n5) = true := decide_eq_true h5
            have f4 : decide ((5000 : Int) < (n5 : Int)) = true := decide_eq_true (by omega)
            have HF := Lib.hid (HT.out (by rw [HTB.out, f1, f3]; rfl))
            clear h6 h5
            go_wp2_with fail
            go_ret
            exact ⟨ret_bool (by rw [HN.out, HF.out]), rfl⟩
          · have f3 : decide (5000 < n5) = false := decide_eq_false h5
            have f4 : decide ((5000 : Int) < (n5 : Int)) = false := decide_eq_false (by omega)
            have HF := Lib.hid (show (p.take (k + 1)).any tooB = false by rw [HX.out, HTB.out, f1, f3]; rfl)
            clear h6 h5
            go_wp2_with fail
            go_round
            case rel => exact ⟨k + 1, by omega, by go_num, HF⟩
            case measure => simp [intOf]; omega
      · obtain rfl : k = n := by omega
        have HF : Hid (p.any tooB = false) := Lib.hid (by have := H0.out; rwa [List.take_of_length_le (by have := HL.out; omega)] at this)
        go_wp2_with fail
        go_ret
        exact ⟨ret_bool (by rw [HN.out, HF.out]), rfl⟩
def ics (l : List Int) : List Value := l.map (Value.int .i64)
def sameI (a b : List Int) : Bool := decide (a = b)
theorem take_same {xs ys : List Int} {k : Nat} (hx : k < xs.length) (hy : k < ys.length) (h : xs.take k = ys.take k) (e : xs[k] = ys[k]) : xs.take (k + 1) = ys.take (k + 1) := by
  rw [List.take_succ_eq_append_getElem hx, List.take_succ_eq_append_getElem hy, h, e]
set_option maxRecDepth 100000 in
set_option maxHeartbeats 1000000 in
theorem rows_same {w : World} {A B : Option Addr} {n c m d : Nat} {xs ys : List Int} (lA : xs.length = n) (lB : ys.length = m) (hA : Rd w A n c 1 (xs.map (Value.int .i64))) (hB : Rd w B m d 1 (ys.map (Value.int .i64))) :
    Calls Try.prog 14 #[.slice A n c, .slice B m d] w fun e w' => e = .returned (.bool (sameI xs ys)) ∧ Below w.heap.size w w' := by
  have hn := hA.le
  have hm := hB.le
  have HA := Lib.hid hA
  have HB := Lib.hid hB
  clear hA hB
  by_cases hnm : n = m
  · subst hnm
    go_enter Try.func14, Try.ntmps14
    go_wp2_with fail
    go_loopw [5] (fun i wr => ∃ k q : Nat, k ≤ n ∧ i = .int .i64 k ∧ Hid (xs.take k = ys.take k) ∧ wr = w.drewN q) (fun i _ => n - (intOf i).toNat)
    case atStart => exact ⟨0, 0, Nat.zero_le _, rfl, Lib.hid rfl, rfl⟩
    case round =>
      obtain ⟨k, q, hk, rfl, hno, rfl⟩ := hrel
      by_cases hlt : k < n
      · obtain ⟨b, o, rfl, hb, h0⟩ := HA.out.2.2.2 (by omega)
        obtain ⟨b', o', rfl, hb', h0'⟩ := HB.out.2.2.2 (by omega)
        have hx : k < xs.length := by omega
        have hy : k < ys.length := by omega
        have g0 : w.cell? ⟨b, o + k, none⟩ = some (.int .i64 xs[k]) := h0 k _ (by simp)
        have g1 : w.cell? ⟨b', o' + k, none⟩ = some (.int .i64 ys[k]) := h0' k _ (by simp)
        clear h0 h0'
        by_cases e : xs[k] = ys[k]
        · have hb : (xs[k] == ys[k]) = true := by simpa using e
          have hst := Lib.hid (take_same hx hy hno.out e)
          have E := Lib.hid e
          clear e
          go_wp2_with fail
          go_quiet (fail)
          go_wp2_with fail
          go_roundw
          case rel => exact ⟨k + 1, _, by omega, by go_num, hst, rfl⟩
          case measure => simp [intOf]; omega
        · have hb : (xs[k] == ys[k]) = false := by simpa using e
          have HF : Hid (sameI xs ys = false) := by
            show sameI xs ys = false
            simp only [sameI, decide_eq_false_iff_not]
            rintro rfl
            exact e rfl
          have E := Lib.hid e
          clear e
          go_wp2_with fail
          go_quiet (fail)
          go_wp2_with fail
          go_ret
          exact ⟨ret_bool HF.out.symm, (by repeat (first | exact Below.refl _ _ | assumption | refine Below.setCell ?_ (by first | (simp; done) | (simp; omega) | omega) _ | refine below_drewN ?_ _ | refine Below.drew ?_ | refine Below.alloc ?_ (by first | (simp; done) | (simp; omega) | omega) _))⟩
      · have HF : Hid (sameI xs ys = true) := by
          have := hno.out
          rw [List.take_of_length_le (by omega), List.take_of_length_le (by omega)] at this
          show sameI xs ys = true
          simpa [sameI] using this
        go_wp2_with fail
        go_ret
        exact ⟨ret_bool HF.out.symm, (by repeat (first | exact Below.refl _ _ | assumption | refine Below.setCell ?_ (by first | (simp; done) | (simp; omega) | omega) _ | refine below_drewN ?_ _ | refine Below.drew ?_ | refine Below.alloc ?_ (by first | (simp; done) | (simp; omega) | omega) _))⟩
  · have HF : Hid (sameI xs ys = false) := by
      show sameI xs ys = false
      simp only [sameI, decide_eq_false_iff_not]
      rintro rfl
      exact hnm (by omega)
    have hd : decide ((n : Int) = (m : Int)) = false := by simp; omega
    go_enter Try.func14, Try.ntmps14
    go_wp2_with fail
    go_ret
    exact ⟨ret_bool HF.out.symm, (by repeat (first | exact Below.refl _ _ | assumption | refine Below.setCell ?_ (by first | (simp; done) | (simp; omega) | omega) _ | refine below_drewN ?_ _ | refine Below.drew ?_ | refine Below.alloc ?_ (by first | (simp; done) | (simp; omega) | omega) _))⟩
end Go.Proofs.Ytgnejkmojfhfpaa
