/- The reference's small ones: Same, Keeps, tail. -/
import Derived.Test.YtbfjkjkanckcjaaBei
namespace Go.Proofs.Ytbfjkjkanckcjaa
open Go.RowKit

theorem drewN_ex (w : World) (q n : Nat) : ∃ k, (w.drewN q).drewN n = w.drewN k := ⟨q + n, by simp [World.drewN, Nat.add_assoc]⟩
/-- are they the same? (kept shut) -/
def sameI (a b : List Int) : Bool := decide (a = b)
theorem take_same {xs ys : List Int} {k : Nat} (h : k < xs.length) (h' : k < ys.length) (e : xs.take k = ys.take k) (e2 : xs[k] = ys[k]) : xs.take (k + 1) = ys.take (k + 1) := by
  rw [List.take_succ_eq_append_getElem h, List.take_succ_eq_append_getElem h', e, e2]

set_option maxRecDepth 100000 in
set_option maxHeartbeats 400000 in
theorem same_any (A B : Option Addr) (n c m d : Nat) (xs ys : List Int) (w : World) (hA : RdI w A n c xs) (hB : RdI w B m d ys) :
    Calls Try.prog 18 #[.slice A n c, .slice B m d] w fun e w' => e = .returned (.bool (sameI xs ys)) ∧ ∃ q, w' = w.drewN q := by
  have hn := hA.le
  have hm := hB.le
  have lA := hA.1
  have lB := hB.1
  by_cases hnm : n = m
  · subst hnm
    go_enter Try.func18, Try.ntmps18
    go_wp2_with fail
    go_loopw [5] (fun i wr => ∃ k q : Nat, k ≤ n ∧ i = .int .i64 k ∧ Hid (xs.take k = ys.take k) ∧ wr = w.drewN q) (fun i _ => n - (intOf i).toNat)
    case atStart => exact ⟨0, 0, Nat.zero_le _, rfl, rfl, rfl⟩
    case round =>
      obtain ⟨k, q, hk, rfl, hno, rfl⟩ := hrel
      by_cases hlt : k < n
      · obtain ⟨b, o, rfl, hb, h0⟩ := hA.at_ hlt
        obtain ⟨b', o', rfl, hb', h0'⟩ := hB.at_ hlt
        have hx : k < xs.length := by omega
        have hy : k < ys.length := by omega
        by_cases e : xs[k] = ys[k]
        · have hb : (xs[k] == ys[k]) = true := by simpa using e
          have hst := Lib.hid (take_same hx hy hno.out e)
          have E := Lib.hid e
          clear e
          go_wp2
          go_quiet (fail)
          go_wp2
          go_roundw
          case rel => exact ⟨k + 1, _, by omega, by go_num, hst, rfl⟩
          case measure => simp [intOf]; omega
        · have hb : (xs[k] == ys[k]) = false := by simpa using e
          have HF : Hid (sameI xs ys = false) := by
            show sameI xs ys = false
            simp only [sameI, decide_eq_false_iff_not]
            rintro rfl
            exact e rfl
          have E := Lib.hid e
          clear e
          go_wp2
          go_quiet (fail)
          go_wp2
          go_ret
          exact ⟨ret_bool HF.out.symm, drewN_ex w q _⟩
      · have HF : Hid (sameI xs ys = true) := by
          have := hno.out
          rw [List.take_of_length_le (by omega), List.take_of_length_le (by omega)] at this
          show sameI xs ys = true
          simpa [sameI] using this
        go_wp2
        go_ret
        exact ⟨ret_bool HF.out.symm, _, rfl⟩
  · have HF : Hid (sameI xs ys = false) := by
      show sameI xs ys = false
      simp only [sameI, decide_eq_false_iff_not]
      rintro rfl
      exact hnm (by omega)
    have hd : decide ((n : Int) = (m : Int)) = false := by simp; omega
    go_enter Try.func18, Try.ntmps18
    go_wp2_with fail
    go_ret
    exact ⟨ret_bool HF.out.symm, 0, rfl⟩

/-- what is left of a row, where another one was gone through -/
def grd : List Int → List Int → List Int
  | [], row => row
  | _ :: _, [] => []
  | a :: l, b :: t => if a = b then grd l t else grd l (b :: t)
theorem grd_nil : ∀ l : List Int, grd l [] = []
  | [] => rfl
  | _ :: _ => rfl
theorem grd_sub : ∀ (l row : List Int), grd l row = [] ↔ row.Sublist l
  | [], row => by simp [grd]
  | a :: l, [] => by simp [grd]
  | a :: l, b :: t => by
    unfold grd
    by_cases e : a = b
    · subst e
      rw [if_pos rfl, grd_sub l t]
      simp
    · rw [if_neg e, grd_sub l (b :: t)]
      constructor
      · exact fun h => h.cons a
      · intro h
        cases h with
        | cons _ h => exact h
        | cons_cons _ h => exact absurd rfl e
/-- does l keep row? (kept shut) -/
def keepI (l row : List Int) : Bool := decide (row.Sublist l)
theorem keepI_iff {l row : List Int} : keepI l row = true ↔ row.Sublist l := by simp [keepI]
theorem keepI_grd (l row : List Int) : keepI l row = decide (grd l row = []) := by
  unfold keepI
  rw [Bool.eq_iff_iff, decide_eq_true_eq, decide_eq_true_eq, grd_sub]

set_option maxRecDepth 100000 in
set_option maxHeartbeats 400000 in
theorem keeps_any (A B : Option Addr) (n c m d : Nat) (xs ys : List Int) (w : World) (hA : RdI w A n c xs) (hB : RdI w B m d ys) :
    Calls Try.prog 25 #[.slice A n c, .slice B m d] w fun e w' => e = .returned (.bool (keepI xs ys)) ∧ ∃ q, w' = w.drewN q := by
  have hn := hA.le
  have hm := hB.le
  have lA := hA.1
  have lB := hB.1
  go_enter Try.func25, Try.ntmps25
  go_wp2_with fail
  go_loopw [5, 6] (fun t i wr => ∃ k j q : Nat, k ≤ n ∧ j ≤ m ∧ t = .int .i64 j ∧ i = .int .i64 k ∧ Hid (grd (xs.drop k) (ys.drop j) = grd xs ys) ∧ wr = w.drewN q) (fun _ i _ => n - (intOf i).toNat)
  case atStart => exact ⟨0, 0, 0, Nat.zero_le _, Nat.zero_le _, rfl, rfl, rfl, rfl⟩
  case round =>
    obtain ⟨k, j, q, hk, hj, rfl, rfl, hno, rfl⟩ := hrel
    by_cases hlt : k < n
    · by_cases hlj : j < m
      · obtain ⟨b, o, rfl, hb, h0⟩ := hA.at_ hlt
        obtain ⟨b', o', rfl, hb', h0'⟩ := hB.at_ hlj
        have hx : k < xs.length := by omega
        have hy : j < ys.length := by omega
        have hst := hno.out
        rw [List.drop_eq_getElem_cons hx, List.drop_eq_getElem_cons hy, grd] at hst
        by_cases e : xs[k] = ys[j]
        · have hb : (xs[k] == ys[j]) = true := by simpa using e
          rw [if_pos e] at hst
          have HST := Lib.hid hst
          have E := Lib.hid e
          clear e hst
          go_wp2
          go_quiet (fail)
          go_wp2
          go_roundw
          case rel => exact ⟨k + 1, j + 1, _, by omega, by omega, by go_num, by go_num, HST, rfl⟩
          case measure => simp [intOf]; omega
        · have hb : (xs[k] == ys[j]) = false := by simpa using e
          rw [if_neg e, ← List.drop_eq_getElem_cons hy] at hst
          have HST := Lib.hid hst
          have E := Lib.hid e
          clear e hst
          go_wp2
          go_quiet (fail)
          go_wp2
          go_roundw
          case rel => exact ⟨k + 1, j, _, by omega, by omega, rfl, by go_num, HST, rfl⟩
          case measure => simp [intOf]; omega
      · obtain rfl : j = m := by omega
        have HF : Hid (keepI xs ys = true) := by
          show keepI xs ys = true
          have := hno.out
          rw [List.drop_eq_nil_of_le (by omega : ys.length ≤ j), grd_nil] at this
          rw [keepI_grd, ← this]
          rfl
        go_wp2
        go_ret
        exact ⟨ret_bool HF.out.symm, _, rfl⟩
    · obtain rfl : k = n := by omega
      have HF : Hid (keepI xs ys = decide (j = m)) := by
        show keepI xs ys = _
        have := hno.out
        rw [List.drop_eq_nil_of_le (by omega : xs.length ≤ k)] at this
        rw [keepI_grd, ← this]
        simp only [grd, List.drop_eq_nil_iff]
        rw [Bool.eq_iff_iff, decide_eq_true_eq, decide_eq_true_eq]
        omega
      go_wp2
      go_ret
      exact ⟨ret_bool (by rw [HF.out]; rw [Bool.eq_iff_iff, decide_eq_true_eq, beq_iff_eq]; omega), _, rfl⟩

set_option maxRecDepth 100000 in
set_option maxHeartbeats 400000 in
theorem tail_any (A : Option Addr) (n c : Nat) (xs : List Int) (f : Nat) (x : Int) (w : World) (hA : RdI w A n c xs) (hf : f < n) :
    Calls Try.prog 31 #[.slice A n c, .int .i64 f, .int .i64 x] w fun e w' => e = .returned (.bool (hasI (xs.drop (f + 1)) x)) ∧ w' = w := by
  have hn := hA.le
  have lA := hA.1
  go_enter Try.func31, Try.ntmps31
  go_wp2_with fail
  go_loop [7] (fun i => ∃ k : Nat, f + 1 + k ≤ n ∧ i = .int .i64 ((f + 1 + k : Nat) : Int) ∧ Hid (hasI ((xs.drop (f + 1)).take k) x = false)) (fun i => n - (intOf i).toNat)
  case atStart => exact ⟨0, by omega, by go_num, by simp [Hid, hasI]⟩
  case round =>
    obtain ⟨k, hk, rfl, hno⟩ := hrel
    by_cases hlt : f + 1 + k < n
    · obtain ⟨b, o, rfl, hb, h0⟩ := hA.at_ hlt
      have hx : f + 1 + k < xs.length := by omega
      have hx' : k < (xs.drop (f + 1)).length := by simp; omega
      have hg : (xs.drop (f + 1))[k] = xs[f + 1 + k] := by simp
      by_cases e : xs[f + 1 + k] = x
      · have hb : (xs[f + 1 + k] == x) = true := by simpa using e
        have HC : Hid (hasI (xs.drop (f + 1)) x = true) := by
          show hasI _ x = true
          rw [hasI_iff, ← e, ← hg]
          exact List.getElem_mem hx'
        have E := Lib.hid e
        have HG := Lib.hid hg
        clear e hg
        go_wp2
        go_ret
        exact ⟨ret_bool HC.out.symm, rfl⟩
      · have hb : (xs[f + 1 + k] == x) = false := by simpa using e
        have hst := contains_take (x := x) hx'
        rw [hno.out, hg] at hst
        have HST := Lib.hid hst
        have E := Lib.hid e
        clear e hst hg
        go_wp2
        go_round
        case rel => exact ⟨k + 1, by omega, by go_num, by unfold Hid; rw [HST.out]; simpa using Ne.symm E.out⟩
        case measure => simp [intOf]; omega
    · have HF : Hid (hasI (xs.drop (f + 1)) x = false) := by
        have := hno.out
        rw [List.take_of_length_le (by simp; omega)] at this
        exact this
      go_wp2
      go_ret
      exact ⟨ret_bool HF.out.symm, rfl⟩
end Go.Proofs.Ytbfjkjkanckcjaa
