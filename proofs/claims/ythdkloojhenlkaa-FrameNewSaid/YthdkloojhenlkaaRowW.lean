/- Row, row, first, num: the statements' own helpers on rows of values. -/
import Derived.Test.YthdkloojhenlkaaFrC
namespace Go.Proofs.Ythdkloojhenlkaa
open Go.RowKit
attribute [local go_sem high] guardV eqV neqV
attribute [local go_sem] V.v

def rowSame (xs ys : List V) : Bool := decide (xs = ys)
theorem rowSame_iff {xs ys : List V} : rowSame xs ys = true ↔ xs = ys := by simp [rowSame]
theorem rowSame_self (xs : List V) : rowSame xs xs = true := by simp [rowSame]

set_option maxHeartbeats 400000 in
theorem row_same (A B : Option Addr) (n m c d : Nat) (xs ys : List V) (w : World) (hA : RdV w A n c xs) (hB : RdV w B m d ys) :
    Calls Try.prog 24 #[.slice A n c, .slice B m d] w fun e w' => e = .returned (.bool (rowSame xs ys)) ∧ ∃ q, w' = w.drewN q := by
  have hn : n ≤ 9223372036854775807 := hA.le
  have hm : m ≤ 9223372036854775807 := hB.le
  by_cases hnm : n = m
  · obtain rfl := hnm
    go_enter Try.func24, Try.ntmps24
    go_wp2
    go_loopw [5] (fun i wr => ∃ k : Nat, k ≤ n ∧ i = .int .i64 k ∧ (∃ q, wr = w.drewN q) ∧ Hid (xs.take k = ys.take k)) (fun i _ => n - (intOf i).toNat)
    case atStart => exact ⟨0, Nat.zero_le _, rfl, ⟨0, rfl⟩, rfl⟩
    case round =>
      obtain ⟨k, hk, rfl, ⟨q, rfl⟩, heq⟩ := hrel
      by_cases hlt : k < n
      · obtain ⟨b, o, rfl, hb, h0, h1, h2⟩ := hA.at_ hlt
        obtain ⟨b', o', rfl, hb', h0', h1', h2'⟩ := hB.at_ hlt
        go_wp2
        go_quiet (fail)
        go_wp2
        · rename_i h
          have hne : xs[k]'(by rw [hA.1]; exact hlt) ≠ ys[k]'(by rw [hB.1]; exact hlt) := V.same_not.1 (by simpa using h)
          go_ret
          refine ⟨ret_bool ?_, q + nq, by rw [World.drewN_drewN]⟩
          symm
          simpa [rowSame] using fun e => hne (by subst e; rfl)
        · rename_i h
          have hne : xs[k]'(by rw [hA.1]; exact hlt) = ys[k]'(by rw [hB.1]; exact hlt) := V.same_iff.1 (by simpa using h)
          go_roundw
          case rel => exact ⟨k + 1, by omega, by go_num, ⟨q + nq, by first | rfl | rw [World.drewN_drewN]⟩, take_snoc_eq _ _ heq.out hne⟩
          case measure => simp [intOf]; omega
      · go_wp2
        go_ret
        have e1 := heq.out
        rw [List.take_of_length_le (by rw [hA.1]; omega), List.take_of_length_le (by rw [hB.1]; omega)] at e1
        exact ⟨ret_bool (rowSame_iff.2 e1).symm, _, rfl⟩
  · go_enter Try.func24, Try.ntmps24
    go_wp2
    go_ret
    refine ⟨ret_bool ?_, 0, rfl⟩
    symm
    simpa [rowSame] using fun e => hnm (by rw [← hA.1, ← hB.1, e])

/-- a value with a text of 8 bytes at most -/
def V.cut8 (x : V) : V := ⟨x.k, x.n, x.s.extract 0 (min x.s.size 8)⟩
def cutRow (xs : List V) : List V := (xs.take 12).map V.cut8
theorem cutRow_length (xs : List V) : (cutRow xs).length ≤ 12 := by simp [cutRow]; omega
theorem num_any (n : Int) (w : World) :
    Calls Try.prog 25 #[.int .i64 n] w fun e w' => e = .returned (V.mk 2 n ⟨#[]⟩).v ∧ Below w.heap.size w w' := by
  go_enter Try.func25, Try.ntmps25
  go_wp2
  exact bodyPost_ret (v := (V.mk 2 n ⟨#[]⟩).v) (by simp [results, Try.results25, go_sem]) rfl ⟨rfl, (by repeat (first | exact Below.refl _ _ | assumption | refine Below.setCell ?_ (by first | (simp; done) | (simp; omega) | omega) _ | refine below_drewN ?_ _ | refine Below.drew ?_ | refine Below.alloc ?_ (by first | (simp; done) | (simp; omega) | omega) _))⟩

theorem first_any (A : Option Addr) (n c : Nat) (xs : List V) (w : World) (hA : RdV w A n c xs) :
    Calls Try.prog 34 #[.slice A n c] w fun e w' => e = .returned ((xs.head?.getD V.zero).v) ∧ Below w.heap.size w w' := by
  have hn := hA.le
  cases xs with
  | nil =>
    obtain rfl : 0 = n := hA.1
    go_enter Try.func34, Try.ntmps34
    go_wp2
    exact bodyPost_ret (v := V.zero.v) (by simp [results, Try.results34, go_sem, V.zero]) rfl ⟨rfl, (by repeat (first | exact Below.refl _ _ | assumption | refine Below.setCell ?_ (by first | (simp; done) | (simp; omega) | omega) _ | refine below_drewN ?_ _ | refine Below.drew ?_ | refine Below.alloc ?_ (by first | (simp; done) | (simp; omega) | omega) _))⟩
  | cons x xs =>
    have h0 : 0 < n := by rw [← hA.1]; simp
    obtain ⟨b, o, rfl, hb, q0, q1, q2⟩ := hA.at_ h0
    simp only [List.getElem_cons_zero, Nat.zero_mul, Nat.add_zero] at q0 q1 q2
    have hne : ((n : Int) == 0) = false := by rw [beq_eq_false_iff_ne]; omega
    simp only [List.head?_cons, Option.getD_some]
    clear hA
    go_enter Try.func34, Try.ntmps34
    go_wp2
    exact bodyPost_ret (v := x.v) (by simp [results, Try.results34, go_sem]) rfl ⟨rfl, (by repeat (first | exact Below.refl _ _ | assumption | refine Below.setCell ?_ (by first | (simp; done) | (simp; omega) | omega) _ | refine below_drewN ?_ _ | refine Below.drew ?_ | refine Below.alloc ?_ (by first | (simp; done) | (simp; omega) | omega) _))⟩

theorem one_rdV (w : World) (x : V) : RdV (w.alloc (.cells #[.int .i64 x.k, .int .i64 x.n, .string x.s] 44)) (some ⟨w.heap.size, 0, none⟩) 1 1 [x] := by
  obtain ⟨A, c, e, hr, _⟩ := Own.rd (Own.made (t := 44) (sz := 3) w #[.int .i64 x.k, .int .i64 x.n, .string x.s] 1 (by omega) rfl)
  injection e with e1 e2 e3
  subst e1 e3
  exact ⟨rfl, hr⟩

theorem cutRow_snoc (xs : List V) (k : Nat) (h : k < xs.length) (h12 : k < 12) : cutRow (xs.take k) ++ [(xs[k]).cut8] = cutRow (xs.take (k + 1)) := by
  unfold cutRow
  rw [List.take_take, List.take_take, Nat.min_eq_right (by omega), Nat.min_eq_right (by omega), List.take_succ_eq_append_getElem h, List.map_append]
  rfl

set_option maxRecDepth 100000 in
set_option maxHeartbeats 400000 in
theorem row_any (A : Option Addr) (n c : Nat) (xs : List V) (w : World) (hA : RdV w A n c xs) :
    Calls Try.prog 14 #[.slice A n c] w fun e w' => ∃ v, e = .returned v ∧ OwnV w' v (cutRow xs) ∧ (∀ b, v.ownBlock = some b → w.heap.size ≤ b) ∧ Below w.heap.size w w' := by
  have hn := hA.le
  go_enter Try.func14, Try.ntmps14
  go_wp2
  go_loopw [3, 4] (fun v i wr => ∃ k : Nat, k ≤ n ∧ k ≤ 12 ∧ i = .int .i64 k ∧ OwnV wr v (cutRow (xs.take k)) ∧ (∀ b, v.ownBlock = some b → w.heap.size ≤ b) ∧ Below w.heap.size w wr) (fun _ i _ => n - (intOf i).toNat)
  case atStart => exact ⟨0, Nat.zero_le _, Nat.zero_le _, rfl, empty_own w, fun b e => (by simp [Value.ownBlock] at e; omega), (by repeat (first | exact Below.refl _ _ | assumption | refine Below.setCell ?_ (by first | (simp; done) | (simp; omega) | omega) _ | refine below_drewN ?_ _ | refine Below.drew ?_ | refine Below.alloc ?_ (by first | (simp; done) | (simp; omega) | omega) _))⟩
  case round =>
    obtain ⟨k, hk, hk12, rfl, hv, hvn, hb⟩ := hrel
    by_cases hlt : k < n ∧ k < 12
    · obtain ⟨hlt, h12⟩ := hlt
      obtain ⟨b, o, rfl, hbb, h0, h1, h2⟩ := hA.at_ hlt
      have hcut : cutRow (xs.take k) ++ [(xs[k]'(by rw [hA.1]; exact hlt)).cut8] = cutRow (xs.take (k + 1)) := cutRow_snoc xs k (by rw [hA.1]; exact hlt) h12
      have hcl : (cutRow (xs.take k)).length ≤ 12 := cutRow_length _
      generalize cutRow (xs.take k) = l at *
      generalize xs[k]'(by rw [hA.1]; exact hlt) = x at *
      have HC := Lib.hid hcut
      have q0 := (hb.cell (p := ⟨b, o + k * 3, none⟩) hbb).trans h0
      have q1 := (hb.cell (p := ⟨b, o + k * 3 + 1, none⟩) hbb).trans h1
      have q2 := (hb.cell (p := ⟨b, o + k * 3 + 2, none⟩) hbb).trans h2
      have hbw : b < wr.heap.size := by have := hb.size; omega
      have HB := Lib.hid hb
      have Hvn := Lib.hid hvn
      clear hcut h0 h1 h2 hb hvn
      by_cases h8 : 8 < x.s.size
      · have HE : Hid (x.cut8 = (V.mk x.k x.n (x.s.extract 0 8))) := (by unfold V.cut8; rw [Nat.min_eq_right (by omega)]; rfl)
        have hone : RdV ((wr.alloc (.cells #[.int .i64 x.k, .int .i64 x.n, .string (x.s.extract 0 8)] 44)).alloc (.cells #[.int .i64 x.k, .int .i64 x.n, .string (x.s.extract 0 8)] 44)) (some ⟨wr.heap.size + 1, 0, none⟩) 1 1 [(V.mk x.k x.n (x.s.extract 0 8))] := by
          have := one_rdV (wr.alloc (.cells #[.int .i64 x.k, .int .i64 x.n, .string (x.s.extract 0 8)] 44)) (V.mk x.k x.n (x.s.extract 0 8))
          simpa using this
        have HB2 := Lib.hid (show Below w.heap.size w ((wr.alloc (.cells #[.int .i64 x.k, .int .i64 x.n, .string (x.s.extract 0 8)] 44)).alloc (.cells #[.int .i64 x.k, .int .i64 x.n, .string (x.s.extract 0 8)] 44)) from (HB.out.alloc HB.out.size _).alloc (by have := HB.out.size; simp; omega) _)
        have hv2 : OwnV ((wr.alloc (.cells #[.int .i64 x.k, .int .i64 x.n, .string (x.s.extract 0 8)] 44)).alloc (.cells #[.int .i64 x.k, .int .i64 x.n, .string (x.s.extract 0 8)] 44)) u3 l := Own.new hv (((Below.refl _ _).alloc (Nat.le_refl _) _).alloc (by simp) _)
        go_wp2_with (at_builtin; refine wpList_appendV _ rfl _ _ rfl u3 l rfl hv2 (some ⟨wr.heap.size + 1, 0, none⟩) 1 1 [(V.mk x.k x.n (x.s.extract 0 8))] rfl hone (by omega) ?_; intro v' w1 hv' hg hb; have Hv' := Lib.hid hv'; have Hg := Lib.hid hg; have Hb := Lib.hid hb; clear hv' hg hb)
        go_roundw
        case rel =>
          refine ⟨k + 1, by omega, by omega, by go_num, by rw [← HC.out, HE.out]; exact Hv'.out, fun b e => ?_, HB2.out.grown Hg.out HB2.out.size Hvn.out⟩
          rcases Hb.out with e' | e' <;> rw [e'] at e
          · exact Hvn.out b e
          · have := HB.out.size
            simp at e
            omega
        case measure => simp [intOf]; omega
      · have HE : Hid (x.cut8 = (V.mk x.k x.n x.s)) := (by unfold V.cut8; rw [Nat.min_eq_left (by omega)]; simp [Hid])
        have hone : RdV ((wr.alloc (.cells #[.int .i64 x.k, .int .i64 x.n, .string x.s] 44)).alloc (.cells #[.int .i64 x.k, .int .i64 x.n, .string x.s] 44)) (some ⟨wr.heap.size + 1, 0, none⟩) 1 1 [(V.mk x.k x.n x.s)] := by
          have := one_rdV (wr.alloc (.cells #[.int .i64 x.k, .int .i64 x.n, .string x.s] 44)) (V.mk x.k x.n x.s)
          simpa using this
        have HB2 := Lib.hid (show Below w.heap.size w ((wr.alloc (.cells #[.int .i64 x.k, .int .i64 x.n, .string x.s] 44)).alloc (.cells #[.int .i64 x.k, .int .i64 x.n, .string x.s] 44)) from (HB.out.alloc HB.out.size _).alloc (by have := HB.out.size; simp; omega) _)
        have hv2 : OwnV ((wr.alloc (.cells #[.int .i64 x.k, .int .i64 x.n, .string x.s] 44)).alloc (.cells #[.int .i64 x.k, .int .i64 x.n, .string x.s] 44)) u3 l := Own.new hv (((Below.refl _ _).alloc (Nat.le_refl _) _).alloc (by simp) _)
        go_wp2_with (at_builtin; refine wpList_appendV _ rfl _ _ rfl u3 l rfl hv2 (some ⟨wr.heap.size + 1, 0, none⟩) 1 1 [(V.mk x.k x.n x.s)] rfl hone (by omega) ?_; intro v' w1 hv' hg hb; have Hv' := Lib.hid hv'; have Hg := Lib.hid hg; have Hb := Lib.hid hb; clear hv' hg hb)
        go_roundw
        case rel =>
          refine ⟨k + 1, by omega, by omega, by go_num, by rw [← HC.out, HE.out]; exact Hv'.out, fun b e => ?_, HB2.out.grown Hg.out HB2.out.size Hvn.out⟩
          rcases Hb.out with e' | e' <;> rw [e'] at e
          · exact Hvn.out b e
          · have := HB.out.size
            simp at e
            omega
        case measure => simp [intOf]; omega
    · have hkn : k = n ∨ k = 12 := by omega
      have HK := Lib.hid hkn
      clear hkn
      have HV := Lib.hid hv
      have HB := Lib.hid hb
      have Hvn := Lib.hid hvn
      clear hv hb hvn
      have fin : ∃ v, Ending.returned u3 = .returned v ∧ OwnV wr v (cutRow xs) ∧ (∀ b, v.ownBlock = some b → w.heap.size ≤ b) ∧ Below w.heap.size w wr := by
        have e : cutRow (xs.take k) = cutRow xs := by
          rcases HK.out with rfl | rfl
          · rw [List.take_of_length_le (by rw [hA.1]; omega)]
          · unfold cutRow
            rw [List.take_take, Nat.min_self]
        exact ⟨u3, rfl, by rw [← e]; exact HV.out, Hvn.out, HB.out⟩
      have Fin := Lib.hid fin
      clear fin
      by_cases hlt1 : k < n
      · have h12 : ¬ k < 12 := by omega
        go_wp2
        go_ret
        exact Fin.out
      · go_wp2
        go_ret
        exact Fin.out
end Go.Proofs.Ythdkloojhenlkaa
