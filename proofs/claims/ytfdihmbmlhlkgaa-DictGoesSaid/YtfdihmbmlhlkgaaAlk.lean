/- '==' on pairs; row; alike. -/
import Derived.Test.YtfdihmbmlhlkgaaCal
import Derived.Deep.QuietTactic
namespace Go.Proofs.Ytfdihmbmlhlkgaa
open Go.RowKit

def sameP (p q : V × V) : Bool := V.same p.1 q.1 && V.same p.2 q.2
theorem sameP_iff {p q : V × V} : sameP p q = true ↔ p = q := by
  obtain ⟨a, b⟩ := p
  obtain ⟨c, d⟩ := q
  simp [sameP, V.same_iff]
theorem sameP_self (p : V × V) : sameP p p = true := sameP_iff.2 rfl
theorem sameP_not {p q : V × V} : sameP p q = false ↔ p ≠ q := by
  rw [← Bool.not_eq_true, sameP_iff]
theorem stoodP : Try.prog.stoodInHeld 42 = false := by kernel_rfl
theorem guardP (w : World) (op : BinOp) (x y : Operand) (xs ys : Array Value) : (eqGuard op 42 x y (.agg xs) (.agg ys)).run Try.prog w = .ok () w :=
  run_eqGuard_agg w op 42 x y xs ys (by kernel_rfl)
theorem neqP (w : World) (k n k' n' l m l' m' : Int) (s s' t t' : ByteArray) : (binOp .neq 42 (.agg #[.int .i64 k, .int .i64 n, .string s, .int .i64 l, .int .i64 m, .string t]) (.agg #[.int .i64 k', .int .i64 n', .string s', .int .i64 l', .int .i64 m', .string t'])).run Try.prog w = .ok (.bool (!sameP (⟨k, n, s⟩, ⟨l, m, t⟩) (⟨k', n', s'⟩, ⟨l', m', t'⟩))) w := by
  rw [run_neq_struct, run_equalIn_agg w 9999 42 _ _ (by kernel_rfl) stoodP]
  simp [Op.eqFields, go_sem, Program.fieldsOf, Try.underlying42, Try.underlying24, toList_inj, sameP, V.same]
  by_cases h1 : k = k' <;> by_cases h2 : n = n' <;> by_cases h3 : s = s' <;> by_cases h4 : l = l' <;> by_cases h5 : m = m' <;> by_cases h6 : t = t' <;> simp [h1, h2, h3, h4, h5, h6]

attribute [local go_sem high] guardV eqV neqV guardP neqP
attribute [local go_sem] V.v
theorem ownV_rdV {w : World} {v : Value} {n : Nat} {xs : List V} (hn : xs.length = n) (h : Own w 24 3 v n (vcs xs)) : ∃ A c, v = .slice A n c ∧ RdV w A n c xs := by
  obtain ⟨A, c, e, h1, _⟩ := Own.rd h
  exact ⟨A, c, e, hn, h1⟩

set_option maxRecDepth 100000 in
set_option maxHeartbeats 1000000 in
theorem row_yes (A B : Option Addr) (n c d : Nat) (xs : List V) (w : World) (ha : RdV w A n c xs) (hb : RdV w B n d xs) :
    Calls Try.prog 17 #[.slice A n c, .slice B n d] w fun e w' => e = .returned (.bool true) ∧ ∃ q, w' = w.drewN q := by
  have hn := ha.le
  have HA := Lib.hid ha
  have HB := Lib.hid hb
  clear ha hb
  go_enter Try.func17, Try.ntmps17
  go_wp2_with fail
  go_loopw [5] (fun i wr => ∃ k q : Nat, k ≤ n ∧ i = .int .i64 k ∧ wr = w.drewN q) (fun i _ => n - (intOf i).toNat)
  case atStart => exact ⟨0, 0, Nat.zero_le _, rfl, rfl⟩
  case round =>
    obtain ⟨k, q, hk, rfl, rfl⟩ := hrel
    by_cases hlt : k < n
    · have hx : k < xs.length := by rw [HA.out.1]; exact hlt
      obtain ⟨b, o, rfl, hb, x0, x1, x2⟩ := HA.out.at_ hlt
      obtain ⟨b', o', rfl, hb', y0, y1, y2⟩ := HB.out.at_ hlt
      generalize xs[k]'_ = x at *
      have hs : V.same ⟨x.k, x.n, x.s⟩ ⟨x.k, x.n, x.s⟩ = true := by simp [V.same]
      go_wp2
      go_quiet (fail)
      go_wp2
      go_roundw
      case rel => exact ⟨k + 1, _, by omega, by go_num, rfl⟩
      case measure => simp [intOf]; omega
    · go_wp2
      go_ret
      exact ⟨rfl, q, rfl⟩

set_option maxRecDepth 100000 in
set_option maxHeartbeats 2000000 in
theorem alike_yes {w : World} {S S' : Nat → Prop} {g y : Nat} {L : List (V × V)} (h : IsDict w S g L) (hy : IsRef w S' y L) :
    Calls Try.prog 25 #[.pointer (some ⟨g, 0, none⟩), .pointer (some ⟨y, 0, none⟩)] w fun e w' => e = .returned (.bool true) ∧ Below w.heap.size w w' := by
  have hll := h.facts.2.2
  go_enter Try.func25, Try.ntmps25
  go_wp2_with fail
  refine (pairs_any h).mono ?_
  rintro e w1 ⟨v1, rfl, n1⟩
  have h1 := h.new n1.bel
  have y1 := hy.new n1.bel
  obtain ⟨A1, c1, rfl, -, -⟩ := Own.rd n1.own
  go_wp2_with fail
  refine (keys_any h1).mono ?_
  rintro e w2 ⟨v2, rfl, n2⟩
  have h2 := h1.new n2.bel
  have y2 := y1.new n2.bel
  have o1 := Own.new n1.own n2.bel
  obtain ⟨A2, c2, rfl, r2⟩ := ownV_rdV (by rw [List.length_map]) n2.own
  have hbw : Below w.heap.size w w2 := n1.bel.trans (n2.bel.mono n1.bel.size)
  obtain ⟨v, yb, yo, -⟩ := y2
  obtain ⟨A, c, rfl, -, -⟩ := Own.rd yo
  have cy := yb.cell 0
  simp only [List.getElem?_toArray, List.getElem?_cons_zero] at cy
  have hyl := yb.lt
  have H2 := Lib.hid h2
  have HP := Lib.hid o1
  have HK := Lib.hid r2
  have HY := Lib.hid yo
  have HBW := Lib.hid hbw
  have HYB := Lib.hid cy
  clear h hy n1 h1 y1 n2 h2 o1 r2 yb yo hbw
  go_wp2_with fail
  go_quiet ((go_at_call 23; exact Calls.quiet_of_same (len_any (H2.out.new (by exact (by repeat (first | exact Below.refl _ _ | assumption | refine Below.setCell ?_ (by first | (simp; done) | (simp; omega) | omega) _ | refine below_drewN ?_ _ | refine Below.drew ?_ | refine Below.alloc ?_ (by first | (simp; done) | (simp; omega) | omega) _)))))))
  go_wp2_with fail
  clear cy
  go_loopw [7] (fun i wr => ∃ k q : Nat, k ≤ L.length ∧ i = .int .i64 k ∧ wr = w2.drewN q) (fun i _ => L.length - (intOf i).toNat)
  case atStart => exact ⟨0, nq, Nat.zero_le _, rfl, rfl⟩
  case round =>
    obtain ⟨k, q, hk, rfl, rfl⟩ := hrel
    by_cases hlt : k < L.length
    · obtain ⟨p, hp⟩ : ∃ p, L[k]? = some p := ⟨L[k], List.getElem?_eq_getElem _⟩
      obtain ⟨b1, e1, q1, hb1, hc1⟩ := ownP_at HP.out hp
      obtain ⟨b2, e2, q2, hb2, hc2⟩ := ownP_at HY.out hp
      simp only [Value.slice.injEq, true_and] at q1 q2
      obtain ⟨rfl, rfl⟩ := q1
      obtain ⟨rfl, rfl⟩ := q2
      obtain ⟨b3, o3, rfl, hb3, x0, x1, x2⟩ := HK.out.at_ hlt
      have hx : (L.map Prod.fst)[k]'(by rw [List.length_map]; exact hlt) = p.1 := by
        rw [List.getElem_map]
        obtain ⟨_, h⟩ := List.getElem?_eq_some_iff.1 hp
        rw [h]
      rw [hx] at x0 x1 x2
      obtain ⟨⟨k1, n1, s1⟩, ⟨k2, n2, s2⟩⟩ := p
      have y0 := hc1 0 (.int .i64 k1) rfl
      have y1 := hc1 1 (.int .i64 n1) rfl
      have y2 := hc1 2 (.string s1) rfl
      have y3 := hc1 3 (.int .i64 k2) rfl
      have y4 := hc1 4 (.int .i64 n2) rfl
      have y5 := hc1 5 (.string s2) rfl
      have z0 := hc2 0 (.int .i64 k1) rfl
      have z1 := hc2 1 (.int .i64 n1) rfl
      have z2 := hc2 2 (.string s1) rfl
      have z3 := hc2 3 (.int .i64 k2) rfl
      have z4 := hc2 4 (.int .i64 n2) rfl
      have z5 := hc2 5 (.string s2) rfl
      simp only [Nat.add_zero] at y0 z0
      have cy := HYB.out
      have hs : sameP (⟨k1, n1, s1⟩, ⟨k2, n2, s2⟩) (⟨k1, n1, s1⟩, ⟨k2, n2, s2⟩) = true := sameP_self _
      have hv : V.same ⟨k1, n1, s1⟩ ⟨k1, n1, s1⟩ = true := by simp [V.same]
      have hi0 : (0 : Int) ≤ (k : Int) := by omega
      have hi1 : (k : Int) < (L.length : Int) := by omega
      clear hc1 hc2 hp hx
      go_wp2
      go_quiet (fail)
      go_wp2
      go_roundw
      case rel => exact ⟨k + 1, _, by omega, by go_num, rfl⟩
      case measure => simp [intOf]; omega
    · go_wp2
      go_ret
      exact ⟨rfl, below_drewN HBW.out q⟩
end Go.Proofs.Ytfdihmbmlhlkgaa
