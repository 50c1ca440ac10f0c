/- root: the last node of a tree. -/
import Derived.Test.YtjdcicopjipmnaaDoorItr
import Derived.Test.YtjdcicopjipmnaaDoorRop
namespace Go.Proofs.YtjdcicopjipmnaaDoor
open Go.RowKit
set_option linter.unusedVariables false
set_option linter.unusedSimpArgs false
set_option maxRecDepth 100000 in
set_option maxHeartbeats 4000000 in
theorem root_any {w : World} {A : Option Addr} {m c : Nat} {T : List NodeD} {op a n : Int} {s : ByteArray} {ks : List Int} (hT : RowN (fun _ => False) w (.slice A m c) T) (hm : T.length = m) (h0 : 0 < m) (hn : T[T.length - 1]? = some ⟨op, a, s, n, ks⟩) :
    Calls Tryd.prog 28 #[.slice A m c] w fun e w' => ∃ A1 c1, e = .returned (.agg #[.int .i64 op, .int .i64 a, .string s, .int .i64 n, .slice A1 ks.length c1]) ∧ Below w.heap.size w w' := by
  have hbig : m ≤ 9223372036854775807 := by
    obtain ⟨A', c', e, hr⟩ := hT.rdT
    have := hr.le
    omega
  rw [hm] at hn
  obtain ⟨b, o, A1, c1, rfl, hb, u0, u1, u2, u3, u4, -⟩ := hT.nth hn
  have hw : IntKind.i64.wrap ((m : Int) - 1) = ((m - 1 : Nat) : Int) := by rw [IntWalk.i64_in _ (by omega)]; omega
  have hl : m - 1 < m := by omega
  have hne : ((m : Int) == 0) = false := by rw [beq_eq_false_iff_ne]; omega
  have hne2 : ¬ m = 0 := by omega
  clear hT hn hm
  go_enter Tryd.func28, Tryd.ntmps28
  go_wp2_with fail
  have b0 : Blk (w.alloc (.cells #[.int .i64 op, .int .i64 a, .string s, .int .i64 n, .slice A1 ks.length c1] 51)) w.heap.size 51 #[.int .i64 op, .int .i64 a, .string s, .int .i64 n, .slice A1 ks.length c1] := Blk.new _ _ _
  have hbw : Below w.heap.size w (w.alloc (.cells #[.int .i64 op, .int .i64 a, .string s, .int .i64 n, .slice A1 ks.length c1] 51)) := (by repeat (first | exact Below.refl _ _ | assumption | refine Below.setCell ?_ (by first | (simp; done) | (simp; omega) | omega) _ | refine below_drewN ?_ _ | refine Below.drew ?_ | refine Below.alloc ?_ (by first | (simp; done) | (simp; omega) | omega) _))
  have k0 := b0.cell 0
  have k1 := b0.cell 1
  have k2 := b0.cell 2
  have k3 := b0.cell 3
  have k4 := b0.cell 4
  simp only [List.getElem?_toArray, List.getElem?_cons_zero, List.getElem?_cons_succ] at k0 k1 k2 k3 k4
  generalize w.alloc (.cells #[.int .i64 op, .int .i64 a, .string s, .int .i64 n, .slice A1 ks.length c1] 51) = W at *
  exact bodyPost_ret (v := .agg #[.int .i64 op, .int .i64 a, .string s, .int .i64 n, .slice A1 ks.length c1]) (by first | (simp [results, Tryd.results28, go_sem, k0, k1, k2, k3, k4]; done) | (simp [results, Tryd.results28, go_sem, k0, k1, k2, k3, k4]; rfl)) rfl ⟨A1, c1, rfl, hbw⟩
theorem Hold.cell {B g i : Nat} {w : World} {cs : Array Value} {u : Value} {l : List (Value × Item)} (h : Hold B w ((.pointer (some ⟨g, 0, none⟩), .ptr 39 cs) :: l)) (hB : B ≤ w.heap.size) : Hold B (w.setCell ⟨g, i, none⟩ u) ((.pointer (some ⟨g, 0, none⟩), .ptr 39 (cs.setIfInBounds i u)) :: l) :=
  h.turn hB (by simp) fun S hi hS => by
    obtain ⟨g', e, hg, hb⟩ := hi
    cases e
    exact ⟨⟨by simp, fun k hk hn => Below.heap_setCell w ⟨g, i, none⟩ u k fun e => hn (e ▸ ⟨hg, 39, cs, .inl rfl, hb⟩)⟩, g, rfl, ⟨hS g hg, .inr hg⟩, hb.set_ i u⟩
theorem field_op (op a n : Int) (s : ByteArray) (A : Option Addr) (m c : Nat) (w : World) : (Instr.field 51 (.agg #[.int .i64 op, .int .i64 a, .string s, .int .i64 n, .slice A m c]) 0).run Tryd.prog w = .ok (.int .i64 op) w := by kernel_rfl
theorem field_kids (op a n : Int) (s : ByteArray) (A : Option Addr) (m c : Nat) (w : World) : (Instr.field 51 (.agg #[.int .i64 op, .int .i64 a, .string s, .int .i64 n, .slice A m c]) 4).run Tryd.prog w = .ok (.slice A m c) w := by kernel_rfl
end Go.Proofs.YtjdcicopjipmnaaDoor
