/- heads: an iterator over rows; what a loop over it may do. -/
import Derived.RangeFuncNested
import Derived.RangeFuncBound
import Derived.RangeFuncCalls
import Derived.RangeFuncLeaves
import Derived.RangeFuncBox
import Derived.Shelf.Abstract
import Derived.Shelf.RegionOpen
import Derived.WalkKit
import Derived.OwnWalkIn
import Derived.TacticsInMore
import Derived.LoopNIn
import Derived.LoopIn
import Derived.Test.YtbfjkjkanckcjaaBei
namespace Go.Proofs.Ytbfjkjkanckcjaa
open Go.RowKit Go.Shelf
attribute [local go_sem] Oper.semAt_some

/-- Below n₀ nothing has turned but block e. -/
def KeepsBut (e n₀ : Nat) (W W' : World) : Prop := W.heap.size ≤ W'.heap.size ∧ ∀ i, i < n₀ → i ≠ e → W'.heap[i]? = W.heap[i]?
theorem KeepsBut.refl (e n₀ : Nat) (W : World) : KeepsBut e n₀ W W := ⟨Nat.le_refl _, fun _ _ _ => rfl⟩
theorem KeepsBut.trans {e n₀ : Nat} {A B C : World} (h : KeepsBut e n₀ A B) (k : KeepsBut e n₀ B C) : KeepsBut e n₀ A C := ⟨Nat.le_trans h.1 k.1, fun i hi hne => (k.2 i hi hne).trans (h.2 i hi hne)⟩
theorem keepsBut_b {e n₀ : Nat} {w : World} (hn : n₀ ≤ w.heap.size) : ∀ (W : World) (l : Nat) (o o' : Obj), w.heap.size ≤ l → W.heap[l]? = some o → o.isCells = false → o.isWalk = false → KeepsBut e n₀ W (W.putObj l o') :=
  fun W l o o' hl h1 h2 h3 => by
    have := belowK_b (w := w) hn W l o o' hl h1 h2 h3
    exact ⟨this.size, fun i hi _ => this.block i hi⟩
theorem KeepsBut.of_mod {e n₀ : Nat} {W W' : World} (h : Mod (fun i => i = e) W W') (hn : n₀ ≤ W.heap.size) : KeepsBut e n₀ W W' := ⟨h.size, fun i hi hne => h.block i (by omega) hne⟩
theorem heads_take {rs : List SlI} {k : Nat} (h : k < rs.length) : Lin.heads (nums (rs.take (k + 1))) = Lin.heads (nums (rs.take k)) ++ rs[k].xs.head?.toList := by
  have e := List.take_succ_eq_append_getElem h
  unfold Lin.heads nums
  rw [e, List.map_append, List.filterMap_append]
  cases hh : rs[k].xs with
  | nil => simp [hh]
  | cons => simp [hh]
theorem heads_prefix (rs : List SlI) (k : Nat) : Lin.heads (nums (rs.take k)) <+: Lin.heads (nums rs) := by
  refine ⟨Lin.heads (nums (rs.drop k)), ?_⟩
  unfold Lin.heads nums
  rw [← List.filterMap_append, ← List.map_append, List.take_append_drop]

set_option maxRecDepth 100000 in
set_option maxHeartbeats 2000000 in
theorem heads1_in (F : Fence) (n : Nat) (h35 : F.fn 35) (hro : F.round = none) (hn : 1 ≤ n) (l B e n₀ m c : Nat) (A : Option Addr) (rs : List SlI) (J Jx : List Int → World → Prop)
    (hY : ∀ pre x W, J pre W → pre.length < (Lin.heads (nums rs)).length → YieldAt F (n - 1) Try.prog l #[.int .i64 x] W fun e' W' =>
      (e' = .returned (.bool true) ∧ J (pre ++ [x]) W' ∧ KeepsBut e n₀ W W') ∨ (e' = .returned (.bool false) ∧ Jx (pre ++ [x]) W'))
    (W : World) (hK : ∀ W', KeepsBut e n₀ W W' → W'.cell? ⟨B, 0, none⟩ = some (.slice A m c) ∧ RdR W' A m c rs ∧ AllOk W' rs) (h0 : J [] W) :
    CallsIn F n Try.prog 35 #[.func (.yield l) #[] #[], .pointer (some ⟨B, 0, none⟩)] W fun e W' => (∃ v, e = .returned v) ∧
      ((∃ ys, ys = Lin.heads (nums rs) ∧ J ys W') ∨ (∃ pre, pre <+: Lin.heads (nums rs) ∧ Jx pre W')) := by
  obtain ⟨hB, hR0, _⟩ := hK W (KeepsBut.refl e n₀ W)
  have hm := hR0.le
  have hrl := hR0.1
  have HK := Lib.hid hK
  clear hK hR0
  refine callsIn_of_wp Try.func35 rfl h35 ?_ hro
  simp only [Try.ntmps35, List.size_toArray, List.length_cons, List.length_nil, Nat.reduceAdd, Nat.reduceSub, Array.replicate_succ, Array.replicate_zero, List.push_toArray, List.append_toArray, List.nil_append, List.cons_append]
  gi_wp2
  gi_loopw [7] (fun i wr => ∃ k : Nat, k ≤ m ∧ i = .int .i64 k ∧ J (Lin.heads (nums (rs.take k))) wr ∧ KeepsBut e n₀ W wr) (fun i _ => m - (intOf i).toNat)
  case atStart => exact ⟨0, Nat.zero_le _, rfl, h0, KeepsBut.refl _ _ _⟩
  case round =>
    obtain ⟨k, hk, rfl, hJs, hkb⟩ := hrel
    by_cases hlt : k < m
    · have hkr : k < rs.length := by omega
      obtain ⟨_, hR, hok⟩ := HK.out wr hkb
      obtain ⟨b, o, rfl, hb, hc⟩ := hR.at_ hlt
      have hr := hok rs[k] (List.getElem_mem hkr)
      have hst := heads_take hkr
      have hpf := heads_prefix rs (k + 1)
      generalize rs[k] = r at *
      obtain ⟨Ar, nr, cr, xr⟩ := r
      have hr : RdI wr Ar nr cr xr := hr
      have hc : wr.cell? ⟨b, o + k, none⟩ = some (.slice Ar nr cr) := hc
      have HKB := Lib.hid hkb
      by_cases hz : nr = 0
      · subst hz
        have hx : xr = [] := List.eq_nil_of_length_eq_zero hr.1
        subst hx
        have hst : Lin.heads (nums (rs.take (k + 1))) = Lin.heads (nums (rs.take k)) := by rw [hst]; exact List.append_nil _
        have HST := Lib.hid hst
        clear hr hR hok hst hpf hkb
        gi_wp2
        refine ⟨fun _ h => (by cases h), ?_⟩
        gi_wp2
        go_roundw
        case rel => exact ⟨k + 1, by omega, by go_num, by rw [HST.out]; exact hJs, HKB.out⟩
        case measure => simp [intOf]; omega
      · have hpos : 0 < nr := by omega
        obtain ⟨b2, o2, rfl, hb2, hx0'⟩ := hr.at_ hpos
        obtain ⟨x, t, rfl⟩ : ∃ x t, xr = x :: t := by
          cases xr with
          | nil => have := hr.1; simp at this; omega
          | cons x t => exact ⟨x, t, rfl⟩
        have hx0 : wr.cell? ⟨b2, o2, none⟩ = some (.int .i64 x) := hx0'
        clear hx0'
        have hst : Lin.heads (nums (rs.take (k + 1))) = Lin.heads (nums (rs.take k)) ++ [x] := hst
        have hd : decide (0 < nr) = true := by simpa using hpos
        have hlen : (Lin.heads (nums (rs.take k))).length < (Lin.heads (nums rs)).length := by
          have := hpf.length_le
          rw [hst] at this
          simp at this
          omega
        rw [hst] at hpf
        obtain ⟨fn, tmps, assign, body, hy, hR2⟩ := hY _ x wr hJs hlen
        have HST := Lib.hid hst
        have HPF := Lib.hid hpf
        clear hr hR hok hst hpf hkb hlen
        gi_wp2
        refine hR2.mono ?_
        rintro e' W3 (⟨rfl, hJ3, hk3⟩ | ⟨rfl, hJx3⟩)
        · gi_wp2
          go_roundw
          case rel => exact ⟨k + 1, by omega, by go_num, by rw [HST.out]; exact hJ3, HKB.out.trans hk3⟩
          case measure => simp [intOf]; omega
        · gi_wp2
          refine bodyPost_ret (results_none rfl _ _ _) rfl ?_
          exact ⟨⟨_, rfl⟩, .inr ⟨_, HPF.out, hJx3⟩⟩
    · obtain rfl : k = m := by omega
      have e : rs.take k = rs := List.take_of_length_le (by omega)
      rw [e] at hJs
      clear e
      gi_wp2
      go_end0
      exact ⟨⟨_, rfl⟩, .inl ⟨_, rfl, hJs⟩⟩
end Go.Proofs.Ytbfjkjkanckcjaa
