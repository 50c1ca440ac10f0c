/- slices.Clone of the rows; All's iterator. -/
import Derived.RangeFuncNested
import Derived.RangeFuncBound
import Derived.RangeFuncCalls
import Derived.RangeFuncLeaves
import Derived.RangeFuncBox
import Derived.Shelf.Abstract
import Derived.Shelf.RegionOpen
import Derived.WalkKit
import Derived.OwnWalkIn
import Derived.TacticsInMore
import Derived.LoopNIn
import Derived.LoopIn
import Derived.Test.YtfdihmbmlhlkgaaPun
namespace Go.Proofs.Ytfdihmbmlhlkgaa
open Go.RowKit Go.Shelf
attribute [local go_sem] Oper.semAt_some

/-- v owns a row that was made since w. -/
structure NewO (t : TypeId) (sz : Nat) (w wr : World) (v : Value) (n : Nat) (cs : List Value) : Prop where
  own : Own wr t sz v n cs
  new : ∀ b, v.ownBlock = some b → w.heap.size ≤ b
  bel : Below w.heap.size w wr
section
variable {t : TypeId} {sz n n' : Nat} {w wr w' : World} {v v' : Value} {cs cs' : List Value}
theorem NewO.below (h : NewO t sz w wr v n cs) (hb : Below wr.heap.size wr w') : NewO t sz w w' v n cs := ⟨Own.new h.own hb, h.new, h.bel.trans (hb.mono h.bel.size)⟩
theorem NewO.app (h : NewO t sz w wr v n cs) (ho : Own w' t sz v' n' cs') (hg : wr.grownBy w' v.ownBlock) (ha : v'.ownBlock = v.ownBlock ∨ v'.ownBlock = some wr.heap.size) : NewO t sz w w' v' n' cs' := by
  have hs := h.bel.size
  refine ⟨ho, fun b e => ?_, h.bel.grown hg hs fun k e => h.new k e⟩
  rcases ha with e' | e' <;> rw [e'] at e
  · exact h.new b e
  · injection e with e
    omega
theorem NewO.empty (t : TypeId) (sz : Nat) (w : World) : NewO t sz w (w.alloc (.cells #[] t)) (.slice (some ⟨w.heap.size, 0, none⟩) 0 0) 0 [] :=
  ⟨⟨by simp, .inr ⟨_, 0, #[], rfl, heap_alloc_new w _, Nat.le_refl _, by omega, by simp, by simp⟩⟩, fun b e => by simp [Value.ownBlock] at e; omega, (by repeat (first | exact Below.refl _ _ | assumption | refine Below.setCell ?_ (by first | (simp; done) | (simp; omega) | omega) _ | refine below_drewN ?_ _ | refine Below.drew ?_ | refine Below.alloc ?_ (by first | (simp; done) | (simp; omega) | omega) _))⟩
theorem NewO.nil_ (t : TypeId) (sz : Nat) (w : World) : NewO t sz w w (.slice none 0 0) 0 [] := ⟨Own.nil_ _ _ _, fun b e => (by cases e), Below.refl _ _⟩
end
theorem grown_none {w w' : World} (h : Below w.heap.size w w') : w.grownBy w' none := ⟨h.os, h.tape, h.output, h.size, fun k hk _ => h.block k hk⟩

set_option maxHeartbeats 400000 in
theorem cloneR_any (v : Value) (rs : List Row) (w : World) (ho : Own w 73 7 v rs.length (rcs rs)) (hn : rs.length ≤ 100000) :
    Calls Try.prog 37 #[v] w fun e w' => ∃ v', e = .returned v' ∧ NewO 73 7 w w' v' rs.length (rcs rs) := by
  obtain ⟨A, c, rfl, hr, -⟩ := Own.rd ho
  have hq := fun (W : World) (a : Option Addr) (l k : Nat) => Lib.run_eql_slice_nil (P := Try.prog) W 69 73 a l k 0 0 Try.underlying69
  obtain ⟨i0, hi, hz0, hz1, hz2⟩ := info_parts info_R
  cases A with
  | none =>
    have h0 : rs.length = 0 := by
      rcases Nat.eq_zero_or_pos rs.length with h | h
      · exact h
      · obtain ⟨b, o, e, _⟩ := hr.2.2.2 h
        cases e
    obtain rfl : rs = [] := List.eq_nil_of_length_eq_zero h0
    clear ho hr hi hz0 hz1 hz2 hn h0
    go_enter Try.func37, Try.ntmps37
    go_wp2
    go_ret
    exact ⟨_, rfl, NewO.nil_ 73 7 w⟩
  | some a =>
    have hb : Below w.heap.size w (w.alloc (.cells #[] 73)) := (by repeat (first | exact Below.refl _ _ | assumption | refine Below.setCell ?_ (by first | (simp; done) | (simp; omega) | omega) _ | refine below_drewN ?_ _ | refine Below.drew ?_ | refine Below.alloc ?_ (by first | (simp; done) | (simp; omega) | omega) _))
    have HR := Lib.hid (Rd.new hr hb)
    have HI := Lib.hid hi
    have HZ := Lib.hid (And.intro hz0 (And.intro hz1 hz2))
    clear ho hr hi hz0 hz1 hz2
    go_enter Try.func37, Try.ntmps37
    go_wp2_with (at_builtin; refine wpList_append_Own _ rfl (.tmp 5) (.tmp 6) 69 rfl 73 i0 _ 7 72 Try.underlying69 HI.out HZ.out.1 HZ.out.2.1 HZ.out.2.2 rfl (.slice (some ⟨w.heap.size, 0, none⟩) 0 0) 0 [] rfl (NewO.empty 73 7 w).own (some a) rs.length c (rcs rs) rfl HR.out (rcs_oneCell rs) (by omega) (by omega) ?_; intro v1 w1 hv hg ha)
    go_ret
    exact ⟨v1, rfl, by simpa using (NewO.empty 73 7 w).app hv hg ha⟩

/-- the rows of the dict in block g -/
def RowOf (w : World) (g b : Nat) : Prop := ∃ m v, Blk w g 71 #[m, v] ∧ v.ownBlock = some b
def IsD (w : World) (g : Nat) : Prop := ∃ m v, Blk w g 71 #[m, v]
/-- rows that are not the dict's own lie as they lay -/
def KpRows (g : Nat) (W W' : World) : Prop := W.heap.size ≤ W'.heap.size ∧ (IsD W g → IsD W' g ∧ ∀ b cs, Blk W b 73 cs → ¬ RowOf W g b → Blk W' b 73 cs ∧ ¬ RowOf W' g b)
theorem KpRows.refl (g : Nat) (W : World) : KpRows g W W := ⟨Nat.le_refl _, fun h => ⟨h, fun _ _ h1 h2 => ⟨h1, h2⟩⟩⟩
theorem KpRows.trans {g : Nat} {A B C : World} (h : KpRows g A B) (k : KpRows g B C) : KpRows g A C :=
  ⟨Nat.le_trans h.1 k.1, fun hd => by
    obtain ⟨d1, h1⟩ := h.2 hd
    obtain ⟨d2, h2⟩ := k.2 d1
    exact ⟨d2, fun b cs hb hr => (h1 b cs hb hr).elim fun a c => h2 b cs a c⟩⟩
theorem KpRows.of_same {g : Nat} {W W' : World} (hs : W.heap.size ≤ W'.heap.size) (hk : ∀ b t cs, Blk W b t cs → t = 71 ∨ t = 73 → Blk W' b t cs) : KpRows g W W' :=
  ⟨hs, fun ⟨m, v, hg⟩ => ⟨⟨m, v, hk _ _ _ hg (.inl rfl)⟩, fun b cs hb hr => ⟨hk _ _ _ hb (.inr rfl), fun ⟨m', v', hg', e⟩ => by
    have h1 := hk _ _ _ hg (.inl rfl)
    unfold Blk at h1 hg'
    rw [h1] at hg'
    cases hg'
    exact hr ⟨m, v, hg, e⟩⟩⟩⟩
theorem KpRows.put {g : Nat} (W : World) (l : Nat) (o o' : Obj) (h1 : W.heap[l]? = some o) (h2 : o.isCells = false) : KpRows g W (W.putObj l o') :=
  .of_same (by simp [World.putObj]) fun b t cs hb _ => by
    unfold Blk at hb ⊢
    rw [World.putObj_heap_other (by rintro rfl; rw [h1] at hb; cases hb; cases h2)]
    exact hb
theorem KpRows.new {g : Nat} {W W' : World} (hb : Below W.heap.size W W') : KpRows g W W' := .of_same hb.size fun _ _ _ h _ => h.new' hb
end Go.Proofs.Ytfdihmbmlhlkgaa
