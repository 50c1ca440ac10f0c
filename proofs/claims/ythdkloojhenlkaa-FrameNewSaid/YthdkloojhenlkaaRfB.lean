/- The reference's methods on values. -/
import Derived.Test.YthdkloojhenlkaaRfA
namespace Go.Proofs.Ythdkloojhenlkaa
open Go.RowKit
attribute [local go_sem high] guardV eqV neqV
attribute [local go_sem] V.v

set_option maxHeartbeats 400000 in
theorem rtop_any (g : Nat) (F : Fr) (S : Nat → Prop) (i : Int) (w : World) (hF : IsFr 82 86 w S g F) :
    Calls Try.prog 44 #[.pointer (some ⟨g, 0, none⟩), .int .i64 i] w fun e w' => e = .returned (.tuple #[(F.top i).v, .bool (F.topOk i)]) ∧ Below w.heap.size w w' := by
  obtain ⟨L, B, C, X, K, h, hS⟩ := hF
  have c8 : w.cell? ⟨g, 8, none⟩ = some X := h.blk.cell 8
  have hlt := h.blk.lt
  obtain ⟨A, n, c, rfl, hr, hA⟩ := h.x.rd
  have hn := hr.le
  clear hS hA
  by_cases h0 : 0 ≤ i
  · obtain ⟨j, rfl⟩ := Int.eq_ofNat_of_zero_le h0
    by_cases hj : j < n
    · have e1 : F.topOk (j : Int) = true := by simp only [Fr.topOk, decide_eq_true_eq]; have := hr.1; omega
      have hk : n - 1 - j < n := by omega
      obtain ⟨b, o, rfl, hb, q0, q1, q2⟩ := hr.at_ hk
      have e2 : F.top (j : Int) = F.values[n - 1 - j]'(by rw [hr.1]; exact hk) := by
        simp only [Fr.top, e1, if_true, Int.toNat_natCast]
        have hl := hr.1
        have e3 : F.values.length - 1 - j = n - 1 - j := by omega
        rw [List.getD_eq_getElem?_getD, e3, List.getElem?_eq_getElem]
        rfl
      rw [e1, e2]
      generalize F.values[n - 1 - j]'(by rw [hr.1]; exact hk) = v at *
      clear e1 e2 hr
      go_enter Try.func44, Try.ntmps44
      go_wp2
      go_region
      all_goals
        go_wp2
        exact bodyPost_ret (v := .tuple #[v.v, .bool true]) (by simp [results, Try.results44, go_sem]) rfl ⟨rfl, (by repeat (first | exact Below.refl _ _ | assumption | refine Below.setCell ?_ (by first | (simp; done) | (simp; omega) | omega) _ | refine below_drewN ?_ _ | refine Below.drew ?_ | refine Below.alloc ?_ (by first | (simp; done) | (simp; omega) | omega) _))⟩
    · have e1 : F.topOk (j : Int) = false := by simp only [Fr.topOk, decide_eq_false_iff_not]; have := hr.1; omega
      have e2 : F.top (j : Int) = V.zero := by simp [Fr.top, e1]
      rw [e1, e2]
      clear e1 e2 hr
      go_enter Try.func44, Try.ntmps44
      go_wp2
      exact bodyPost_ret (v := .tuple #[V.zero.v, .bool false]) (by simp [results, Try.results44, go_sem, V.zero]) rfl ⟨rfl, (by repeat (first | exact Below.refl _ _ | assumption | refine Below.setCell ?_ (by first | (simp; done) | (simp; omega) | omega) _ | refine below_drewN ?_ _ | refine Below.drew ?_ | refine Below.alloc ?_ (by first | (simp; done) | (simp; omega) | omega) _))⟩
  · have e1 : F.topOk i = false := by simp only [Fr.topOk, decide_eq_false_iff_not]; omega
    have e2 : F.top i = V.zero := by simp [Fr.top, e1]
    have hi : i < 0 := by omega
    rw [e1, e2]
    clear e1 e2 hr
    go_enter Try.func44, Try.ntmps44
    go_wp2
    exact bodyPost_ret (v := .tuple #[V.zero.v, .bool false]) (by simp [results, Try.results44, go_sem, V.zero]) rfl ⟨rfl, (by repeat (first | exact Below.refl _ _ | assumption | refine Below.setCell ?_ (by first | (simp; done) | (simp; omega) | omega) _ | refine below_drewN ?_ _ | refine Below.drew ?_ | refine Below.alloc ?_ (by first | (simp; done) | (simp; omega) | omega) _))⟩


set_option maxHeartbeats 400000 in
theorem there_any (g : Nat) (F : Fr) (S : Nat → Prop) (i : Int) (w : World) (hF : IsFr 82 86 w S g F) :
    Calls Try.prog 52 #[.pointer (some ⟨g, 0, none⟩), .int .i64 i] w fun e w' => e = .returned (.bool (F.has i)) ∧ w' = w := by
  obtain ⟨L, B, C, X, K, h, hS, hSl⟩ := hF
  have c2 : w.cell? ⟨g, 2, none⟩ = some L := h.blk.cell 2
  have c3 : w.cell? ⟨g, 3, none⟩ = some B := h.blk.cell 3
  obtain ⟨A, n, c, rfl, hr, hA⟩ := h.l.rd
  obtain ⟨A', n', c', rfl, hr', hA'⟩ := h.b.rd
  clear hS hSl hA hA'
  have fin : ∀ b : Bool, (b = decide (0 ≤ i ∧ i < (n : Int) ∧ i < (n' : Int))) → Ending.returned (.bool b) = .returned (.bool (F.has i)) := by
    intro b hb
    unfold Fr.has
    rw [hb, hr.1, hr'.1]
  have Fin := Lib.hid fin
  clear fin
  by_cases h0 : 0 ≤ i
  · have hd0 : decide (0 ≤ i) = true := by simpa using h0
    by_cases h1 : i < (n : Int)
    · have hd1 : decide (i < (n : Int)) = true := by simpa using h1
      go_enter Try.func52, Try.ntmps52
      go_wp2
      go_ret
      exact ⟨Fin.out _ (by simp [h0, h1]), rfl⟩
    · have hd1 : decide (i < (n : Int)) = false := by simpa using h1
      go_enter Try.func52, Try.ntmps52
      go_wp2
      go_ret
      exact ⟨Fin.out _ (by simp; omega), rfl⟩
  · have hd : decide (0 ≤ i) = false := by simpa using h0
    go_enter Try.func52, Try.ntmps52
    go_wp2
    go_ret
    exact ⟨Fin.out _ (by simp; omega), rfl⟩

theorem set_values_new {T TB : TypeId} {w w1 : World} {g : Nat} {F : Fr} {L B C X K X' : Value} {xs : List V} (hT : T ≠ 44) (hT2 : T ≠ 4) (hT3 : T ≠ TB) (h : FrAt T TB w g F L B C X K) (hn : NewRow w w1 X' xs) :
    FrAt T TB (w1.setCell ⟨g, 8, none⟩ X') g { F with values := xs } L B C X' K := by
  have hg := h.blk.lt
  have hk : ∀ i, i ≠ g → i < w.heap.size → (w1.setCell ⟨g, 8, none⟩ X').heap[i]? = w.heap[i]? := fun i h1 h2 => (Below.heap_setCell w1 _ _ _ h1).trans (hn.bel.block i h2)
  have hX : ∀ i, X'.ownBlock = some i → w.heap.size ≤ i := hn.new
  refine ⟨(h.blk.below hn.bel hg).set_ 8 X', h.l.keep fun i e => hk i ?_ (h.l.lt e), h.b.keep fun i e => hk i ?_ (h.b.lt e), h.c.keep fun i e => hk i ?_ (h.c.lt e), hn.own.keep fun i e => Below.heap_setCell _ _ _ _ ?_, h.k.keep fun i e => hk i ?_ (h.k.lt e), h.lc, ?_, ?_⟩
  · rintro rfl; exact own_blk_ne h.l h.blk (Ne.symm hT) e
  · rintro rfl; exact own_blk_ne h.b h.blk (Ne.symm hT2) e
  · rintro rfl; exact own_blk_ne h.c h.blk (Ne.symm hT) e
  · rintro rfl; have := hX _ e; omega
  · rintro rfl; exact own_blk_ne h.k h.blk (Ne.symm hT3) e
  · intro i e e'; have := hX _ e'; have := h.l.lt e; omega
  · intro i e e'; have := hX _ e'; have := h.c.lt e; omega
theorem foot_new {S : Nat → Prop} {w : World} {g : Nat} {L B C X K X' : Value} (h : ∀ i, foot g L B C X K i → S i) (hb : ∀ i, X'.ownBlock = some i → w.heap.size ≤ i) : ∀ i, foot g L B C X' K i → S i ∨ w.heap.size ≤ i :=
  foot_x2 h fun i e => .inr (hb i e)
theorem newrowR (w : World) : NewRow w (w.alloc (.cells #[] 44)) (.slice (some ⟨w.heap.size, 0, none⟩) 0 0) [] :=
  ⟨empty_own w, fun b e => by simp [Value.ownBlock] at e; omega, (Below.refl _ _).alloc (Nat.le_refl _) _⟩

set_option maxHeartbeats 400000 in
theorem rpush_any (g : Nat) (F : Fr) (S : Nat → Prop) (A : Option Addr) (m c : Nat) (xs : List V) (w : World) (hF : IsFr 82 86 w S g F) (hr : RdV w A m c xs) (hlen : F.values.length + m ≤ 4398046511104) :
    Calls Try.prog 42 #[.pointer (some ⟨g, 0, none⟩), .slice A m c] w fun e w' => e = .returned (.tuple #[]) ∧ IsFr 82 86 w' (Grew S w w') g { F with values := F.values ++ xs } ∧ Mod S w w' := by
  obtain ⟨L, B, C, X, K, h, hS, hSl⟩ := hF
  have c8 : w.cell? ⟨g, 8, none⟩ = some X := h.blk.cell 8
  have hlg := h.blk.lt
  have HS := Lib.hid hS
  have HSl := Lib.hid hSl
  clear hS hSl
  obtain ⟨Av, nv, cv, rfl, hrv, _⟩ := h.x.rd
  have hb0 : Below w.heap.size w (w.alloc (.cells #[] 44)) := (by repeat (first | exact Below.refl _ _ | assumption | refine Below.setCell ?_ (by first | (simp; done) | (simp; omega) | omega) _ | refine below_drewN ?_ _ | refine Below.drew ?_ | refine Below.alloc ?_ (by first | (simp; done) | (simp; omega) | omega) _))
  have hl1 := hrv.1
  have hrv1 := hrv.new hb0
  go_enter Try.func42, Try.ntmps42
  go_wp2_with (first
    | (at_builtin; refine wpList_appendV _ rfl (.tmp 5) (.tmp 9) rfl (.slice (some ⟨w.heap.size, 0, none⟩) 0 0) [] rfl (empty_own w) Av nv cv F.values rfl hrv1 (by simp; omega) ?_; intro v1 w1 hv1 hg1 ha1; have NR1 : NewRow w w1 v1 ([] ++ F.values) := NewRow.app (newrowR w) hv1 hg1 ha1; obtain ⟨A1, n1, c1, rfl, _⟩ := OwnV.rd hv1; have hr1 := hr.new NR1.bel; clear hv1 hg1 ha1)
    | (at_builtin; refine wpList_appendV _ rfl (.tmp 10) (.tmp 11) rfl (.slice A1 n1 c1) ([] ++ F.values) rfl NR1.own A m c xs rfl hr1 (by simp; omega) ?_; intro v2 w2 hv2 hg2 ha2; have NR2 : NewRow w w2 v2 ([] ++ F.values ++ xs) := NewRow.app NR1 hv2 hg2 ha2; obtain ⟨A2, n2, c2, rfl, _⟩ := OwnV.rd hv2; have hbk := h.blk.below NR2.bel hlg; have c8' := hbk.cell 8; have f8' := hbk.frozen 8; clear hv2 hg2 ha2))
  go_end0
  have hnr : NewRow w w2 (.slice A2 n2 c2) (F.values ++ xs) := by simpa using NR2
  refine ⟨rfl, IsFr.of (set_values_new (by decide) (by decide) (by decide) h hnr) (by simpa [World.setCell] using NR2.bel.size) HSl.out (foot_new HS.out NR2.new), ?_⟩
  exact (Mod.new NR2.bel).setCell (fun _ => HS.out g (.inl rfl)) _
end Go.Proofs.Ythdkloojhenlkaa
