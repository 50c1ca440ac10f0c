/- The reference's Take and Pop. -/
import Derived.Test.YthdkloojhenlkaaRfB
namespace Go.Proofs.Ythdkloojhenlkaa
open Go.RowKit
attribute [local go_sem high] guardV eqV neqV
attribute [local go_sem] V.v

theorem rtake_end {w w1 w2 : World} {g : Nat} {F : Fr} {S : Nat → Prop} {L B C X K v1 v2 : Value} {ts vs : List V} (h : FrAt 82 86 w g F L B C X K) (hS : ∀ i, foot g L B C X K i → S i) (hSl : ∀ i, S i → i < w.heap.size)
    (n1 : NewRow w w1 v1 ts) (n2 : NewRow w1 w2 v2 vs) :
    OwnV (w2.setCell ⟨g, 8, none⟩ v2) v1 ts ∧ (∀ b, v1.ownBlock = some b → w.heap.size ≤ b) ∧ IsFr 82 86 (w2.setCell ⟨g, 8, none⟩ v2) (GrewBut S w (w2.setCell ⟨g, 8, none⟩ v2) v1) g { F with values := vs } ∧ Mod S w (w2.setCell ⟨g, 8, none⟩ v2) := by
  have h1 : FrAt 82 86 w1 g F L B C X K := h.keep fun i hi => n1.bel.block i (h.lt hi)
  have h2 := set_values_new (by decide) (by decide) (by decide) h1 n2
  have hg := h.blk.lt
  have hz1 := n1.bel.size
  have hz2 := n2.bel.size
  have hsz : (w2.setCell ⟨g, 8, none⟩ v2).heap.size = w2.heap.size := by simp [World.setCell]
  refine ⟨(Own.new n1.own n2.bel).keep fun b e => Below.heap_setCell _ _ _ _ (by rintro rfl; have := n1.new _ e; omega), n1.new, ⟨L, B, C, v2, K, h2, fun i hi => ?_, fun i hi => ?_⟩, ?_⟩
  · rcases hi with e | e | e | e | e | e
    · exact .inl (hS i (.inl e))
    · exact .inl (hS i (.inr (.inl e)))
    · exact .inl (hS i (.inr (.inr (.inl e))))
    · exact .inl (hS i (.inr (.inr (.inr (.inl e)))))
    · have hb := n2.new i e
      exact .inr ⟨by omega, by rw [hsz]; exact Own.lt n2.own e, fun e' => by have := Own.lt n1.own e'; omega⟩
    · exact .inl (hS i (.inr (.inr (.inr (.inr (.inr e))))))
  · rcases hi with e | ⟨_, e, _⟩
    · have := hSl i e; rw [hsz]; omega
    · exact e
  · exact ((Mod.new (n1.bel.trans (n2.bel.mono hz1))).setCell (fun _ => hS g (.inl rfl)) _)

set_option maxRecDepth 100000 in
set_option maxHeartbeats 1000000 in
theorem rtake_any (g : Nat) (F : Fr) (S : Nat → Prop) (k : Int) (w : World) (hF : IsFr 82 86 w S g F) (hlen : F.values.length ≤ 1000000) (hk9 : -9223372036854775808 ≤ k ∧ k ≤ 9223372036854775807) :
    Calls Try.prog 45 #[.pointer (some ⟨g, 0, none⟩), .int .i64 k] w fun e w' => ∃ v, e = .returned (.tuple #[v, .bool (F.takeOk k)]) ∧ OwnV w' v (F.taken k) ∧ (∀ b, v.ownBlock = some b → w.heap.size ≤ b) ∧
      IsFr 82 86 w' (GrewBut S w w' v) g (F.took k) ∧ Mod S w w' := by
  have HF := Lib.hid hF
  obtain ⟨L, B, C, X, K, h, hS, hSl⟩ := hF
  have c8 : w.cell? ⟨g, 8, none⟩ = some X := h.blk.cell 8
  have hlt := h.blk.lt
  obtain ⟨A, n, c, rfl, hr, hA⟩ := h.x.rd
  have hn := hr.le
  have hnc := hr.2.1
  have hcc := hr.2.2.1
  have HS := Lib.hid hS
  have HSl := Lib.hid hSl
  have hn6 : n ≤ 1000000 := by have := hr.1; omega
  clear hS hA hSl
  by_cases hk : 0 ≤ k ∧ k ≤ (n : Int)
  · obtain ⟨h0, h1⟩ := hk
    obtain ⟨j, rfl⟩ := Int.eq_ofNat_of_zero_le h0
    have hj : j ≤ n := by omega
    have hd0 : decide ((j : Int) < 0) = false := by simp
    have e1 : F.takeOk (j : Int) = true := by simp only [Fr.takeOk, decide_eq_true_eq]; have := hr.1; omega
    have e2 : F.taken (j : Int) = F.values.drop (n - j) := by simp only [Fr.taken, e1, if_true, hr.1, Int.toNat_natCast]
    have e3 : F.took (j : Int) = { F with values := F.values.take (n - j) } := by simp only [Fr.took, e1, if_true, hr.1, Int.toNat_natCast]
    rw [e1, e2, e3]
    clear e1 e2 e3 h0 h1 hk9
    have hrt : RdV w A (n - j) c (F.values.take (n - j)) := hr.shrink (by omega) (by omega) (Nat.le_refl _)
    have hkj : ((n : Int) - (j : Int)) = ((n - j : Nat) : Int) := by omega
    have HKJ := Lib.hid hkj
    clear hkj
    have hb0 : Below w.heap.size w (w.alloc (.cells #[] 44)) := (by repeat (first | exact Below.refl _ _ | assumption | refine Below.setCell ?_ (by first | (simp; done) | (simp; omega) | omega) _ | refine below_drewN ?_ _ | refine Below.drew ?_ | refine Below.alloc ?_ (by first | (simp; done) | (simp; omega) | omega) _))
    by_cases hcj : c = n - j
    · obtain rfl : j = 0 := by omega
      obtain rfl : c = n := by omega
      have hr1 : RdV w A 0 0 (F.values.drop c) := ⟨by rw [List.length_drop, hr.1]; omega, by rw [List.drop_eq_nil_of_le (by rw [hr.1]; omega)]; exact Rd.nil_.2 (by omega)⟩
      simp only [Nat.sub_zero] at hrt ⊢
      have hr1' := hr1.new hb0
      clear hcj hj
      go_enter Try.func45, Try.ntmps45
      go_wp2_with (first
        | (at_builtin; refine wpList_appendV _ rfl (.tmp 21) (.tmp 27) rfl (.slice (some ⟨w.heap.size, 0, none⟩) 0 0) [] rfl (empty_own w) A 0 0 (F.values.drop c) rfl hr1' (by simp) ?_; intro v1 w1 hv1 hg1 ha1; have NR1 : NewRow w w1 v1 ([] ++ F.values.drop c) := NewRow.app (newrowR w) hv1 hg1 ha1; obtain ⟨A1, n1, c1, rfl, _⟩ := OwnV.rd hv1; have c81 := (NR1.bel.cell (p := ⟨g, 8, none⟩) hlt).trans c8; have hrt1 := (hrt.new NR1.bel).new (w' := w1.alloc (.cells #[] 44)) (by exact (by repeat (first | exact Below.refl _ _ | assumption | refine Below.setCell ?_ (by first | (simp; done) | (simp; omega) | omega) _ | refine below_drewN ?_ _ | refine Below.drew ?_ | refine Below.alloc ?_ (by first | (simp; done) | (simp; omega) | omega) _))); have hl1 : g < w1.heap.size := Nat.lt_of_lt_of_le hlt NR1.bel.size; clear hv1 hg1 ha1)
        | (at_builtin; refine wpList_appendV _ rfl (.tmp 30) (.tmp 36) rfl (.slice (some ⟨w1.heap.size, 0, none⟩) 0 0) [] rfl (empty_own w1) A c c (F.values.take c) rfl hrt1 (by simp; omega) ?_; intro v2 w2 hv2 hg2 ha2; have NR2 : NewRow w1 w2 v2 ([] ++ F.values.take c) := NewRow.app (newrowR w1) hv2 hg2 ha2; obtain ⟨A2, n2, c2, rfl, _⟩ := OwnV.rd hv2; have hbk := (h.blk.below NR1.bel hlt).below NR2.bel hl1; have c82 := hbk.cell 8; have f82 := hbk.frozen 8; clear hv2 hg2 ha2))
      go_ret2
      obtain ⟨r1, r2, r3, r4⟩ := rtake_end h HS.out HSl.out NR1 NR2
      exact ⟨_, rfl, by simpa using r1, r2, by simpa using r3, r4⟩
    · have hr1 : RdV w (A.map (·.add ((n - j) * 3))) (n - (n - j)) (c - (n - j)) (F.values.drop (n - j)) := hr.hi (by omega) (fun _ => rfl)
      have hr1' := hr1.new hb0
      go_enter Try.func45, Try.ntmps45
      go_wp2_with (first
        | (at_builtin; refine wpList_appendV _ rfl (.tmp 21) (.tmp 27) rfl (.slice (some ⟨w.heap.size, 0, none⟩) 0 0) [] rfl (empty_own w) (A.map (·.add ((n - j) * 3))) (n - (n - j)) (c - (n - j)) (F.values.drop (n - j)) rfl hr1' (by simp; omega) ?_; intro v1 w1 hv1 hg1 ha1; have NR1 : NewRow w w1 v1 ([] ++ F.values.drop (n - j)) := NewRow.app (newrowR w) hv1 hg1 ha1; obtain ⟨A1, n1, c1, rfl, _⟩ := OwnV.rd hv1; have c81 := (NR1.bel.cell (p := ⟨g, 8, none⟩) hlt).trans c8; have hrt1 := (hrt.new NR1.bel).new (w' := w1.alloc (.cells #[] 44)) (by exact (by repeat (first | exact Below.refl _ _ | assumption | refine Below.setCell ?_ (by first | (simp; done) | (simp; omega) | omega) _ | refine below_drewN ?_ _ | refine Below.drew ?_ | refine Below.alloc ?_ (by first | (simp; done) | (simp; omega) | omega) _))); have hl1 : g < w1.heap.size := Nat.lt_of_lt_of_le hlt NR1.bel.size; clear hv1 hg1 ha1)
        | (at_builtin; refine wpList_appendV _ rfl (.tmp 30) (.tmp 36) rfl (.slice (some ⟨w1.heap.size, 0, none⟩) 0 0) [] rfl (empty_own w1) A (n - j) c (F.values.take (n - j)) rfl hrt1 (by simp; omega) ?_; intro v2 w2 hv2 hg2 ha2; have NR2 : NewRow w1 w2 v2 ([] ++ F.values.take (n - j)) := NewRow.app (newrowR w1) hv2 hg2 ha2; obtain ⟨A2, n2, c2, rfl, _⟩ := OwnV.rd hv2; have hbk := (h.blk.below NR1.bel hlt).below NR2.bel hl1; have c82 := hbk.cell 8; have f82 := hbk.frozen 8; clear hv2 hg2 ha2))
      go_ret2
      obtain ⟨r1, r2, r3, r4⟩ := rtake_end h HS.out HSl.out NR1 NR2
      exact ⟨_, rfl, by simpa using r1, r2, by simpa using r3, r4⟩
  · have e1 : F.takeOk k = false := by simp only [Fr.takeOk, decide_eq_false_iff_not, hr.1]; exact hk
    have e2 : F.taken k = [] := by simp [Fr.taken, e1]
    have e3 : F.took k = F := by simp [Fr.took, e1]
    rw [e1, e2, e3]
    clear e1 e2 e3
    have fin : ∃ v, Ending.returned (.tuple #[.slice none 0 0, .bool false]) = Ending.returned (.tuple #[v, .bool false]) ∧ OwnV w v [] ∧ (∀ b, v.ownBlock = some b → w.heap.size ≤ b) ∧ IsFr 82 86 w (GrewBut S w w v) g F ∧ Mod S w w :=
      ⟨_, rfl, OwnV.nil_ w, fun b e => (by cases e), HF.out.mono (fun _ h => .inl h) (fun i hi => hi.elim (HSl.out i) fun h => h.2.1), Mod.refl S w⟩
    have Fin := Lib.hid fin
    clear fin
    by_cases hk0 : k < 0
    · have hd0 : decide (k < 0) = true := by simpa using hk0
      go_enter Try.func45, Try.ntmps45
      go_wp2
      go_ret2
      exact Fin.out
    · have hd0 : decide (k < 0) = false := by simpa using hk0
      have hk1 : (n : Int) - k < 0 := by omega
      go_enter Try.func45, Try.ntmps45
      go_wp2
      go_ret2
      exact Fin.out
end Go.Proofs.Ythdkloojhenlkaa
