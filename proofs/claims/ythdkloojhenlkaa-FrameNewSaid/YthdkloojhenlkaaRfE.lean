/- The reference's Store and Clear. -/
import Derived.Test.YthdkloojhenlkaaRfD
namespace Go.Proofs.Ythdkloojhenlkaa
open Go.RowKit
attribute [local go_sem high] guardV eqV neqV
attribute [local go_sem] V.v

set_option maxHeartbeats 400000 in
theorem rstore_any (g : Nat) (F : Fr) (S : Nat → Prop) (i : Int) (x : V) (w : World) (hF : IsFr 82 86 w S g F) :
    Calls Try.prog 47 #[.pointer (some ⟨g, 0, none⟩), .int .i64 i, x.v] w fun e w' => e = .returned (.bool (F.has i)) ∧
      IsFr 82 86 w' (Grew S w w') g (if F.has i then { F with locals := F.locals.set i.toNat x, bound := F.bound.set i.toNat true } else F) ∧ Mod S w w' := by
  have Hl := Lib.hid (fun w' (hb : Below w.heap.size w w') => there_any g F S i w' (hF.new hb))
  have hF0 := Lib.hid hF
  obtain ⟨L, B, C, X, K, h, hS, hSl⟩ := hF
  have c2 : w.cell? ⟨g, 2, none⟩ = some L := h.blk.cell 2
  have c3 : w.cell? ⟨g, 3, none⟩ = some B := h.blk.cell 3
  have hlt := h.blk.lt
  obtain ⟨A, n, c, rfl, hr, hA⟩ := h.l.rd
  obtain ⟨A', n', c', rfl, hr', hA'⟩ := h.b.rd
  have HS := Lib.hid hS
  have HSl := Lib.hid hSl
  clear hS hSl hA hA'
  cases hb : F.has i
  · have Hb := Lib.hid hb
    clear hb
    simp only [Bool.false_eq_true, if_false]
    go_enter Try.func47, Try.ntmps47
    go_wp2_with (go_at_call 52; refine (Hl.out _ ((Below.refl _ _).alloc (Nat.le_refl _) _)).mono ?_; rintro e w' ⟨rfl, rfl⟩; rw [Hb.out])
    go_ret
    have hw := ((Below.refl w.heap.size w).alloc (Nat.le_refl _) (.cells #[.int .i64 x.k, .int .i64 x.n, .string x.s] 44))
    exact ⟨rfl, (hF0.out.new hw).grew hw.size, Mod.new hw⟩
  · simp only [if_true]
    have hb' := hb
    simp only [Fr.has, decide_eq_true_eq] at hb'
    obtain ⟨h0, h1, h2⟩ := hb'
    obtain ⟨j, rfl⟩ := Int.eq_ofNat_of_zero_le h0
    simp only [Int.toNat_natCast]
    have hj : j < n := by rw [← hr.1]; omega
    have hj' : j < n' := by rw [← hr'.1]; omega
    have hj1 : j < F.locals.length := by omega
    have hj2 : j < F.bound.length := by omega
    obtain ⟨b, rfl, hbb, hc0, hc1, hc2, hz⟩ := h.l.at_ hj1
    obtain ⟨b', rfl, hbb', hcb, hzb⟩ := h.b.at_ hj2
    have hbb1 : b ≠ b' := fun e => own_own_ne h.l h.b (by decide) (b := b) rfl (by rw [e]; rfl)
    have hgb : b ≠ g := fun e => own_blk_ne h.l h.blk (by decide) (by rw [← e]; rfl)
    have Hb := Lib.hid hb
    clear hb h1 h0 h2
    go_enter Try.func47, Try.ntmps47
    go_wp2_with (go_at_call 52; refine (Hl.out _ ((Below.refl _ _).alloc (Nat.le_refl _) _)).mono ?_; rintro e w' ⟨rfl, rfl⟩; rw [Hb.out])
    go_region
    all_goals
      go_wp2
      go_ret
      have s1 := store_local (by decide) (by decide) h hj1 x
      have s2 := store_bound (by decide) (by decide) s1 hj2 true
      have sb : S b := HS.out b (.inr (.inl rfl))
      have sb' : S b' := HS.out b' (.inr (.inr (.inl rfl)))
      have hm2 : Mod S w ((((w.setCell ⟨b, j * 3, none⟩ (.int .i64 x.k)).setCell ⟨b, j * 3 + 1, none⟩ (.int .i64 x.n)).setCell ⟨b, j * 3 + 2, none⟩ (.string x.s)).setCell ⟨b', j, none⟩ (.bool true)) :=
        ((((Mod.refl S w).setCell (fun _ => sb) _).setCell (fun _ => sb) _).setCell (fun _ => sb) _).setCell (fun _ => sb') _
      refine ⟨rfl, IsFr.of (s2.keep (w' := (_ : World)) fun i hi => ?_) (hm2.alloc _).drew.size HSl.out (fun i hi => .inl (HS.out i hi)), (hm2.alloc _).drew⟩
      exact Below.heap_alloc _ _ i (s2.lt hi)

set_option maxHeartbeats 400000 in
theorem rclear_any (g : Nat) (F : Fr) (S : Nat → Prop) (i : Int) (w : World) (hF : IsFr 82 86 w S g F) :
    Calls Try.prog 48 #[.pointer (some ⟨g, 0, none⟩), .int .i64 i] w fun e w' => e = .returned (.bool (F.isBound i)) ∧
      IsFr 82 86 w' (Grew S w w') g (if F.isBound i then { F with locals := F.locals.set i.toNat V.zero, bound := F.bound.set i.toNat false } else F) ∧ Mod S w w' := by
  have Hl := Lib.hid (there_any g F S i w hF)
  have hF0 := Lib.hid hF
  obtain ⟨L, B, C, X, K, h, hS, hSl⟩ := hF
  have c2 : w.cell? ⟨g, 2, none⟩ = some L := h.blk.cell 2
  have c3 : w.cell? ⟨g, 3, none⟩ = some B := h.blk.cell 3
  have hlt := h.blk.lt
  obtain ⟨A, n, c, rfl, hr, hA⟩ := h.l.rd
  obtain ⟨A', n', c', rfl, hr', hA'⟩ := h.b.rd
  have HS := Lib.hid hS
  have HSl := Lib.hid hSl
  clear hS hSl hA hA'
  cases hh : F.has i
  · have hb : F.isBound i = false := by simp [Fr.isBound, hh]
    rw [hb]
    have Hb := Lib.hid hh
    clear hb hh
    simp only [Bool.false_eq_true, if_false]
    go_enter Try.func48, Try.ntmps48
    go_wp2_with (go_at_call 52; refine Hl.out.mono ?_; rintro e w' ⟨rfl, hw'⟩; obtain rfl := hw'.symm; rw [Hb.out])
    go_ret
    have hw := Below.refl w.heap.size w
    exact ⟨rfl, (hF0.out.new hw).grew hw.size, Mod.new hw⟩
  · have hh' := hh
    simp only [Fr.has, decide_eq_true_eq] at hh'
    obtain ⟨h0, h1, h2⟩ := hh'
    obtain ⟨j, rfl⟩ := Int.eq_ofNat_of_zero_le h0
    simp only [Int.toNat_natCast]
    have hj : j < n := by rw [← hr.1]; omega
    have hj' : j < n' := by rw [← hr'.1]; omega
    have hj1 : j < F.locals.length := by omega
    have hj2 : j < F.bound.length := by omega
    obtain ⟨b, rfl, hbb, hc0, hc1, hc2, hz⟩ := h.l.at_ hj1
    obtain ⟨b', rfl, hbb', hcb, hzb⟩ := h.b.at_ hj2
    have hbb1 : b ≠ b' := fun e => own_own_ne h.l h.b (by decide) (b := b) rfl (by rw [e]; rfl)
    have hgb : b ≠ g := fun e => own_blk_ne h.l h.blk (by decide) (by rw [← e]; rfl)
    have eb : F.isBound (j : Int) = F.bound[j] := by
      simp only [Fr.isBound, hh, Bool.true_and, Int.toNat_natCast]
      rw [List.getD_eq_getElem?_getD, List.getElem?_eq_getElem hj2]
      rfl
    have Hb := Lib.hid hh
    clear hh h1 h0 h2
    rw [← eb] at hcb
    clear eb
    cases hb : F.isBound (j : Int)
    · rw [hb] at hcb
      simp only [Bool.false_eq_true, if_false]
      clear hb
      go_enter Try.func48, Try.ntmps48
      go_wp2_with (go_at_call 52; refine Hl.out.mono ?_; rintro e w' ⟨rfl, hw'⟩; obtain rfl := hw'.symm; rw [Hb.out])
      go_ret
      have hw := Below.refl w.heap.size w
      exact ⟨rfl, (hF0.out.new hw).grew hw.size, Mod.new hw⟩
    · rw [hb] at hcb
      simp only [if_true]
      clear hb
      go_enter Try.func48, Try.ntmps48
      go_wp2_with (go_at_call 52; refine Hl.out.mono ?_; rintro e w' ⟨rfl, hw'⟩; obtain rfl := hw'.symm; rw [Hb.out])
      go_ret
      have s1 := store_local (by decide) (by decide) h hj1 V.zero
      have s2 := store_bound (by decide) (by decide) s1 hj2 false
      refine ⟨rfl, IsFr.of s2 (by simp [World.setCell]) HSl.out (fun i hi => .inl (HS.out i hi)), ?_⟩
      have hm : Mod S w w := Mod.refl _ _
      have sb : S b := HS.out b (.inr (.inl rfl))
      have sb' : S b' := HS.out b' (.inr (.inr (.inl rfl)))
      exact (((hm.setCell (fun _ => sb) _).setCell (fun _ => sb) _).setCell (fun _ => sb) _).setCell (fun _ => sb') _
end Go.Proofs.Ythdkloojhenlkaa
