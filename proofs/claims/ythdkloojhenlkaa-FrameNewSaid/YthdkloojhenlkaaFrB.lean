/- Load, Store and Clear of a frame. -/
import Derived.Test.YthdkloojhenlkaaFrA
namespace Go.Proofs.Ythdkloojhenlkaa
open Go.RowKit
attribute [local go_sem high] guardV eqV neqV
attribute [local go_sem] V.v

def Fr.load (F : Fr) (i : Int) : V := if F.isBound i then F.locals.getD i.toNat V.zero else V.zero

set_option maxHeartbeats 400000 in
theorem load_any (g : Nat) (F : Fr) (S : Nat → Prop) (i : Int) (w : World) (hF : IsFr 53 85 w S g F) :
    Calls Try.prog 26 #[.pointer (some ⟨g, 0, none⟩), .int .i64 i] w fun e w' => e = .returned (.tuple #[(F.load i).v, .bool (F.isBound i)]) ∧ Below w.heap.size w w' := by
  have Hl := Lib.hid (fun w' (hb : Below w.heap.size w w') => bound_any g F S i w' (hF.new hb))
  obtain ⟨L, B, C, X, K, h, hS, hSl⟩ := hF
  have c2 : w.cell? ⟨g, 2, none⟩ = some L := h.blk.cell 2
  have hlt := h.blk.lt
  obtain ⟨A', n', c', rfl, hr', hA'⟩ := h.l.rd
  clear hS hSl hA'
  cases hb : F.isBound i
  · have e1 : F.load i = V.zero := by simp [Fr.load, hb]
    rw [e1]
    have Hb := Lib.hid hb
    clear hb e1
    go_enter Try.func26, Try.ntmps26
    go_wp2_with (go_at_call 40; refine (Hl.out _ ((Below.refl _ _).alloc (Nat.le_refl _) _)).mono ?_; rintro e w' ⟨rfl, q, rfl⟩; rw [Hb.out])
    exact bodyPost_ret (v := .tuple #[V.zero.v, .bool false]) (by simp [results, Try.results26, go_sem, V.zero]) rfl ⟨rfl, (by repeat (first | exact Below.refl _ _ | assumption | refine Below.setCell ?_ (by first | (simp; done) | (simp; omega) | omega) _ | refine below_drewN ?_ _ | refine Below.drew ?_ | refine Below.alloc ?_ (by first | (simp; done) | (simp; omega) | omega) _))⟩
  · have hb' := hb
    simp only [Fr.isBound, Fr.has, Bool.and_eq_true, decide_eq_true_eq] at hb'
    obtain ⟨⟨h0, h1, _⟩, _⟩ := hb'
    obtain ⟨j, rfl⟩ := Int.eq_ofNat_of_zero_le h0
    have hj : j < n' := by rw [← hr'.1]; omega
    obtain ⟨b, o, rfl, hbb, hc0, hc1, hc2⟩ := hr'.at_ hj
    have e1 : F.load (j : Int) = F.locals[j]'(by rw [hr'.1]; exact hj) := by
      simp only [Fr.load, hb, if_true, Int.toNat_natCast]
      rw [List.getD_eq_getElem?_getD, List.getElem?_eq_getElem]
      rfl
    rw [e1]
    generalize F.locals[j]'(by rw [hr'.1]; exact hj) = v at *
    have Hb := Lib.hid hb
    clear hb e1 hr' h1 h0
    go_enter Try.func26, Try.ntmps26
    go_wp2_with (go_at_call 40; refine (Hl.out _ ((Below.refl _ _).alloc (Nat.le_refl _) _)).mono ?_; rintro e w' ⟨rfl, q, rfl⟩; rw [Hb.out])
    exact bodyPost_ret (v := .tuple #[v.v, .bool true]) (by simp [results, Try.results26, go_sem]) rfl ⟨rfl, (by repeat (first | exact Below.refl _ _ | assumption | refine Below.setCell ?_ (by first | (simp; done) | (simp; omega) | omega) _ | refine below_drewN ?_ _ | refine Below.drew ?_ | refine Below.alloc ?_ (by first | (simp; done) | (simp; omega) | omega) _))⟩

set_option maxHeartbeats 400000 in
theorem store_any (g : Nat) (F : Fr) (S : Nat → Prop) (i : Int) (x : V) (w : World) (hF : IsFr 53 85 w S g F) :
    Calls Try.prog 31 #[.pointer (some ⟨g, 0, none⟩), .int .i64 i, x.v] w fun e w' => e = .returned (.bool (F.has i)) ∧
      IsFr 53 85 w' (Grew S w w') g (if F.has i then { F with locals := F.locals.set i.toNat x, bound := F.bound.set i.toNat true } else F) ∧ Mod S w w' := by
  have Hl := Lib.hid (fun w' (hb : Below w.heap.size w w') => local_any g F S i w' (hF.new hb))
  have hF0 := Lib.hid hF
  obtain ⟨L, B, C, X, K, h, hS, hSl⟩ := hF
  have c2 : w.cell? ⟨g, 2, none⟩ = some L := h.blk.cell 2
  have c3 : w.cell? ⟨g, 3, none⟩ = some B := h.blk.cell 3
  have hlt := h.blk.lt
  obtain ⟨A, n, c, rfl, hr, hA⟩ := h.l.rd
  obtain ⟨A', n', c', rfl, hr', hA'⟩ := h.b.rd
  have HS := Lib.hid hS
  have HSl := Lib.hid hSl
  clear hS hSl hA hA'
  cases hb : F.has i
  · have Hb := Lib.hid hb
    clear hb
    simp only [Bool.false_eq_true, if_false]
    go_enter Try.func31, Try.ntmps31
    go_wp2_with (go_at_call 41; refine (Hl.out _ ((Below.refl _ _).alloc (Nat.le_refl _) _)).mono ?_; rintro e w' ⟨rfl, q, rfl⟩; rw [Hb.out])
    go_ret
    have hw := below_drewN ((Below.refl w.heap.size w).alloc (Nat.le_refl _) (.cells #[.int .i64 x.k, .int .i64 x.n, .string x.s] 44)) q
    exact ⟨rfl, (hF0.out.new hw).grew hw.size, Mod.new hw⟩
  · simp only [if_true]
    have hb' := hb
    simp only [Fr.has, decide_eq_true_eq] at hb'
    obtain ⟨h0, h1, h2⟩ := hb'
    obtain ⟨j, rfl⟩ := Int.eq_ofNat_of_zero_le h0
    simp only [Int.toNat_natCast]
    have hj : j < n := by rw [← hr.1]; omega
    have hj' : j < n' := by rw [← hr'.1]; omega
    have hj1 : j < F.locals.length := by omega
    have hj2 : j < F.bound.length := by omega
    obtain ⟨b, rfl, hbb, hc0, hc1, hc2, hz⟩ := h.l.at_ hj1
    obtain ⟨b', rfl, hbb', hcb, hzb⟩ := h.b.at_ hj2
    have hbb1 : b ≠ b' := fun e => own_own_ne h.l h.b (by decide) (b := b) rfl (by rw [e]; rfl)
    have Hb := Lib.hid hb
    clear hb h1 h0 h2
    go_enter Try.func31, Try.ntmps31
    go_wp2_with (go_at_call 41; refine (Hl.out _ ((Below.refl _ _).alloc (Nat.le_refl _) _)).mono ?_; rintro e w' ⟨rfl, q, rfl⟩; rw [Hb.out])
    go_region
    all_goals
      go_wp2
      go_ret
      generalize hw0 : (w.alloc (.cells #[.int .i64 x.k, .int .i64 x.n, .string x.s] 44)).drewN (q + 1) = w0
      have hw : Below w.heap.size w w0 := by rw [← hw0]; exact (by repeat (first | exact Below.refl _ _ | assumption | refine Below.setCell ?_ (by first | (simp; done) | (simp; omega) | omega) _ | refine below_drewN ?_ _ | refine Below.drew ?_ | refine Below.alloc ?_ (by first | (simp; done) | (simp; omega) | omega) _))
      have h0 : FrAt 53 85 w0 g F _ _ C X K := h.keep fun i hi => hw.block i (h.lt hi)
      have s1 := store_local (by decide) (by decide) h0 hj1 x
      have s2 := store_bound (by decide) (by decide) s1 hj2 true
      refine ⟨rfl, IsFr.of s2 (by simpa [World.setCell] using hw.size) HSl.out (fun i hi => .inl (HS.out i hi)), ?_⟩
      have hm : Mod S w w0 := Mod.new hw
      have sb : S b := HS.out b (.inr (.inl rfl))
      have sb' : S b' := HS.out b' (.inr (.inr (.inl rfl)))
      exact (((hm.setCell (fun _ => sb) _).setCell (fun _ => sb) _).setCell (fun _ => sb) _).setCell (fun _ => sb') _

set_option maxHeartbeats 400000 in
theorem clear_any (g : Nat) (F : Fr) (S : Nat → Prop) (i : Int) (w : World) (hF : IsFr 53 85 w S g F) :
    Calls Try.prog 32 #[.pointer (some ⟨g, 0, none⟩), .int .i64 i] w fun e w' => e = .returned (.bool (F.isBound i)) ∧
      IsFr 53 85 w' (Grew S w w') g (if F.isBound i then { F with locals := F.locals.set i.toNat V.zero, bound := F.bound.set i.toNat false } else F) ∧ Mod S w w' := by
  have Hl := Lib.hid (bound_any g F S i w hF)
  have hF0 := Lib.hid hF
  obtain ⟨L, B, C, X, K, h, hS, hSl⟩ := hF
  have c2 : w.cell? ⟨g, 2, none⟩ = some L := h.blk.cell 2
  have c3 : w.cell? ⟨g, 3, none⟩ = some B := h.blk.cell 3
  have hlt := h.blk.lt
  obtain ⟨A, n, c, rfl, hr, hA⟩ := h.l.rd
  obtain ⟨A', n', c', rfl, hr', hA'⟩ := h.b.rd
  have HS := Lib.hid hS
  have HSl := Lib.hid hSl
  clear hS hSl hA hA'
  cases hb : F.isBound i
  · have Hb := Lib.hid hb
    clear hb
    simp only [Bool.false_eq_true, if_false]
    go_enter Try.func32, Try.ntmps32
    go_wp2_with (go_at_call 40; refine Hl.out.mono ?_; rintro e w' ⟨rfl, q, rfl⟩; rw [Hb.out])
    go_ret
    have hw := below_drewN (Below.refl w.heap.size w) q
    exact ⟨rfl, (hF0.out.new hw).grew hw.size, Mod.new hw⟩
  · simp only [if_true]
    have hb' := hb
    simp only [Fr.isBound, Fr.has, Bool.and_eq_true, decide_eq_true_eq] at hb'
    obtain ⟨⟨h0, h1, h2⟩, _⟩ := hb'
    obtain ⟨j, rfl⟩ := Int.eq_ofNat_of_zero_le h0
    simp only [Int.toNat_natCast]
    have hj : j < n := by rw [← hr.1]; omega
    have hj' : j < n' := by rw [← hr'.1]; omega
    have hj1 : j < F.locals.length := by omega
    have hj2 : j < F.bound.length := by omega
    obtain ⟨b, rfl, hbb, hc0, hc1, hc2, hz⟩ := h.l.at_ hj1
    obtain ⟨b', rfl, hbb', hcb, hzb⟩ := h.b.at_ hj2
    have hbb1 : b ≠ b' := fun e => own_own_ne h.l h.b (by decide) (b := b) rfl (by rw [e]; rfl)
    have Hb := Lib.hid hb
    clear hb h1 h0 h2
    go_enter Try.func32, Try.ntmps32
    go_wp2_with (go_at_call 40; refine Hl.out.mono ?_; rintro e w' ⟨rfl, q, rfl⟩; rw [Hb.out])
    go_region
    all_goals
      go_wp2
      go_ret
      generalize hw0 : w.drewN (q + 1) = w0
      have hw : Below w.heap.size w w0 := by rw [← hw0]; exact (by repeat (first | exact Below.refl _ _ | assumption | refine Below.setCell ?_ (by first | (simp; done) | (simp; omega) | omega) _ | refine below_drewN ?_ _ | refine Below.drew ?_ | refine Below.alloc ?_ (by first | (simp; done) | (simp; omega) | omega) _))
      have h0 : FrAt 53 85 w0 g F _ _ C X K := h.keep fun i hi => hw.block i (h.lt hi)
      have s1 := store_local (by decide) (by decide) h0 hj1 V.zero
      have s2 := store_bound (by decide) (by decide) s1 hj2 false
      refine ⟨rfl, IsFr.of s2 (by simpa [World.setCell] using hw.size) HSl.out (fun i hi => .inl (HS.out i hi)), ?_⟩
      have hm : Mod S w w0 := Mod.new hw
      have sb : S b := HS.out b (.inr (.inl rfl))
      have sb' : S b' := HS.out b' (.inr (.inr (.inl rfl)))
      exact (((hm.setCell (fun _ => sb) _).setCell (fun _ => sb) _).setCell (fun _ => sb) _).setCell (fun _ => sb') _
end Go.Proofs.Ythdkloojhenlkaa
