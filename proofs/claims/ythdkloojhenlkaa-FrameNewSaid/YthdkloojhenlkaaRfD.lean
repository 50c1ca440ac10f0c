/- The reference's Load, Store and Clear. -/
import Derived.Test.YthdkloojhenlkaaRfC
namespace Go.Proofs.Ythdkloojhenlkaa
open Go.RowKit
attribute [local go_sem high] guardV eqV neqV
attribute [local go_sem] V.v

set_option maxHeartbeats 400000 in
theorem rload_any (g : Nat) (F : Fr) (S : Nat → Prop) (i : Int) (w : World) (hF : IsFr 82 86 w S g F) :
    Calls Try.prog 46 #[.pointer (some ⟨g, 0, none⟩), .int .i64 i] w fun e w' => e = .returned (.tuple #[(F.load i).v, .bool (F.isBound i)]) ∧ Below w.heap.size w w' := by
  have Hl := Lib.hid (fun w' (hb : Below w.heap.size w w') => there_any g F S i w' (hF.new hb))
  obtain ⟨L, B, C, X, K, h, hS, hSl⟩ := hF
  have c2 : w.cell? ⟨g, 2, none⟩ = some L := h.blk.cell 2
  have c3 : w.cell? ⟨g, 3, none⟩ = some B := h.blk.cell 3
  have hlt := h.blk.lt
  obtain ⟨A', n', c', rfl, hr', hA'⟩ := h.l.rd
  obtain ⟨A2, n2, c2', rfl, hr2, hA2⟩ := h.b.rd
  clear hS hSl hA' hA2
  cases hh : F.has i
  · have hb : F.isBound i = false := by simp [Fr.isBound, hh]
    have e1 : F.load i = V.zero := by simp [Fr.load, hb]
    rw [e1, hb]
    have Hh := Lib.hid hh
    clear hb e1 hh
    go_enter Try.func46, Try.ntmps46
    go_wp2_with (go_at_call 52; refine (Hl.out _ ((Below.refl _ _).alloc (Nat.le_refl _) _)).mono ?_; rintro e w' ⟨rfl, rfl⟩; rw [Hh.out])
    exact bodyPost_ret (v := .tuple #[V.zero.v, .bool false]) (by simp [results, Try.results46, go_sem, V.zero]) rfl ⟨rfl, (by repeat (first | exact Below.refl _ _ | assumption | refine Below.setCell ?_ (by first | (simp; done) | (simp; omega) | omega) _ | refine below_drewN ?_ _ | refine Below.drew ?_ | refine Below.alloc ?_ (by first | (simp; done) | (simp; omega) | omega) _))⟩
  · have hh' := hh
    simp only [Fr.has, decide_eq_true_eq] at hh'
    obtain ⟨h0, h1, h2⟩ := hh'
    obtain ⟨j, rfl⟩ := Int.eq_ofNat_of_zero_le h0
    have hj : j < n' := by rw [← hr'.1]; omega
    have hj2 : j < n2 := by rw [← hr2.1]; omega
    obtain ⟨b, o, rfl, hbb, hc0, hc1, hc2⟩ := hr'.at_ hj
    obtain ⟨b2, o2, rfl, hbb2, hcb⟩ := hr2.at_ hj2
    have eb : F.isBound (j : Int) = F.bound[j]'(by rw [hr2.1]; exact hj2) := by
      simp only [Fr.isBound, hh, Bool.true_and, Int.toNat_natCast]
      rw [List.getD_eq_getElem?_getD, List.getElem?_eq_getElem]
      rfl
    have el : F.isBound (j : Int) = true → F.load (j : Int) = F.locals[j]'(by rw [hr'.1]; exact hj) := by
      intro hb
      simp only [Fr.load, hb, if_true, Int.toNat_natCast]
      rw [List.getD_eq_getElem?_getD, List.getElem?_eq_getElem]
      rfl
    have Hh := Lib.hid hh
    clear hh h0 h1 h2
    cases hb : F.isBound (j : Int)
    · have e1 : F.load (j : Int) = V.zero := by simp [Fr.load, hb]
      rw [e1]
      rw [← eb, hb] at hcb
      clear el
      generalize F.locals[j]'(by rw [hr'.1]; exact hj) = v at *
      clear hb e1 eb hr' hr2
      go_enter Try.func46, Try.ntmps46
      go_wp2_with (go_at_call 52; refine (Hl.out _ ((Below.refl _ _).alloc (Nat.le_refl _) _)).mono ?_; rintro e w' ⟨rfl, rfl⟩; rw [Hh.out])
      exact bodyPost_ret (v := .tuple #[V.zero.v, .bool false]) (by simp [results, Try.results46, go_sem, V.zero]) rfl ⟨rfl, (by repeat (first | exact Below.refl _ _ | assumption | refine Below.setCell ?_ (by first | (simp; done) | (simp; omega) | omega) _ | refine below_drewN ?_ _ | refine Below.drew ?_ | refine Below.alloc ?_ (by first | (simp; done) | (simp; omega) | omega) _))⟩
    · rw [el hb]
      rw [← eb, hb] at hcb
      generalize F.locals[j]'(by rw [hr'.1]; exact hj) = v at *
      clear hb eb el hr' hr2
      go_enter Try.func46, Try.ntmps46
      go_wp2_with (go_at_call 52; refine (Hl.out _ ((Below.refl _ _).alloc (Nat.le_refl _) _)).mono ?_; rintro e w' ⟨rfl, rfl⟩; rw [Hh.out])
      exact bodyPost_ret (v := .tuple #[v.v, .bool true]) (by simp [results, Try.results46, go_sem]) rfl ⟨rfl, (by repeat (first | exact Below.refl _ _ | assumption | refine Below.setCell ?_ (by first | (simp; done) | (simp; omega) | omega) _ | refine below_drewN ?_ _ | refine Below.drew ?_ | refine Below.alloc ?_ (by first | (simp; done) | (simp; omega) | omega) _))⟩
end Go.Proofs.Ythdkloojhenlkaa
