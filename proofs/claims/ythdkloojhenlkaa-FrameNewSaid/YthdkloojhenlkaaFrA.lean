/- Push, cut, local and bound of a frame. -/
import Derived.Test.YthdkloojhenlkaaFr
import Derived.Deep.QuietTactic
import Derived.BigQuiet
import Derived.ChangeAlike
import Derived.RegionTactic
import Derived.LoopTactic
namespace Go.Proofs.Ythdkloojhenlkaa
open Go.RowKit
attribute [local go_sem high] guardV eqV neqV
attribute [local go_sem] V.v

set_option maxHeartbeats 400000 in
theorem push_any (g : Nat) (F : Fr) (S : Nat → Prop) (A : Option Addr) (m c : Nat) (xs : List V) (w : World) (hF : IsFr 53 85 w S g F) (hr : RdV w A m c xs) (hlen : F.values.length + m ≤ 4398046511104) :
    Calls Try.prog 20 #[.pointer (some ⟨g, 0, none⟩), .slice A m c] w fun e w' => e = .returned (.tuple #[]) ∧ IsFr 53 85 w' (Grew S w w') g { F with values := F.values ++ xs } ∧ Mod S w w' := by
  obtain ⟨L, B, C, X, K, h, hS, hSl⟩ := hF
  have c8 : w.cell? ⟨g, 8, none⟩ = some X := h.blk.cell 8
  have HS := Lib.hid hS
  have HSl := Lib.hid hSl
  clear hS hSl
  go_enter Try.func20, Try.ntmps20
  go_wp2_with (at_builtin; refine wpList_appendV _ rfl _ _ rfl X F.values rfl h.x A m c xs rfl hr hlen ?_; intro X' w1 hX' hg hb; obtain ⟨A', n', c', rfl, _⟩ := hX'.rd; have c8' : w1.cell? ⟨g, 8, none⟩ = some X := ((h.blk.grown hg (Ne.symm (own_blk_ne h.x h.blk (by decide)))).cell 8); have f8' : w1.frozen? ⟨g, 8, none⟩ = false := ((h.blk.grown hg (Ne.symm (own_blk_ne h.x h.blk (by decide)))).frozen 8))
  go_end0
  refine ⟨rfl, IsFr.of (set_values (by decide) (by decide) (by decide) (by decide) h hX' hg hb) (by simpa [World.setCell] using hg.size) HSl.out (foot_x HS.out hb), ?_⟩
  exact ((Mod.refl S w).grown hg fun k e _ => HS.out k (.inr (.inr (.inr (.inr (.inl e)))))).setCell (fun _ => HS.out g (.inl rfl)) _

set_option maxHeartbeats 400000 in
theorem cut_any (g : Nat) (F : Fr) (S : Nat → Prop) (k : Nat) (w : World) (hF : IsFr 53 85 w S g F) (hk : k ≤ F.values.length) :
    Calls Try.prog 39 #[.pointer (some ⟨g, 0, none⟩), .int .i64 k] w fun e w' => e = .returned (.tuple #[]) ∧ IsFr 53 85 w' (Grew S w w') g { F with values := F.values.take k } ∧ Mod S w w' := by
  obtain ⟨L, B, C, X, K, h, hS, hSl⟩ := hF
  have c8 : w.cell? ⟨g, 8, none⟩ = some X := h.blk.cell 8
  have f8 : w.frozen? ⟨g, 8, none⟩ = false := h.blk.frozen 8
  obtain ⟨A, n, c, rfl, hr, hA⟩ := h.x.rd
  have hn : k ≤ n := by rw [← hr.1]; exact hk
  have hc := hr.2.1
  have hc2 := hr.2.2.1
  have HS := Lib.hid hS
  have HSl := Lib.hid hSl
  clear hS hSl
  go_enter Try.func39, Try.ntmps39
  go_wp2
  go_end0
  refine ⟨rfl, IsFr.of (set_values (by decide) (by decide) (by decide) (by decide) h (h.x.cut hr.1 hn) (World.grownBy.refl w _) (.inl ?_)) (by simp [World.setCell]) HSl.out (foot_x HS.out (.inl ?_)), ?_⟩
  · cases A <;> rfl
  · cases A <;> rfl
  · exact (Mod.refl S w).setCell (fun _ => HS.out g (.inl rfl)) _

/-- whether there is a local -/
def Fr.has (F : Fr) (i : Int) : Bool := decide (0 ≤ i ∧ i < F.locals.length ∧ i < F.bound.length)

set_option maxHeartbeats 400000 in
theorem local_any (g : Nat) (F : Fr) (S : Nat → Prop) (i : Int) (w : World) (hF : IsFr 53 85 w S g F) :
    Calls Try.prog 41 #[.pointer (some ⟨g, 0, none⟩), .int .i64 i] w fun e w' => e = .returned (.bool (F.has i)) ∧ ∃ q, w' = w.drewN q := by
  obtain ⟨L, B, C, X, K, h, hS, hSl⟩ := hF
  have c2 : w.cell? ⟨g, 2, none⟩ = some L := h.blk.cell 2
  have c3 : w.cell? ⟨g, 3, none⟩ = some B := h.blk.cell 3
  obtain ⟨A, n, c, rfl, hr, hA⟩ := h.l.rd
  obtain ⟨A', n', c', rfl, hr', hA'⟩ := h.b.rd
  clear hS hSl hA hA'
  have fin : ∀ b : Bool, (b = decide (0 ≤ i ∧ i < (n : Int) ∧ i < (n' : Int))) → Ending.returned (.bool b) = .returned (.bool (F.has i)) := by
    intro b hb
    unfold Fr.has
    rw [hb, hr.1, hr'.1]
  have Fin := Lib.hid fin
  clear fin
  by_cases h0 : 0 ≤ i
  · by_cases hmn : n' < n
    · go_enter Try.func41, Try.ntmps41
      go_wp2
      go_quiet (fail)
      go_wp2
      go_ret
      exact ⟨Fin.out _ (by simp [h0]; omega), _, rfl⟩
    · go_enter Try.func41, Try.ntmps41
      go_wp2
      go_quiet (fail)
      go_wp2
      go_ret
      exact ⟨Fin.out _ (by simp [h0]; omega), _, rfl⟩
  · have hd : decide (0 ≤ i) = false := by simpa using h0
    go_enter Try.func41, Try.ntmps41
    go_wp2
    go_quiet (fail)
    go_wp2
    go_ret
    exact ⟨Fin.out _ (by simp; omega), _, rfl⟩

/-- whether there is a local that is bound -/
def Fr.isBound (F : Fr) (i : Int) : Bool := F.has i && F.bound.getD i.toNat false

set_option maxHeartbeats 400000 in
theorem bound_any (g : Nat) (F : Fr) (S : Nat → Prop) (i : Int) (w : World) (hF : IsFr 53 85 w S g F) :
    Calls Try.prog 40 #[.pointer (some ⟨g, 0, none⟩), .int .i64 i] w fun e w' => e = .returned (.bool (F.isBound i)) ∧ ∃ q, w' = w.drewN q := by
  have hF0 := hF
  obtain ⟨L, B, C, X, K, h, hS, hSl⟩ := hF
  have c3 : w.cell? ⟨g, 3, none⟩ = some B := h.blk.cell 3
  obtain ⟨A', n', c', rfl, hr', hA'⟩ := h.b.rd
  clear hS hSl hA'
  have Hl := Lib.hid (local_any g F S i w hF0)
  clear hF0
  cases hb : F.has i
  · have e1 : F.isBound i = false := by simp [Fr.isBound, hb]
    rw [e1]
    go_enter Try.func40, Try.ntmps40
    go_wp2_with (go_at_call 41; refine Hl.out.mono ?_; rintro e w' ⟨rfl, q, rfl⟩; rw [hb])
    go_ret
    exact ⟨rfl, _, rfl⟩
  · have hb' := hb
    simp only [Fr.has, decide_eq_true_eq] at hb'
    obtain ⟨h0, _, h2⟩ := hb'
    obtain ⟨j, rfl⟩ := Int.eq_ofNat_of_zero_le h0
    have hj : j < n' := by rw [← hr'.1]; omega
    obtain ⟨b, o, rfl, hbb, hc⟩ := hr'.at_ hj
    have e1 : F.isBound (j : Int) = F.bound[j]'(by rw [hr'.1]; exact hj) := by
      simp only [Fr.isBound, hb, Bool.true_and, Int.toNat_natCast]
      rw [List.getD_eq_getElem?_getD, List.getElem?_eq_getElem]
      rfl
    rw [e1]
    generalize F.bound[j]'(by rw [hr'.1]; exact hj) = v at *
    have Hb := Lib.hid hb
    clear hb e1 hr' h2 h0
    go_enter Try.func40, Try.ntmps40
    go_wp2_with (go_at_call 41; refine Hl.out.mono ?_; rintro e w' ⟨rfl, q, rfl⟩; rw [Hb.out])
    go_ret
    exact ⟨rfl, _, rfl⟩
end Go.Proofs.Ythdkloojhenlkaa
