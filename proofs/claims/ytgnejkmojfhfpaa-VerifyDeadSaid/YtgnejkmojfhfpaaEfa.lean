/- verify.effects. -/
import Derived.Test.YtgnejkmojfhfpaaEfs
import Derived.Laws.EntriesVeiled
namespace Go.Proofs.Ytgnejkmojfhfpaa
open Go.RowKit
set_option linter.unusedVariables false
set_option linter.unusedSimpArgs false

theorem rep_false {n i : Nat} (h : (Array.replicate n false).getD i false = true) : False := by
  have := listed_lt h
  simp at this
  simp [this] at h
theorem J.start {ops : Array Oper} {a : Act} {w0 w : World} {b1 b2 b3 b4 g : Nat} (hs : a.tmps.size = 249)
    (e1 : a.eval (.tmp 1) = .func (.func 35) #[] #[]) (e2 : a.eval (.tmp 2) = .func (.func 37) #[] #[]) (e4 : a.eval (.tmp 4) = .func (.func 41) #[] #[]) (e5 : a.eval (.tmp 5) = .func (.func 42) #[] #[])
    (e6 : a.eval (.tmp 6) = .func (.func 40) #[] #[.pointer (some ⟨b1, 0, none⟩)]) (e7 : a.eval (.tmp 7) = .func (.func 40) #[] #[.pointer (some ⟨b2, 0, none⟩)]) (e8 : a.eval (.tmp 8) = .func (.func 40) #[] #[.pointer (some ⟨b3, 0, none⟩)])
    (e9 : a.eval (.tmp 9) = .pointer (some ⟨g, 0, none⟩)) (e10 : a.eval (.tmp 10) = .func (.func 47) #[] #[.pointer (some ⟨g, 0, none⟩)])
    (e11 : a.eval (.tmp 11) = .func (.func 48) #[] #[]) (e12 : a.eval (.tmp 12) = .func (.func 50) #[] #[]) (e13 : a.eval (.tmp 13) = .func (.func 51) #[] #[]) (e14 : a.eval (.tmp 14) = .func (.func 52) #[] #[]) (e15 : a.eval (.tmp 15) = .func (.func 53) #[] #[])
    (hb : Below w0.heap.size w0 w) (h1 : Blk w b1 91 #[.func (.func 43) #[] #[]]) (h2 : Blk w b2 91 #[.func (.func 44) #[] #[]]) (h3 : Blk w b3 91 #[.func (.func 45) #[] #[]]) (h4 : Blk w b4 91 #[.func (.func 46) #[] #[]])
    (hg : Blk w g 73 #[.func (.func 40) #[] #[.pointer (some ⟨b4, 0, none⟩)]]) : J ops a.defers w0 (Array.replicate ops.size false) a w.drew := by
  refine ⟨by simp, hs, rfl, fun s vk hs => ?_, ⟨g, _, e9, hg, ⟨b4, rfl, h4⟩⟩, fun i o d vk _ hl => (rep_false hl).elim, fun hl => (rep_false hl).elim, fun i o _ hl => (rep_false hl).elim, fun i o _ hl => (rep_false hl).elim, hb.drew, fun n _ _ hl => (rep_false hl).elim⟩
  unfold baseVK at hs
  split at hs <;> cases hs
  · exact e1
  · exact e2
  · exact e4
  · exact e5
  · exact ⟨b1, e6, h1⟩
  · exact ⟨b2, e7, h2⟩
  · exact ⟨b3, e8, h3⟩
  · exact ⟨g, b4, e10, hg, h4⟩
  · exact e11
  · exact e12
  · exact e13
  · exact e14
  · exact e15
set_option maxRecDepth 100000 in
set_option maxHeartbeats 4000000 in
theorem effects_any (w : World) : Calls Try.prog 21 #[] w fun e w' => (∃ g, e = .returned (.map (some g)) ∧ IsEff w' g) ∧ Below w.heap.size w w' := by
  go_enter Try.func21, Try.ntmps21
  go_wp2_with fail
  refine (below_made 43 w).mono ?_
  rintro e w1 ⟨⟨b1, rfl, -, h1⟩, hb1⟩
  have H1 := Lib.hid h1
  have B1 := Lib.hid hb1
  clear h1 hb1
  go_wp2_with fail
  refine (below_made 44 w1).mono ?_
  rintro e w2 ⟨⟨b2, rfl, -, h2⟩, hb2⟩
  have H2 := Lib.hid h2
  have B2 := Lib.hid hb2
  clear h2 hb2
  go_wp2_with fail
  refine (below_made 45 w2).mono ?_
  rintro e w3 ⟨⟨b3, rfl, -, h3⟩, hb3⟩
  have H3 := Lib.hid h3
  have B3 := Lib.hid hb3
  clear h3 hb3
  go_wp2_with fail
  refine (below_made 46 w3).mono ?_
  rintro e w4 ⟨⟨b4, rfl, -, h4⟩, hb4⟩
  have H4 := Lib.hid h4
  have B4 := Lib.hid hb4
  clear h4 hb4
  go_wp2_with fail
  refine eff_region (w0 := w) (by kernel_rfl) ?_ ?_
  · have hb4 : ∀ {W : World}, Below w4.heap.size w4 W → Below w.heap.size w W := fun h => B1.out.trans ((B2.out.trans ((B3.out.trans ((B4.out.trans (h.mono B4.out.size)).mono B3.out.size)).mono B2.out.size)).mono B1.out.size) |> fun h => h
    have h3 : ∀ {W : World}, Below w4.heap.size w4 W → Blk W b3 91 #[.func (.func 45) #[] #[]] := fun h => (H3.out.new' B4.out).new' h
    have h2 : ∀ {W : World}, Below w4.heap.size w4 W → Blk W b2 91 #[.func (.func 44) #[] #[]] := fun h => ((H2.out.new' B3.out).new' B4.out).new' h
    have h1 : ∀ {W : World}, Below w4.heap.size w4 W → Blk W b1 91 #[.func (.func 43) #[] #[]] := fun h => (((H1.out.new' B2.out).new' B3.out).new' B4.out).new' h
    have h4 : ∀ {W : World}, Below w4.heap.size w4 W → Blk W b4 91 #[.func (.func 46) #[] #[]] := fun h => H4.out.new' h
    refine J.start (b1 := b1) (b2 := b2) (b3 := b3) (b4 := b4) (g := w4.heap.size) rfl rfl rfl rfl rfl rfl rfl rfl rfl rfl rfl rfl rfl rfl rfl (hb4 ?_) (h1 ?_) (h2 ?_) (h3 ?_) (h4 ?_) ?_
    case refine_6 => exact Blk.new _ _ _
    all_goals exact (by repeat (first | exact Below.refl _ _ | assumption | refine Below.setCell ?_ (by first | (simp; done) | (simp; omega) | omega) _ | refine below_drewN ?_ _ | refine Below.drew ?_ | refine Below.alloc ?_ (by first | (simp; done) | (simp; omega) | omega) _))
  · rintro a' w' ⟨⟨g, h1, h2⟩, h3, h4⟩
    rename_i K hK
    refine hK a' w' ?_
    have h5 : a'.tmps.getD 0 undef = .map (some g) := h1
    have h6 : a'.tmps[0]?.getD undef = .map (some g) := by simpa using h5
    refine wp_ret ?_
    exact bodyPost_ret (v := .map (some g)) (by simp [results, Try.results21, go_sem, h6]) h3 ⟨⟨g, rfl, h2⟩, h4⟩
end Go.Proofs.Ytgnejkmojfhfpaa
