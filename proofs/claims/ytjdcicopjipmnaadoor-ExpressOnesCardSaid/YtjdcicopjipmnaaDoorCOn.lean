/- It shows where the operators of one stand: a minus binds tighter than a product, and weaker than a left part of a power; a not weaker than a comparison, and tighter than an and.
   Conditions: none but the row's own (the two tables of Go's library that it lists, tied to the program's text by the card). -/
import Derived.Test.YtjdcicopjipmnaaDoorLOn
import Derived.Test.YtjdcicopjipmnaaDoorOpa
import Derived.Test.YtjdcicopjipmnaaDoorTie
import Derived.Test.YtjdcicopjipmnaaDoorCards
import Derived.SevenTiedAt
namespace Go.Proofs.YtjdcicopjipmnaaDoor
open Go.ChangeShapes Go.WideShapes Go.ChangeAt Go.RowKit Go.WideElems Go.Deep
open Go.ChangeMaps (open_string)
set_option linter.unusedVariables false
set_option linter.unusedSimpArgs false

set_option maxRecDepth 100000 in
theorem expressOnes_lifted (os : Os) (started : os.Started) (H : Type) (enc : TypeId × Value → H) :
    ReturnsInHanded {} Tryd.checked os 7 .any (fun w args => (Rows.expressOnesSpec.pre enc Tryd.prog Tryd.f7 [] false w args ∧ laidMetH Tryd.prog laid2 w) ∧ sizedMet enc Tryd.prog Tryd.f7 (OpenSpec.ofChange Rows.expressOnesSpec) false w args)
      (Rows.expressOnesSpec.post enc Tryd.prog Tryd.f7 false true false false) := by
  refine returnsInHanded_of_change_and (C := Tryd.checked) (X := fun w _ => laidMetH Tryd.prog laid2 w) (fun _ _ _ hh h => h.of_heap hh) Tryd.own started (by kernel_rfl) Tryd.func7
    (ChangeSpec.witness_shaped (enc := enc) (C := Tryd.checked) (os := os) (X := fun w _ => laidMetH Tryd.prog laid2 w) false (World.doorLaid Tryd.prog 48 os) #[.int .u8 0, .agg #[.int .i64 0, .int .i64 0], .agg #[.int .u8 0, .int .u8 0]] 8 rfl (World.shaped_of_RefB (by kernel_rfl) (by kernel_rfl)) (by kernel_rfl) (by kernel_rfl) (by kernel_rfl) (door_met os _)) ?_
  intro W base args ds gs before hval0 hW _ _ hL _
  have hval : ∀ (j : Nat) t v, Tryd.f7.params[j]? = some t → args[j]? = some v → Value.okWide Tryd.prog W .any base t v := hval0
  have hW' := hW
  obtain ⟨p, q, hA0, hV, rfl, hfz, hnd⟩ := hW
  have hA : DataW.TrodAll enc Tryd.prog W 0 (fun _ => true) true Tryd.f7.params.toList args.toList ds p := hA0
  rw [Tryd.params7] at hA hval
  obtain ⟨v0, v1, v2, d0, d1, d2, p0, p1, p2, rfl, rfl, rfl, h0, h1, h2⟩ := trodAll_three hA
  obtain ⟨a0, rfl, rfl, rfl, w0⟩ := open_int Tryd.underlying5 (hval 0 5 v0 rfl rfl) h0
  obtain ⟨a1, b1, rfl, wa1, wb1⟩ := open_arr2 und54 Tryd.underlying2 (by kernel_rfl) (by kernel_rfl) (hval 1 54 v1 rfl rfl) h1
  obtain ⟨a2, b2, rfl, wa2, wb2⟩ := open_arr2 und36 Tryd.underlying5 (by kernel_rfl) (by kernel_rfl) (hval 2 36 v2 rfl rfl) h2
  refine (ones_int a0 a2 b2 a1 b1 w0 wa2 wb2 W (asp_of_laid hL)).mono fun e W' ⟨he, hb⟩ => ?_
  subst he
  exact ⟨_, rfl, law_post Tryd.laidOut (by rw [Tryd.params7]; decide +kernel) (by kernel_rfl) Tryd.underlying4 rfl (by
    intro l hl
    rw [Tryd.params7] at hl
    match l, hl with
    | [e0, e1, e2], _ => rfl) hW' hb⟩

theorem expressOnes_row : Rows.ExpressOnesSaid :=
  OpenClaim.holds_of_wide 7 Tryd.f7 rfl rfl rfl rfl rfl rfl rfl ⟨rfl, rfl, rfl, rfl, rfl⟩ rfl rfl rfl rfl rfl (by kernel_rfl) Tryd.func7 (by kernel_rfl)
    (of_decide_eq_true (by kernel_rfl)) (by unfold Func.isWrapper; first | (rw [if_pos (by decide +kernel)]; kernel_rfl) | (rw [if_neg (by decide +kernel)]; exact ⟨rfl, rfl⟩))
    (fun os started H enc _ => expressOnes_lifted os started H enc)
theorem expressOnes_holds : Rows.ExpressOnesCardSaid :=
  Claim7.holds_tied_plain_at .later [] [.listed, .data] true (true, "b80611029f9cc223a9bba7aa6d9a2581a846767bfecba75cb4d5aa7245f37ff2") false
    expressOnes_row (fun _ h => by cases h) (by kernel_rfl) (fun _ h => by cases h) expressOnes_row_tie rfl ⟨rfl, rfl⟩ (by kernel_rfl) rfl
    (fun f fn hf hfn => by
      obtain rfl : f = 7 := Option.some.inj ((show Tryd.prog.funcNamed "krait/kraitlaw04.ExpressOnes" = some 7 by kernel_rfl).symm.trans hf) |>.symm
      obtain rfl : fn = Tryd.f7 := (Option.some.inj (Tryd.func7.symm.trans hfn)).symm
      exact ⟨by kernel_rfl, fun j t ht => by
        rw [Tryd.params7] at ht
        have hm : t ∈ [5, 54, 36] := by simpa using Array.mem_of_getElem? ht
        have hall : ([5, 54, 36].all fun u => !Tryd.prog.wantsStandIn u) = true := by kernel_rfl
        exact (show Tryd.prog.wantsStandIn t = false by simpa using List.all_eq_true.1 hall t hm)⟩)
    (by kernel_rfl)
#print axioms expressOnes_holds
end Go.Proofs.YtjdcicopjipmnaaDoor
