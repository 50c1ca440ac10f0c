/- It shows that places of tokens are those of nodes: moved by any number, they move by as much, and all else is the same; and that each node begins where a token of its own does.
   Conditions: none but the row's own (the two tables of Go's library that it lists, tied to the program's text by the card). -/
import Derived.Test.YtjdcicopjipmnaaDoorLPl
import Derived.Test.YtjdcicopjipmnaaDoorOpa
import Derived.Test.YtjdcicopjipmnaaDoorTie
import Derived.Test.YtjdcicopjipmnaaDoorCards
import Derived.SevenTiedAt
namespace Go.Proofs.YtjdcicopjipmnaaDoor
open Go.ChangeShapes Go.WideShapes Go.ChangeAt Go.RowKit Go.WideElems Go.Deep
open Go.ChangeMaps (open_string)
set_option linter.unusedVariables false
set_option linter.unusedSimpArgs false

set_option maxRecDepth 100000 in
theorem expressPlaces_lifted (os : Os) (started : os.Started) (H : Type) (enc : TypeId × Value → H) :
    ReturnsInHanded {} Tryd.checked os 8 .any (fun w args => (Rows.expressPlacesSpec.pre enc Tryd.prog Tryd.f8 [] false w args ∧ laidMetH Tryd.prog laid2 w) ∧ sizedMet enc Tryd.prog Tryd.f8 (OpenSpec.ofChange Rows.expressPlacesSpec) false w args)
      (Rows.expressPlacesSpec.post enc Tryd.prog Tryd.f8 false true false false) := by
  refine returnsInHanded_of_change_and (C := Tryd.checked) (X := fun w _ => laidMetH Tryd.prog laid2 w) (fun _ _ _ hh h => h.of_heap hh) Tryd.own started (by kernel_rfl) Tryd.func8
    (ChangeSpec.witness_shaped (enc := enc) (C := Tryd.checked) (os := os) (X := fun w _ => laidMetH Tryd.prog laid2 w) false (World.doorLaid Tryd.prog 48 os) #[.slice none 0 0, .int .i64 0] 8 rfl (World.shaped_of_RefB (by kernel_rfl) (by kernel_rfl)) (by kernel_rfl) (by kernel_rfl) (by kernel_rfl) (door_met os _)) ?_
  intro W base args ds gs before hval0 hW _ _ hL _
  have hval : ∀ (j : Nat) t v, Tryd.f8.params[j]? = some t → args[j]? = some v → Value.okWide Tryd.prog W .any base t v := hval0
  have hW' := hW
  obtain ⟨p, q, hA0, hV, rfl, hfz, hnd⟩ := hW
  have hA : DataW.TrodAll enc Tryd.prog W 0 (fun _ => true) true Tryd.f8.params.toList args.toList ds p := hA0
  rw [Tryd.params8] at hA hval
  obtain ⟨v0, v1, d0, d1, p0, p1, rfl, rfl, rfl, h0, h1⟩ := trodAll_two hA
  obtain ⟨A0, n0, c0, l0, rfl, r0, o0⟩ := open_toks (hval 0 26 v0 rfl rfl) h0
  obtain ⟨a1, rfl, rfl, rfl, w1⟩ := open_int Tryd.underlying3 (hval 1 3 v1 rfl rfl) h1
  refine (places_walk a1 r0 o0.1 (fun t ht => (o0.2 t ht).range) (asp_of_laid hL)).mono fun e W' ⟨he, hb⟩ => ?_
  subst he
  exact ⟨_, rfl, law_post Tryd.laidOut (by rw [Tryd.params8]; decide +kernel) (by kernel_rfl) Tryd.underlying4 rfl (by
    intro l hl
    rw [Tryd.params8] at hl
    match l, hl with
    | [e0, e1], _ => rfl) hW' hb⟩

theorem expressPlaces_row : Rows.ExpressPlacesSaid :=
  OpenClaim.holds_of_wide 8 Tryd.f8 rfl rfl rfl rfl rfl rfl rfl ⟨rfl, rfl, rfl, rfl, rfl⟩ rfl rfl rfl rfl rfl (by kernel_rfl) Tryd.func8 (by kernel_rfl)
    (of_decide_eq_true (by kernel_rfl)) (by unfold Func.isWrapper; first | (rw [if_pos (by decide +kernel)]; kernel_rfl) | (rw [if_neg (by decide +kernel)]; exact ⟨rfl, rfl⟩))
    (fun os started H enc _ => expressPlaces_lifted os started H enc)
theorem expressPlaces_holds : Rows.ExpressPlacesCardSaid :=
  Claim7.holds_tied_plain_at .later [] [.listed, .data] true (true, "b80611029f9cc223a9bba7aa6d9a2581a846767bfecba75cb4d5aa7245f37ff2") false
    expressPlaces_row (fun _ h => by cases h) (by kernel_rfl) (fun _ h => by cases h) expressPlaces_row_tie rfl ⟨rfl, rfl⟩ (by kernel_rfl) rfl
    (fun f fn hf hfn => by
      obtain rfl : f = 8 := Option.some.inj ((show Tryd.prog.funcNamed "krait/kraitlaw04.ExpressPlaces" = some 8 by kernel_rfl).symm.trans hf) |>.symm
      obtain rfl : fn = Tryd.f8 := (Option.some.inj (Tryd.func8.symm.trans hfn)).symm
      exact ⟨by kernel_rfl, fun j t ht => by
        rw [Tryd.params8] at ht
        have hm : t ∈ [26, 3] := by simpa using Array.mem_of_getElem? ht
        have hall : ([26, 3].all fun u => !Tryd.prog.wantsStandIn u) = true := by kernel_rfl
        exact (show Tryd.prog.wantsStandIn t = false by simpa using List.all_eq_true.1 hall t hm)⟩)
    (by kernel_rfl)
#print axioms expressPlaces_holds
end Go.Proofs.YtjdcicopjipmnaaDoor
