/- VerifyPaths: in code that is verified, whatever way is gone, also into handlers, the stack is as high as the heights tell, and never too low; of any program, code and picks.
   Conditions: none but the row's own. -/
import Derived.Test.YtgnejkmojfhfpaaLwd
import Derived.Test.YtgnejkmojfhfpaaOpn
import Derived.Test.YtgnejkmojfhfpaaRows
import Derived.SizedLaws
namespace Go.Proofs.Ytgnejkmojfhfpaa
open Go.ChangeShapes Go.WideShapes Go.ChangeAt Go.RowKit Go.WideElems Go.Deep
set_option linter.unusedVariables false
set_option linter.unusedSimpArgs false

set_option maxRecDepth 100000 in
theorem verifyPaths_lifted (os : Os) (started : os.Started) (H : Type) (enc : TypeId × Value → H) :
    ReturnsInHanded {} Try.checked os 5 .any (Rows.verifyPathsSpec.pre6 enc Try.prog Try.f5 Rows.verifyPathsRow.domain false) (Rows.verifyPathsSpec.post enc Try.prog Try.f5 false true false false) := by
  refine returnsInHanded_of_change_sized (C := Try.checked) Try.own started (by kernel_rfl) Try.func5
    (ChangeSpec.witness6 (enc := enc) (C := Try.checked) false ⟨#[], #[.slice none 0 0, .int .i64 0, .slice none 0 0], []⟩ 8 (by kernel_rfl) (by kernel_rfl) (by kernel_rfl) (by kernel_rfl)) ?_
  intro W base args ds gs before hval0 hW _ hsz0 _
  have hsz : (DataW.weightsEach Try.prog (Try.f5.params.toList ++ Rows.verifyPathsSpec.plain.varTypes Try.prog) (ds ++ gs)).all (· ≤ reachBytes) = true := hsz0
  have hval : ∀ (j : Nat) t v, Try.f5.params[j]? = some t → args[j]? = some v → Value.okWide Try.prog W .any base t v := hval0
  have hW' := hW
  obtain ⟨p, q, hA0, hV, rfl, hfz, hnd⟩ := hW
  have hA : DataW.TrodAll enc Try.prog W 0 (fun _ => true) true Try.f5.params.toList args.toList ds p := hA0
  rw [Try.params5] at hA hval hsz
  obtain ⟨v0, v1, v2, d0, d1, d2, p0, p1, p2, rfl, rfl, rfl, h0, h1, h2⟩ := trodAll_three hA
  have z0 : Reach_ 23 d0 := fun k hk => by
    have := List.all_eq_true.1 hsz k (DataW.weights_mem_each (j := 0) (t := 23) (d := d0) rfl rfl k hk)
    exact of_decide_eq_true (p := k ≤ reachBytes) this
  obtain ⟨A0, n0, c0, l0, rfl, r0⟩ := open_prog (hval 0 23 v0 rfl rfl) h0 z0
  obtain ⟨a1, rfl, rfl, rfl, w1⟩ := open_int Try.underlying3 (hval 1 3 v1 rfl rfl) h1
  have z2 : Reach_ 25 d2 := fun k hk => by
    have := List.all_eq_true.1 hsz k (DataW.weights_mem_each (j := 2) (t := 25) (d := d2) rfl rfl k hk)
    exact of_decide_eq_true (p := k ≤ reachBytes) this
  obtain ⟨A2, n2, c2, l2, rfl, m2, r2⟩ := open_ints_ (hval 2 25 v2 rfl rfl) h2 z2
  refine (law_paths r0 a1 m2 r2).mono fun e W' ⟨he, hb⟩ => ?_
  subst he
  exact ⟨_, rfl, law_post Try.laidOut (by rw [Try.params5]; decide +kernel) (by kernel_rfl) Try.underlying4 rfl (by
    intro l hl
    rw [Try.params5] at hl
    match l, hl with
    | [e0, e1, e2], _ => rfl) hW' hb⟩

theorem verifyPaths_holds : Rows.VerifyPathsSaid :=
  OpenClaim.holds_of_wide 5 Try.f5 rfl rfl rfl rfl rfl rfl rfl ⟨rfl, rfl, rfl, rfl, rfl⟩ rfl rfl rfl rfl rfl (by kernel_rfl) Try.func5 (by kernel_rfl)
    (of_decide_eq_true (by kernel_rfl)) (by unfold Func.isWrapper; first | (rw [if_pos (by decide +kernel)]; kernel_rfl) | (rw [if_neg (by decide +kernel)]; exact ⟨rfl, rfl⟩))
    (fun os started H enc _ => verifyPaths_lifted os started H enc)
#print axioms verifyPaths_holds
end Go.Proofs.Ytgnejkmojfhfpaa
