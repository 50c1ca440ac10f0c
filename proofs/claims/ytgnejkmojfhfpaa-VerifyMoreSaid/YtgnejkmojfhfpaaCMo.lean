/- VerifyMore: codes behind others change nothing of these; of any two programs.
   Conditions: none but the row's own. -/
import Derived.Test.YtgnejkmojfhfpaaLwe
import Derived.Test.YtgnejkmojfhfpaaOpn
import Derived.Test.YtgnejkmojfhfpaaRows
import Derived.SizedLaws
namespace Go.Proofs.Ytgnejkmojfhfpaa
open Go.ChangeShapes Go.WideShapes Go.ChangeAt Go.RowKit Go.WideElems Go.Deep
set_option linter.unusedVariables false
set_option linter.unusedSimpArgs false

set_option maxRecDepth 100000 in
theorem verifyMore_lifted (os : Os) (started : os.Started) (H : Type) (enc : TypeId × Value → H) :
    ReturnsInHanded {} Try.checked os 7 .any (Rows.verifyMoreSpec.pre6 enc Try.prog Try.f7 Rows.verifyMoreRow.domain false) (Rows.verifyMoreSpec.post enc Try.prog Try.f7 false true false false) := by
  refine returnsInHanded_of_change_sized (C := Try.checked) Try.own started (by kernel_rfl) Try.func7
    (ChangeSpec.witness6 (enc := enc) (C := Try.checked) false ⟨#[], #[.slice none 0 0, .slice none 0 0], []⟩ 8 (by kernel_rfl) (by kernel_rfl) (by kernel_rfl) (by kernel_rfl)) ?_
  intro W base args ds gs before hval0 hW _ hsz0 _
  have hsz : (DataW.weightsEach Try.prog (Try.f7.params.toList ++ Rows.verifyMoreSpec.plain.varTypes Try.prog) (ds ++ gs)).all (· ≤ reachBytes) = true := hsz0
  have hval : ∀ (j : Nat) t v, Try.f7.params[j]? = some t → args[j]? = some v → Value.okWide Try.prog W .any base t v := hval0
  have hW' := hW
  obtain ⟨p, q, hA0, hV, rfl, hfz, hnd⟩ := hW
  have hA : DataW.TrodAll enc Try.prog W 0 (fun _ => true) true Try.f7.params.toList args.toList ds p := hA0
  rw [Try.params7] at hA hval hsz
  obtain ⟨v0, v1, d0, d1, p0, p1, rfl, rfl, rfl, h0, h1⟩ := trodAll_two hA
  have z0 : Reach_ 23 d0 := fun k hk => by
    have := List.all_eq_true.1 hsz k (DataW.weights_mem_each (j := 0) (t := 23) (d := d0) rfl rfl k hk)
    exact of_decide_eq_true (p := k ≤ reachBytes) this
  obtain ⟨A0, n0, c0, l0, rfl, r0⟩ := open_prog (hval 0 23 v0 rfl rfl) h0 z0
  have z1 : Reach_ 23 d1 := fun k hk => by
    have := List.all_eq_true.1 hsz k (DataW.weights_mem_each (j := 1) (t := 23) (d := d1) rfl rfl k hk)
    exact of_decide_eq_true (p := k ≤ reachBytes) this
  obtain ⟨A1, n1, c1, l1, rfl, r1⟩ := open_prog (hval 1 23 v1 rfl rfl) h1 z1
  refine (law_more r0 r1).mono fun e W' ⟨he, hb⟩ => ?_
  subst he
  exact ⟨_, rfl, law_post Try.laidOut (by rw [Try.params7]; decide +kernel) (by kernel_rfl) Try.underlying4 rfl (by
    intro l hl
    rw [Try.params7] at hl
    match l, hl with
    | [e0, e1], _ => rfl) hW' hb⟩

theorem verifyMore_holds : Rows.VerifyMoreSaid :=
  OpenClaim.holds_of_wide 7 Try.f7 rfl rfl rfl rfl rfl rfl rfl ⟨rfl, rfl, rfl, rfl, rfl⟩ rfl rfl rfl rfl rfl (by kernel_rfl) Try.func7 (by kernel_rfl)
    (of_decide_eq_true (by kernel_rfl)) (by unfold Func.isWrapper; first | (rw [if_pos (by decide +kernel)]; kernel_rfl) | (rw [if_neg (by decide +kernel)]; exact ⟨rfl, rfl⟩))
    (fun os started H enc _ => verifyMore_lifted os started H enc)
#print axioms verifyMore_holds
end Go.Proofs.Ytgnejkmojfhfpaa
