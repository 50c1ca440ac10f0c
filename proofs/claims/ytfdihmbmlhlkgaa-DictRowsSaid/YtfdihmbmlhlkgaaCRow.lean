/- DictRows holds: for all arguments the statement answers true, and leaves all that there was as it was. No condition. -/
import Derived.Test.YtfdihmbmlhlkgaaLRow
import Derived.Test.YtfdihmbmlhlkgaaOpc
import Derived.Test.YtfdihmbmlhlkgaaRows
namespace Go.Proofs.Ytfdihmbmlhlkgaa
open Go.ChangeShapes Go.WideShapes Go.ChangeAt Go.RowKit Go.WideElems Go.Deep

set_option maxRecDepth 100000 in
theorem dictRows_lifted (os : Os) (started : os.Started) (H : Type) (enc : TypeId × Value → H) :
    ReturnsInHanded {} Try.checked os 4 .any (Rows.dictRowsSpec.pre6 enc Try.prog Try.f4 Rows.dictRowsRow.domain false) (Rows.dictRowsSpec.post enc Try.prog Try.f4 false true false false) := by
  refine returnsInHanded_of_change (C := Try.checked) Try.own started (by kernel_rfl) Try.func4
    (ChangeSpec.witness6 (enc := enc) (C := Try.checked) false ⟨#[], #[.slice none 0 0], []⟩ 8 (by kernel_rfl) (by kernel_rfl) (by kernel_rfl) (by kernel_rfl)) ?_
  intro W base args ds gs before hval0 hW hcnd _
  have hval : ∀ (j : Nat) t v, Try.f4.params[j]? = some t → args[j]? = some v → Value.okWide Try.prog W .any base t v := hval0
  have hW' := hW
  obtain ⟨p, q, hA0, hV, rfl, hfz, hnd⟩ := hW
  have hA : DataW.TrodAll enc Try.prog W 0 (fun _ => true) true Try.f4.params.toList args.toList ds p := hA0
  rw [Try.params4] at hA hval
  obtain ⟨v0, d0, rfl, rfl, h0⟩ := trodAll_one hA
  obtain ⟨A0, n0, c0, l0, rfl, r0⟩ := open_calls (hval 0 22 v0 rfl rfl) h0
  refine (rows_walk A0 n0 c0 l0 W r0).mono fun e W' ⟨he, hb⟩ => ?_
  subst he
  exact ⟨_, rfl, law_post Try.laidOut (by rw [Try.params4]; decide +kernel) (by kernel_rfl) Try.underlying4 rfl (by
    intro l hl
    rw [Try.params4] at hl
    match l, hl with
    | [e0], _ => rfl) hW' hb⟩

theorem dictRows_holds : Rows.DictRowsSaid :=
  OpenClaim.holds_of_wide 4 Try.f4 rfl rfl rfl rfl rfl rfl rfl ⟨rfl, rfl, rfl, rfl, rfl⟩ rfl rfl rfl rfl rfl (by kernel_rfl) Try.func4 (by kernel_rfl)
    (of_decide_eq_true (by kernel_rfl)) (by unfold Func.isWrapper; first | (rw [if_pos (by decide +kernel)]; kernel_rfl) | (rw [if_neg (by decide +kernel)]; exact ⟨rfl, rfl⟩))
    (fun os started H enc _ => dictRows_lifted os started H enc)
#print axioms dictRows_holds
end Go.Proofs.Ytfdihmbmlhlkgaa
