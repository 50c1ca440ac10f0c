/- FrameNew holds: for every program, every number and every two rows of values the statement answers true, and leaves all that there was as it was. No condition. -/
import Derived.Test.YthdkloojhenlkaaLNew
import Derived.Test.YthdkloojhenlkaaOpen
import Derived.Test.YthdkloojhenlkaaRows
import Derived.Test.YthdkloojhenlkaaOpenG
namespace Go.Proofs.Ythdkloojhenlkaa
open Go.ChangeShapes Go.WideShapes Go.ChangeAt Go.RowKit Go.WideElems Go.Deep

set_option maxRecDepth 100000 in
theorem frameNew_lifted (os : Os) (started : os.Started) (H : Type) (enc : TypeId × Value → H) :
    ReturnsInHanded {} Try.checked os 3 .any (Rows.frameNewSpec.pre6 enc Try.prog Try.f3 Rows.frameNewRow.domain false) (Rows.frameNewSpec.post enc Try.prog Try.f3 false true false false) := by
  refine returnsInHanded_of_change (C := Try.checked) Try.own started (by kernel_rfl) Try.func3
    (ChangeSpec.witness6 (enc := enc) (C := Try.checked) false ⟨#[], #[.slice none 0 0, .int .i64 0, .agg #[.slice none 0 0, .slice none 0 0]], []⟩ 8 (by kernel_rfl) (by kernel_rfl) (by kernel_rfl) (by kernel_rfl)) ?_
  intro W base args ds gs before hval0 hW hcnd _
  have hval : ∀ (j : Nat) t v, Try.f3.params[j]? = some t → args[j]? = some v → Value.okWide Try.prog W .any base t v := hval0
  have hW' := hW
  obtain ⟨p, q, hA0, hV, rfl, hfz, hnd⟩ := hW
  have hA : DataW.TrodAll enc Try.prog W 0 (fun _ => true) true Try.f3.params.toList args.toList ds p := hA0
  rw [Try.params3] at hA hval
  obtain ⟨v0, v1, v2, d0, d1, d2, p0, p1, p2, rfl, rfl, rfl, h0, h1, h2⟩ := trodAll_three hA
  obtain ⟨A0, n0, c0, l0, rfl, r0⟩ := open_prog (hval 0 23 v0 rfl rfl) h0
  obtain ⟨a1, rfl, rfl, rfl, w1⟩ := open_int Try.underlying3 (hval 1 3 v1 rfl rfl) h1
  obtain ⟨B0, m0, k0, x0, B1, m1, k1, x1, rfl, s0, s1⟩ := open_rows2 (hval 2 25 v2 rfl rfl) h2
  refine (new_walk A0 n0 c0 l0 a1 B0 B1 m0 m1 k0 k1 x0 x1 W r0.1 r0.2 s0 s1).mono fun e W' ⟨he, hb⟩ => ?_
  subst he
  exact ⟨_, rfl, law_post Try.laidOut (by rw [Try.params3]; decide +kernel) (by kernel_rfl) Try.underlying4 rfl (by
    intro l hl
    rw [Try.params3] at hl
    match l, hl with
    | [e0, e1, e2], _ => rfl) hW' hb⟩

theorem frameNew_holds : Rows.FrameNewSaid :=
  OpenClaim.holds_of_wide 3 Try.f3 rfl rfl rfl rfl rfl rfl rfl ⟨rfl, rfl, rfl, rfl, rfl⟩ rfl rfl rfl rfl rfl (by kernel_rfl) Try.func3 (by kernel_rfl)
    (of_decide_eq_true (by kernel_rfl)) (by unfold Func.isWrapper; first | (rw [if_pos (by decide +kernel)]; kernel_rfl) | (rw [if_neg (by decide +kernel)]; exact ⟨rfl, rfl⟩))
    (fun os started H enc _ => frameNew_lifted os started H enc)
#print axioms frameNew_holds
end Go.Proofs.Ythdkloojhenlkaa
