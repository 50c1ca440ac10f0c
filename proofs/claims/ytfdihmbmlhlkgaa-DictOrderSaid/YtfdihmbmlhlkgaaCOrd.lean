/- DictOrder holds: for all arguments the statement answers true, and leaves all that there was as it was. No condition. -/
import Derived.Test.YtfdihmbmlhlkgaaLOrd
import Derived.Test.YtfdihmbmlhlkgaaOpc
import Derived.Test.YtfdihmbmlhlkgaaRows
namespace Go.Proofs.Ytfdihmbmlhlkgaa
open Go.ChangeShapes Go.WideShapes Go.ChangeAt Go.RowKit Go.WideElems Go.Deep

set_option maxRecDepth 100000 in
theorem dictOrder_lifted (os : Os) (started : os.Started) (H : Type) (enc : TypeId × Value → H) :
    ReturnsInHanded {} Try.checked os 3 .any (Rows.dictOrderSpec.pre6 enc Try.prog Try.f3 Rows.dictOrderRow.domain false) (Rows.dictOrderSpec.post enc Try.prog Try.f3 false true false false) := by
  refine returnsInHanded_of_change (C := Try.checked) Try.own started (by kernel_rfl) Try.func3
    (ChangeSpec.witness6 (enc := enc) (C := Try.checked) false ⟨#[], #[.slice none 0 0, .agg #[.int .i64 0, .int .i64 0, .string ⟨#[]⟩], .agg #[.int .i64 0, .int .i64 0, .string ⟨#[]⟩, .int .i64 0, .int .i64 0, .string ⟨#[]⟩]], []⟩ 8 (by kernel_rfl) (by kernel_rfl) (by kernel_rfl) (by kernel_rfl)) ?_
  intro W base args ds gs before hval0 hW hcnd _
  have hval : ∀ (j : Nat) t v, Try.f3.params[j]? = some t → args[j]? = some v → Value.okWide Try.prog W .any base t v := hval0
  have hW' := hW
  obtain ⟨p, q, hA0, hV, rfl, hfz, hnd⟩ := hW
  have hA : DataW.TrodAll enc Try.prog W 0 (fun _ => true) true Try.f3.params.toList args.toList ds p := hA0
  rw [Try.params3] at hA hval
  obtain ⟨v0, v1, v2, d0, d1, d2, p0, p1, p2, rfl, rfl, rfl, h0, h1, h2⟩ := trodAll_three hA
  obtain ⟨A0, n0, c0, l0, rfl, r0⟩ := open_calls (hval 0 22 v0 rfl rfl) h0
  obtain ⟨x1, rfl, k1⟩ := open_VOk (hval 1 24 v1 rfl rfl) h1
  obtain ⟨x2, y2, rfl, k2, m2⟩ := open_V2Ok (hval 2 25 v2 rfl rfl) h2
  refine (order_walk A0 n0 c0 l0 x1 x2 y2 W r0 k1).mono fun e W' ⟨he, hb⟩ => ?_
  subst he
  exact ⟨_, rfl, law_post Try.laidOut (by rw [Try.params3]; decide +kernel) (by kernel_rfl) Try.underlying4 rfl (by
    intro l hl
    rw [Try.params3] at hl
    match l, hl with
    | [e0, e1, e2], _ => rfl) hW' hb⟩

theorem dictOrder_holds : Rows.DictOrderSaid :=
  OpenClaim.holds_of_wide 3 Try.f3 rfl rfl rfl rfl rfl rfl rfl ⟨rfl, rfl, rfl, rfl, rfl⟩ rfl rfl rfl rfl rfl (by kernel_rfl) Try.func3 (by kernel_rfl)
    (of_decide_eq_true (by kernel_rfl)) (by unfold Func.isWrapper; first | (rw [if_pos (by decide +kernel)]; kernel_rfl) | (rw [if_neg (by decide +kernel)]; exact ⟨rfl, rfl⟩))
    (fun os started H enc _ => dictOrder_lifted os started H enc)
#print axioms dictOrder_holds
end Go.Proofs.Ytfdihmbmlhlkgaa
