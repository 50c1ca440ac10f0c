/- FrameSet holds: for every three rows of values, every row of blocks and every script of calls the statement answers true, and leaves all that there was as it was. No condition. -/
import Derived.Test.YthdkloojhenlkaaLSet
import Derived.Test.YthdkloojhenlkaaOpen
import Derived.Test.YthdkloojhenlkaaRows
import Derived.Test.YthdkloojhenlkaaOpenF
namespace Go.Proofs.Ythdkloojhenlkaa
open Go.ChangeShapes Go.WideShapes Go.ChangeAt Go.RowKit Go.WideElems Go.Deep

set_option maxRecDepth 100000 in
theorem frameSet_lifted (os : Os) (started : os.Started) (H : Type) (enc : TypeId × Value → H) :
    ReturnsInHanded {} Try.checked os 11 .any (Rows.frameSetSpec.pre6 enc Try.prog Try.f11 Rows.frameSetRow.domain false) (Rows.frameSetSpec.post enc Try.prog Try.f11 false true false false) := by
  refine returnsInHanded_of_change (C := Try.checked) Try.own started (by kernel_rfl) Try.func11
    (ChangeSpec.witness6 (enc := enc) (C := Try.checked) false ⟨#[], #[.agg #[.slice none 0 0, .slice none 0 0, .slice none 0 0], .slice none 0 0, .slice none 0 0], []⟩ 8 (by kernel_rfl) (by kernel_rfl) (by kernel_rfl) (by kernel_rfl)) ?_
  intro W base args ds gs before hval0 hW hcnd _
  have hval : ∀ (j : Nat) t v, Try.f11.params[j]? = some t → args[j]? = some v → Value.okWide Try.prog W .any base t v := hval0
  have hW' := hW
  obtain ⟨p, q, hA0, hV, rfl, hfz, hnd⟩ := hW
  have hA : DataW.TrodAll enc Try.prog W 0 (fun _ => true) true Try.f11.params.toList args.toList ds p := hA0
  rw [Try.params11] at hA hval
  obtain ⟨v0, v1, v2, d0, d1, d2, p0, p1, p2, rfl, rfl, rfl, h0, h1, h2⟩ := trodAll_three hA
  obtain ⟨B0, m0, k0, x0, B1, m1, k1, x1, B2, m2, k2, x2, rfl, s0, s1, s2⟩ := open_rows3 (hval 0 78 v0 rfl rfl) h0
  obtain ⟨A1, n1, c1, l1, rfl, r1⟩ := open_pairs (hval 1 79 v1 rfl rfl) h1
  obtain ⟨A2, n2, c2, l2, rfl, r2⟩ := open_calls (hval 2 73 v2 rfl rfl) h2
  refine (set_walk B0 B1 B2 m0 m1 m2 k0 k1 k2 x0 x1 x2 A1 n1 c1 l1 A2 n2 c2 l2 W s0 s1 s2 r1 r2).mono fun e W' ⟨he, hb⟩ => ?_
  subst he
  exact ⟨_, rfl, law_post Try.laidOut (by rw [Try.params11]; decide +kernel) (by kernel_rfl) Try.underlying4 rfl (by
    intro l hl
    rw [Try.params11] at hl
    match l, hl with
    | [e0, e1, e2], _ => rfl) hW' hb⟩

theorem frameSet_holds : Rows.FrameSetSaid :=
  OpenClaim.holds_of_wide 11 Try.f11 rfl rfl rfl rfl rfl rfl rfl ⟨rfl, rfl, rfl, rfl, rfl⟩ rfl rfl rfl rfl rfl (by kernel_rfl) Try.func11 (by kernel_rfl)
    (of_decide_eq_true (by kernel_rfl)) (by unfold Func.isWrapper; first | (rw [if_pos (by decide +kernel)]; kernel_rfl) | (rw [if_neg (by decide +kernel)]; exact ⟨rfl, rfl⟩))
    (fun os started H enc _ => frameSet_lifted os started H enc)
#print axioms frameSet_holds
end Go.Proofs.Ythdkloojhenlkaa
