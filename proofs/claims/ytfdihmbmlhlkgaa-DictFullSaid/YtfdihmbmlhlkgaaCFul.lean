/- DictFull holds: for all arguments the statement answers true, and leaves all that there was as it was. No condition. -/
import Derived.Test.YtfdihmbmlhlkgaaLFul
import Derived.Test.YtfdihmbmlhlkgaaOpc
import Derived.Test.YtfdihmbmlhlkgaaRows
namespace Go.Proofs.Ytfdihmbmlhlkgaa
open Go.ChangeShapes Go.WideShapes Go.ChangeAt Go.RowKit Go.WideElems Go.Deep

set_option maxRecDepth 100000 in
theorem dictFull_lifted (os : Os) (started : os.Started) (H : Type) (enc : TypeId × Value → H) :
    ReturnsInHanded {} Try.checked os 9 .any (Rows.dictFullSpec.pre6 enc Try.prog Try.f9 Rows.dictFullRow.domain false) (Rows.dictFullSpec.post enc Try.prog Try.f9 false true false false) := by
  refine returnsInHanded_of_change (C := Try.checked) Try.own started (by kernel_rfl) Try.func9
    (ChangeSpec.witness6 (enc := enc) (C := Try.checked) false ⟨#[], #[.int .u8 0, .int .u16 0], []⟩ 8 (by kernel_rfl) (by kernel_rfl) (by kernel_rfl) (by kernel_rfl)) ?_
  intro W base args ds gs before hval0 hW hcnd _
  have hval : ∀ (j : Nat) t v, Try.f9.params[j]? = some t → args[j]? = some v → Value.okWide Try.prog W .any base t v := hval0
  have hW' := hW
  obtain ⟨p, q, hA0, hV, rfl, hfz, hnd⟩ := hW
  have hA : DataW.TrodAll enc Try.prog W 0 (fun _ => true) true Try.f9.params.toList args.toList ds p := hA0
  rw [Try.params9] at hA hval
  obtain ⟨v0, v1, d0, d1, p0, p1, rfl, rfl, rfl, h0, h1⟩ := trodAll_two hA
  obtain ⟨a0, rfl, rfl, rfl, w0⟩ := open_int Try.underlying5 (hval 0 5 v0 rfl rfl) h0
  have hb0 : 0 ≤ a0 ∧ a0 ≤ 255 := by
    simp [Lit.wf, IntKind.min, IntKind.max, IntKind.signed, IntKind.bits] at w0
    omega
  obtain ⟨a0, rfl⟩ := Int.eq_ofNat_of_zero_le hb0.1
  obtain ⟨a1, rfl, rfl, rfl, w1⟩ := open_int Try.underlying60 (hval 1 60 v1 rfl rfl) h1
  have hb1 : 0 ≤ a1 ∧ a1 ≤ 65535 := by
    simp [Lit.wf, IntKind.min, IntKind.max, IntKind.signed, IntKind.bits] at w1
    omega
  obtain ⟨a1, rfl⟩ := Int.eq_ofNat_of_zero_le hb1.1
  refine (full_walk a0 a1 (by omega) (by omega) W).mono fun e W' ⟨he, hb⟩ => ?_
  subst he
  exact ⟨_, rfl, law_post Try.laidOut (by rw [Try.params9]; decide +kernel) (by kernel_rfl) Try.underlying4 rfl (by
    intro l hl
    rw [Try.params9] at hl
    match l, hl with
    | [e0, e1], _ => rfl) hW' hb⟩

theorem dictFull_holds : Rows.DictFullSaid :=
  OpenClaim.holds_of_wide 9 Try.f9 rfl rfl rfl rfl rfl rfl rfl ⟨rfl, rfl, rfl, rfl, rfl⟩ rfl rfl rfl rfl rfl (by kernel_rfl) Try.func9 (by kernel_rfl)
    (of_decide_eq_true (by kernel_rfl)) (by unfold Func.isWrapper; first | (rw [if_pos (by decide +kernel)]; kernel_rfl) | (rw [if_neg (by decide +kernel)]; exact ⟨rfl, rfl⟩))
    (fun os started H enc _ => dictFull_lifted os started H enc)
#print axioms dictFull_holds
end Go.Proofs.Ytfdihmbmlhlkgaa
