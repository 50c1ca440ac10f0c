/- ends: tokens with which no expression goes on. -/
import Derived.Test.YtjdcicopjipmnaaDoorZax
namespace Go.Proofs.YtjdcicopjipmnaaDoor
set_option maxRecDepth 100000
set_option maxHeartbeats 8000000
open Go.RowKit
set_option linter.unusedVariables false
set_option linter.unusedSimpArgs false
def endsL : List TokD := [signT ⟨#[41]⟩, signT ⟨#[93]⟩, signT ⟨#[125]⟩, signT ⟨#[44]⟩, signT ⟨#[58]⟩, signT ⟨#[61]⟩, signT ⟨#[43, 61]⟩, wordT ⟨#[101, 108, 115, 101]⟩, wordT ⟨#[102, 111, 114]⟩, wordT ⟨#[97, 115]⟩, ⟨5, 0, ⟨#[]⟩, 0⟩, ⟨8, 0, ⟨#[]⟩, 0⟩, ⟨6, 0, ⟨#[]⟩, 0⟩, ⟨7, 0, ⟨#[]⟩, 0⟩, ⟨99, 0, ⟨#[]⟩, 0⟩, numT 7, ⟨3, 0, ⟨#[97]⟩, 0⟩, wordT ⟨#[120]⟩, wordT ⟨#[78, 111, 110, 101]⟩, signT ⟨#[123]⟩]
theorem ends_no : ∀ t ∈ endsL, noT hExpr t = true := by decide +kernel
theorem ends_short : ∀ t ∈ endsL, t.s.size ≤ 64 := by decide +kernel
theorem ends_any (w : World) : Calls Tryd.prog 19 #[] w fun e w' => ∃ A, e = .returned (.slice A 20 20) ∧ Rd w' A 20 20 4 (endsL.flatMap tcs) ∧ Below w.heap.size w w' := by
 have HB := qh (Below.refl w.heap.size w)
 go_enter Tryd.func19, Tryd.ntmps19
 go_wp2_with (first | (go_at_call 21; have hmk := HB.out.size; go_must (refine (sign_any _ _).mono ?_); rintro e w2 ⟨rfl, hb⟩; replace HB := qh (HB.out.trans (below_low hb hmk)); clear hb hmk) | (go_at_call 26; have hmk := HB.out.size; go_must (refine (word4_any _ _).mono ?_); rintro e w2 ⟨rfl, hb⟩; replace HB := qh (HB.out.trans (below_low hb hmk)); clear hb hmk) | (go_at_call 23; have hmk := HB.out.size; go_must (refine (num_any _ _).mono ?_); rintro e w2 ⟨rfl, hb⟩; replace HB := qh (HB.out.trans (below_low hb hmk)); clear hb hmk))
 go_ret
 exact ⟨_, rfl, Rd.toks _ endsL _ 20 rfl rfl (by omega), HB.out.trans (below_low (bel_one _ _) HB.out.size)⟩
end Go.Proofs.YtjdcicopjipmnaaDoor
