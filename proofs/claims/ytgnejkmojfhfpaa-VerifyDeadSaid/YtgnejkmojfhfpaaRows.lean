/-
  No cell of these rows narrows 'for every input' (looked for: loops, veiled, ifaces, maps, wideKeys, modest, calm, conditions, laid).
  DERIVED. THE GIVEN ROWS OF THIS SEAT. 7 by the template 'for every input the law returns true; each argument reads behind the call as it read before'; 0 by the template 'total and deterministic' (their statements: YtgnejkmojfhfpaaTotals.lean).
  GIVEN WITH THE SEED: the statements are not yours to turn. If you find one false, say at which input.
  Laid BY PROGRAM, IN A SANDBOX (cutbox-rows.mjs): the forced cells as the released guide's own fill.sh prints them over the translation f199d4c45d0ef623… (all of the seat's roots in one cut). By AI agents, Wed Nov 11 2026. No macro, syntax, notation, axiom, sorry.
-/
import Derived.Test.YtgnejkmojfhfpaaChecked
import GoSem.Claim
import GoSem.ClaimJoined
import GoSem.ClaimMapViews
import Derived.JoinedTies
import Derived.KernelRfl
namespace Go.Proofs.Ytgnejkmojfhfpaa
/- THE CELL 'sum', in the pinned program and in every row, IS THE sha256 OF THE DUMP (.gsa) THAT YtgnejkmojfhfpaaProg.lean LOADS. Nothing in Lean hashes anything: it is a label: what it is worth is what the hold of that sum in a sandbox is worth. -/
noncomputable def Try.pinned : Pinned := { name := "ytgnejkmojfhfpaa", sum := "f199d4c45d0ef623da2265ead961931d271e07de926d336abc3140afb2ee5026", checked := Try.checked }
namespace Rows
def none {H : Type} : Left H := { results := [], args := [] }

/-- 'kraitlaw21.VerifyHeights': WHATEVER THE INPUT: true; the input reads as it did. -/
def verifyHeightsSpec : ChangeSpec := { name := "verifyHeights", fn := fun _ => fun
  | [d1, d2] => { results := [.lit (.bool true)], args := [d1, d2] }
  | _ => none }
def verifyHeightsRow : OpenClaim := { program := "ytgnejkmojfhfpaa", sum := "f199d4c45d0ef623da2265ead961931d271e07de926d336abc3140afb2ee5026", func := "krait/kraitlaw21.VerifyHeights", spec := "verifyHeights", unfollowed := true, recurses := true, apart := false }
def VerifyHeightsSaid : Prop := verifyHeightsRow.holds Try.pinned (OpenSpec.ofChange verifyHeightsSpec)

/-- ITS FALSE NEIGHBOUR: 'it returns false'. Refute it at one input. -/
def verifyHeightsWrong : ChangeSpec := { name := "verifyHeights", fn := fun _ => fun
  | [d1, d2] => { results := [.lit (.bool false)], args := [d1, d2] }
  | _ => none }
def VerifyHeightsWrongFalsely : Prop := verifyHeightsRow.holds Try.pinned (OpenSpec.ofChange verifyHeightsWrong)

/-- 'kraitlaw21.VerifyPrograms': WHATEVER THE INPUT: true; the input reads as it did. -/
def verifyProgramsSpec : ChangeSpec := { name := "verifyPrograms", fn := fun _ => fun
  | [d] => { results := [.lit (.bool true)], args := [d] }
  | _ => none }
def verifyProgramsRow : OpenClaim := { program := "ytgnejkmojfhfpaa", sum := "f199d4c45d0ef623da2265ead961931d271e07de926d336abc3140afb2ee5026", func := "krait/kraitlaw21.VerifyPrograms", spec := "verifyPrograms", unfollowed := true, recurses := true, apart := false }
def VerifyProgramsSaid : Prop := verifyProgramsRow.holds Try.pinned (OpenSpec.ofChange verifyProgramsSpec)

/-- ITS FALSE NEIGHBOUR: 'it returns false'. Refute it at one input. -/
def verifyProgramsWrong : ChangeSpec := { name := "verifyPrograms", fn := fun _ => fun
  | [d] => { results := [.lit (.bool false)], args := [d] }
  | _ => none }
def VerifyProgramsWrongFalsely : Prop := verifyProgramsRow.holds Try.pinned (OpenSpec.ofChange verifyProgramsWrong)

/-- 'kraitlaw21.VerifyPaths': WHATEVER THE INPUT: true; the input reads as it did. -/
def verifyPathsSpec : ChangeSpec := { name := "verifyPaths", fn := fun _ => fun
  | [d1, d2, d3] => { results := [.lit (.bool true)], args := [d1, d2, d3] }
  | _ => none }
def verifyPathsRow : OpenClaim := { program := "ytgnejkmojfhfpaa", sum := "f199d4c45d0ef623da2265ead961931d271e07de926d336abc3140afb2ee5026", func := "krait/kraitlaw21.VerifyPaths", spec := "verifyPaths", unfollowed := true, recurses := true, apart := false }
def VerifyPathsSaid : Prop := verifyPathsRow.holds Try.pinned (OpenSpec.ofChange verifyPathsSpec)

/-- ITS FALSE NEIGHBOUR: 'it returns false'. Refute it at one input. -/
def verifyPathsWrong : ChangeSpec := { name := "verifyPaths", fn := fun _ => fun
  | [d1, d2, d3] => { results := [.lit (.bool false)], args := [d1, d2, d3] }
  | _ => none }
def VerifyPathsWrongFalsely : Prop := verifyPathsRow.holds Try.pinned (OpenSpec.ofChange verifyPathsWrong)

/-- 'kraitlaw21.VerifyKnown': WHATEVER THE INPUT: true; the input reads as it did. -/
def verifyKnownSpec : ChangeSpec := { name := "verifyKnown", fn := fun _ => fun
  | [d1, d2] => { results := [.lit (.bool true)], args := [d1, d2] }
  | _ => none }
def verifyKnownRow : OpenClaim := { program := "ytgnejkmojfhfpaa", sum := "f199d4c45d0ef623da2265ead961931d271e07de926d336abc3140afb2ee5026", func := "krait/kraitlaw21.VerifyKnown", spec := "verifyKnown", unfollowed := true, recurses := true, apart := false }
def VerifyKnownSaid : Prop := verifyKnownRow.holds Try.pinned (OpenSpec.ofChange verifyKnownSpec)

/-- ITS FALSE NEIGHBOUR: 'it returns false'. Refute it at one input. -/
def verifyKnownWrong : ChangeSpec := { name := "verifyKnown", fn := fun _ => fun
  | [d1, d2] => { results := [.lit (.bool false)], args := [d1, d2] }
  | _ => none }
def VerifyKnownWrongFalsely : Prop := verifyKnownRow.holds Try.pinned (OpenSpec.ofChange verifyKnownWrong)

/-- 'kraitlaw21.VerifyMore': WHATEVER THE INPUT: true; the input reads as it did. -/
def verifyMoreSpec : ChangeSpec := { name := "verifyMore", fn := fun _ => fun
  | [d1, d2] => { results := [.lit (.bool true)], args := [d1, d2] }
  | _ => none }
def verifyMoreRow : OpenClaim := { program := "ytgnejkmojfhfpaa", sum := "f199d4c45d0ef623da2265ead961931d271e07de926d336abc3140afb2ee5026", func := "krait/kraitlaw21.VerifyMore", spec := "verifyMore", unfollowed := true, recurses := true, apart := false }
def VerifyMoreSaid : Prop := verifyMoreRow.holds Try.pinned (OpenSpec.ofChange verifyMoreSpec)

/-- ITS FALSE NEIGHBOUR: 'it returns false'. Refute it at one input. -/
def verifyMoreWrong : ChangeSpec := { name := "verifyMore", fn := fun _ => fun
  | [d1, d2] => { results := [.lit (.bool false)], args := [d1, d2] }
  | _ => none }
def VerifyMoreWrongFalsely : Prop := verifyMoreRow.holds Try.pinned (OpenSpec.ofChange verifyMoreWrong)

/-- 'kraitlaw21.VerifyDead': WHATEVER THE INPUT: true; the input reads as it did. -/
def verifyDeadSpec : ChangeSpec := { name := "verifyDead", fn := fun _ => fun
  | [d1, d2] => { results := [.lit (.bool true)], args := [d1, d2] }
  | _ => none }
def verifyDeadRow : OpenClaim := { program := "ytgnejkmojfhfpaa", sum := "f199d4c45d0ef623da2265ead961931d271e07de926d336abc3140afb2ee5026", func := "krait/kraitlaw21.VerifyDead", spec := "verifyDead", unfollowed := true, recurses := true, apart := false }
def VerifyDeadSaid : Prop := verifyDeadRow.holds Try.pinned (OpenSpec.ofChange verifyDeadSpec)

/-- ITS FALSE NEIGHBOUR: 'it returns false'. Refute it at one input. -/
def verifyDeadWrong : ChangeSpec := { name := "verifyDead", fn := fun _ => fun
  | [d1, d2] => { results := [.lit (.bool false)], args := [d1, d2] }
  | _ => none }
def VerifyDeadWrongFalsely : Prop := verifyDeadRow.holds Try.pinned (OpenSpec.ofChange verifyDeadWrong)

/-- 'kraitlaw21.VerifyEach': WHATEVER THE INPUT: true; the input reads as it did. -/
def verifyEachSpec : ChangeSpec := { name := "verifyEach", fn := fun _ => fun
  | [d] => { results := [.lit (.bool true)], args := [d] }
  | _ => none }
def verifyEachRow : OpenClaim := { program := "ytgnejkmojfhfpaa", sum := "f199d4c45d0ef623da2265ead961931d271e07de926d336abc3140afb2ee5026", func := "krait/kraitlaw21.VerifyEach", spec := "verifyEach", unfollowed := true, recurses := true, apart := false }
def VerifyEachSaid : Prop := verifyEachRow.holds Try.pinned (OpenSpec.ofChange verifyEachSpec)

/-- ITS FALSE NEIGHBOUR: 'it returns false'. Refute it at one input. -/
def verifyEachWrong : ChangeSpec := { name := "verifyEach", fn := fun _ => fun
  | [d] => { results := [.lit (.bool false)], args := [d] }
  | _ => none }
def VerifyEachWrongFalsely : Prop := verifyEachRow.holds Try.pinned (OpenSpec.ofChange verifyEachWrong)

/- THE SECOND FORM. 'bulk': how many values and letters a reading holds, each counted each time it is reached (what is shared counts as often as it is met; a slice's spare places count too). A statement '..UptoSaid' is the law's where the arguments, and the package variables that the reading takes, are together of bulk at most 1048576: NARROWER than '..Said'. Prove '..Said' where nothing that the law and all that it calls make is longer than what came in: it says more and counts as full. Else prove '..UptoSaid'. A law counts once. -/
mutual
def uptoBulk {H : Type} : DataW H → Nat
  | .lit (.string bytes) => bytes.length + 1
  | .lit _ => 1
  | .nil => 1
  | .ptr d => uptoBulk d + 1
  | .slice elems spare => uptoBulkAll elems + uptoBulkAll spare + 1
  | .agg parts => uptoBulkAll parts + 1
  | .iface _ d => uptoBulk d + 1
  | .map entries => uptoBulkEntries entries + 1
  | .held _ => 1
def uptoBulkAll {H : Type} : List (DataW H) → Nat
  | [] => 0
  | d :: r => uptoBulk d + uptoBulkAll r
def uptoBulkEntries {H : Type} : List (Lit × DataW H) → Nat
  | [] => 0
  | x :: r => uptoBulkEntry x + uptoBulkEntries r
def uptoBulkEntry {H : Type} : Lit × DataW H → Nat
  | (.string bytes, d) => bytes.length + uptoBulk d + 1
  | (_, d) => uptoBulk d + 1
 end
def uptoSmall : (H : Type) → List (DataW H) → Bool := fun _ ds => decide (uptoBulkAll ds ≤ 1048576)
def OpenSpec.upto (s : _root_.Go.ChangeSpec) : _root_.Go.OpenSpec := { _root_.Go.OpenSpec.ofChange s with cond := some uptoSmall }

/-- 'kraitlaw21.VerifyHeights', WHERE WHAT IT READS IS OF BULK AT MOST 1048576: true; the input reads as it did. -/
def verifyHeightsUptoRow : OpenClaim := { program := "ytgnejkmojfhfpaa", sum := "f199d4c45d0ef623da2265ead961931d271e07de926d336abc3140afb2ee5026", func := "krait/kraitlaw21.VerifyHeights", spec := "verifyHeights", unfollowed := true, recurses := true, apart := false, narrowed := true }
def VerifyHeightsUptoSaid : Prop := verifyHeightsUptoRow.holds Try.pinned (OpenSpec.upto verifyHeightsSpec)

/-- 'kraitlaw21.VerifyPrograms', WHERE WHAT IT READS IS OF BULK AT MOST 1048576: true; the input reads as it did. -/
def verifyProgramsUptoRow : OpenClaim := { program := "ytgnejkmojfhfpaa", sum := "f199d4c45d0ef623da2265ead961931d271e07de926d336abc3140afb2ee5026", func := "krait/kraitlaw21.VerifyPrograms", spec := "verifyPrograms", unfollowed := true, recurses := true, apart := false, narrowed := true }
def VerifyProgramsUptoSaid : Prop := verifyProgramsUptoRow.holds Try.pinned (OpenSpec.upto verifyProgramsSpec)

/-- 'kraitlaw21.VerifyPaths', WHERE WHAT IT READS IS OF BULK AT MOST 1048576: true; the input reads as it did. -/
def verifyPathsUptoRow : OpenClaim := { program := "ytgnejkmojfhfpaa", sum := "f199d4c45d0ef623da2265ead961931d271e07de926d336abc3140afb2ee5026", func := "krait/kraitlaw21.VerifyPaths", spec := "verifyPaths", unfollowed := true, recurses := true, apart := false, narrowed := true }
def VerifyPathsUptoSaid : Prop := verifyPathsUptoRow.holds Try.pinned (OpenSpec.upto verifyPathsSpec)

/-- 'kraitlaw21.VerifyKnown', WHERE WHAT IT READS IS OF BULK AT MOST 1048576: true; the input reads as it did. -/
def verifyKnownUptoRow : OpenClaim := { program := "ytgnejkmojfhfpaa", sum := "f199d4c45d0ef623da2265ead961931d271e07de926d336abc3140afb2ee5026", func := "krait/kraitlaw21.VerifyKnown", spec := "verifyKnown", unfollowed := true, recurses := true, apart := false, narrowed := true }
def VerifyKnownUptoSaid : Prop := verifyKnownUptoRow.holds Try.pinned (OpenSpec.upto verifyKnownSpec)

/-- 'kraitlaw21.VerifyMore', WHERE WHAT IT READS IS OF BULK AT MOST 1048576: true; the input reads as it did. -/
def verifyMoreUptoRow : OpenClaim := { program := "ytgnejkmojfhfpaa", sum := "f199d4c45d0ef623da2265ead961931d271e07de926d336abc3140afb2ee5026", func := "krait/kraitlaw21.VerifyMore", spec := "verifyMore", unfollowed := true, recurses := true, apart := false, narrowed := true }
def VerifyMoreUptoSaid : Prop := verifyMoreUptoRow.holds Try.pinned (OpenSpec.upto verifyMoreSpec)

/-- 'kraitlaw21.VerifyDead', WHERE WHAT IT READS IS OF BULK AT MOST 1048576: true; the input reads as it did. -/
def verifyDeadUptoRow : OpenClaim := { program := "ytgnejkmojfhfpaa", sum := "f199d4c45d0ef623da2265ead961931d271e07de926d336abc3140afb2ee5026", func := "krait/kraitlaw21.VerifyDead", spec := "verifyDead", unfollowed := true, recurses := true, apart := false, narrowed := true }
def VerifyDeadUptoSaid : Prop := verifyDeadUptoRow.holds Try.pinned (OpenSpec.upto verifyDeadSpec)

/-- 'kraitlaw21.VerifyEach', WHERE WHAT IT READS IS OF BULK AT MOST 1048576: true; the input reads as it did. -/
def verifyEachUptoRow : OpenClaim := { program := "ytgnejkmojfhfpaa", sum := "f199d4c45d0ef623da2265ead961931d271e07de926d336abc3140afb2ee5026", func := "krait/kraitlaw21.VerifyEach", spec := "verifyEach", unfollowed := true, recurses := true, apart := false, narrowed := true }
def VerifyEachUptoSaid : Prop := verifyEachUptoRow.holds Try.pinned (OpenSpec.upto verifyEachSpec)

end Rows
end Go.Proofs.Ytgnejkmojfhfpaa
