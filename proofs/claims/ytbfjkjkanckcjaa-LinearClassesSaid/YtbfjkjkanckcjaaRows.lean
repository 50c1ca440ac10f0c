/-
  No cell of these rows narrows 'for every input' (looked for: loops, veiled, ifaces, maps, wideKeys, modest, calm, conditions, laid).
  DERIVED. THE GIVEN ROWS OF THIS SEAT. 11 by the template 'for every input the law returns true; each argument reads behind the call as it read before'; 0 by the template 'total and deterministic' (their statements: YtbfjkjkanckcjaaTotals.lean).
  GIVEN WITH THE SEED: the statements are not yours to turn. If you find one false, say at which input.
  Laid BY PROGRAM, IN A SANDBOX (cutbox-rows.mjs): the forced cells as the released guide's own fill.sh prints them over the translation 332ae892ad18d68b… (all of the seat's roots in one cut). By AI agents, Wed Nov 11 2026. No macro, syntax, notation, axiom, sorry.
-/
import Derived.Test.YtbfjkjkanckcjaaChecked
import GoSem.Claim
import GoSem.ClaimJoined
import GoSem.ClaimMapViews
import Derived.JoinedTies
import Derived.KernelRfl
namespace Go.Proofs.Ytbfjkjkanckcjaa
/- THE CELL 'sum', in the pinned program and in every row, IS THE sha256 OF THE DUMP (.gsa) THAT YtbfjkjkanckcjaaProg.lean LOADS. Nothing in Lean hashes anything: it is a label: what it is worth is what the hold of that sum in a sandbox is worth. -/
noncomputable def Try.pinned : Pinned := { name := "ytbfjkjkanckcjaa", sum := "332ae892ad18d68bd876b2a54ab7203369d01c39260f5e486b022a36b4081467", checked := Try.checked }
namespace Rows
def none {H : Type} : Left H := { results := [], args := [] }

/-- 'kraitlaw11.LinearMerges': WHATEVER THE INPUT: true; the input reads as it did. -/
def linearMergesSpec : ChangeSpec := { name := "linearMerges", fn := fun _ => fun
  | [d] => { results := [.lit (.bool true)], args := [d] }
  | _ => none }
def linearMergesRow : OpenClaim := { program := "ytbfjkjkanckcjaa", sum := "332ae892ad18d68bd876b2a54ab7203369d01c39260f5e486b022a36b4081467", func := "krait/kraitlaw11.LinearMerges", spec := "linearMerges", unfollowed := true, recurses := true, apart := false }
def LinearMergesSaid : Prop := linearMergesRow.holds Try.pinned (OpenSpec.ofChange linearMergesSpec)

/-- ITS FALSE NEIGHBOUR: 'it returns false'. Refute it at one input. -/
def linearMergesWrong : ChangeSpec := { name := "linearMerges", fn := fun _ => fun
  | [d] => { results := [.lit (.bool false)], args := [d] }
  | _ => none }
def LinearMergesWrongFalsely : Prop := linearMergesRow.holds Try.pinned (OpenSpec.ofChange linearMergesWrong)

/-- 'kraitlaw11.LinearOrders': WHATEVER THE INPUT: true; the input reads as it did. -/
def linearOrdersSpec : ChangeSpec := { name := "linearOrders", fn := fun _ => fun
  | [d1, d2, d3] => { results := [.lit (.bool true)], args := [d1, d2, d3] }
  | _ => none }
def linearOrdersRow : OpenClaim := { program := "ytbfjkjkanckcjaa", sum := "332ae892ad18d68bd876b2a54ab7203369d01c39260f5e486b022a36b4081467", func := "krait/kraitlaw11.LinearOrders", spec := "linearOrders", unfollowed := true, recurses := true, apart := false }
def LinearOrdersSaid : Prop := linearOrdersRow.holds Try.pinned (OpenSpec.ofChange linearOrdersSpec)

/-- ITS FALSE NEIGHBOUR: 'it returns false'. Refute it at one input. -/
def linearOrdersWrong : ChangeSpec := { name := "linearOrders", fn := fun _ => fun
  | [d1, d2, d3] => { results := [.lit (.bool false)], args := [d1, d2, d3] }
  | _ => none }
def LinearOrdersWrongFalsely : Prop := linearOrdersRow.holds Try.pinned (OpenSpec.ofChange linearOrdersWrong)

/-- 'kraitlaw11.LinearAll': WHATEVER THE INPUT: true; the input reads as it did. -/
def linearAllSpec : ChangeSpec := { name := "linearAll", fn := fun _ => fun
  | [d] => { results := [.lit (.bool true)], args := [d] }
  | _ => none }
def linearAllRow : OpenClaim := { program := "ytbfjkjkanckcjaa", sum := "332ae892ad18d68bd876b2a54ab7203369d01c39260f5e486b022a36b4081467", func := "krait/kraitlaw11.LinearAll", spec := "linearAll", unfollowed := true, recurses := true, apart := false }
def LinearAllSaid : Prop := linearAllRow.holds Try.pinned (OpenSpec.ofChange linearAllSpec)

/-- ITS FALSE NEIGHBOUR: 'it returns false'. Refute it at one input. -/
def linearAllWrong : ChangeSpec := { name := "linearAll", fn := fun _ => fun
  | [d] => { results := [.lit (.bool false)], args := [d] }
  | _ => none }
def LinearAllWrongFalsely : Prop := linearAllRow.holds Try.pinned (OpenSpec.ofChange linearAllWrong)

/-- 'kraitlaw11.LinearKeeps': WHATEVER THE INPUT: true; the input reads as it did. -/
def linearKeepsSpec : ChangeSpec := { name := "linearKeeps", fn := fun _ => fun
  | [d] => { results := [.lit (.bool true)], args := [d] }
  | _ => none }
def linearKeepsRow : OpenClaim := { program := "ytbfjkjkanckcjaa", sum := "332ae892ad18d68bd876b2a54ab7203369d01c39260f5e486b022a36b4081467", func := "krait/kraitlaw11.LinearKeeps", spec := "linearKeeps", unfollowed := true, recurses := true, apart := false }
def LinearKeepsSaid : Prop := linearKeepsRow.holds Try.pinned (OpenSpec.ofChange linearKeepsSpec)

/-- ITS FALSE NEIGHBOUR: 'it returns false'. Refute it at one input. -/
def linearKeepsWrong : ChangeSpec := { name := "linearKeeps", fn := fun _ => fun
  | [d] => { results := [.lit (.bool false)], args := [d] }
  | _ => none }
def LinearKeepsWrongFalsely : Prop := linearKeepsRow.holds Try.pinned (OpenSpec.ofChange linearKeepsWrong)

/-- 'kraitlaw11.LinearOnly': WHATEVER THE INPUT: true; the input reads as it did. -/
def linearOnlySpec : ChangeSpec := { name := "linearOnly", fn := fun _ => fun
  | [d] => { results := [.lit (.bool true)], args := [d] }
  | _ => none }
def linearOnlyRow : OpenClaim := { program := "ytbfjkjkanckcjaa", sum := "332ae892ad18d68bd876b2a54ab7203369d01c39260f5e486b022a36b4081467", func := "krait/kraitlaw11.LinearOnly", spec := "linearOnly", unfollowed := true, recurses := true, apart := false }
def LinearOnlySaid : Prop := linearOnlyRow.holds Try.pinned (OpenSpec.ofChange linearOnlySpec)

/-- ITS FALSE NEIGHBOUR: 'it returns false'. Refute it at one input. -/
def linearOnlyWrong : ChangeSpec := { name := "linearOnly", fn := fun _ => fun
  | [d] => { results := [.lit (.bool false)], args := [d] }
  | _ => none }
def LinearOnlyWrongFalsely : Prop := linearOnlyRow.holds Try.pinned (OpenSpec.ofChange linearOnlyWrong)

/-- 'kraitlaw11.LinearFirst': WHATEVER THE INPUT: true; the input reads as it did. -/
def linearFirstSpec : ChangeSpec := { name := "linearFirst", fn := fun _ => fun
  | [d] => { results := [.lit (.bool true)], args := [d] }
  | _ => none }
def linearFirstRow : OpenClaim := { program := "ytbfjkjkanckcjaa", sum := "332ae892ad18d68bd876b2a54ab7203369d01c39260f5e486b022a36b4081467", func := "krait/kraitlaw11.LinearFirst", spec := "linearFirst", unfollowed := true, recurses := true, apart := false }
def LinearFirstSaid : Prop := linearFirstRow.holds Try.pinned (OpenSpec.ofChange linearFirstSpec)

/-- ITS FALSE NEIGHBOUR: 'it returns false'. Refute it at one input. -/
def linearFirstWrong : ChangeSpec := { name := "linearFirst", fn := fun _ => fun
  | [d] => { results := [.lit (.bool false)], args := [d] }
  | _ => none }
def LinearFirstWrongFalsely : Prop := linearFirstRow.holds Try.pinned (OpenSpec.ofChange linearFirstWrong)

/-- 'kraitlaw11.LinearTwice': WHATEVER THE INPUT: true; the input reads as it did. -/
def linearTwiceSpec : ChangeSpec := { name := "linearTwice", fn := fun _ => fun
  | [d1, d2, d3] => { results := [.lit (.bool true)], args := [d1, d2, d3] }
  | _ => none }
def linearTwiceRow : OpenClaim := { program := "ytbfjkjkanckcjaa", sum := "332ae892ad18d68bd876b2a54ab7203369d01c39260f5e486b022a36b4081467", func := "krait/kraitlaw11.LinearTwice", spec := "linearTwice", unfollowed := true, recurses := true, apart := false }
def LinearTwiceSaid : Prop := linearTwiceRow.holds Try.pinned (OpenSpec.ofChange linearTwiceSpec)

/-- ITS FALSE NEIGHBOUR: 'it returns false'. Refute it at one input. -/
def linearTwiceWrong : ChangeSpec := { name := "linearTwice", fn := fun _ => fun
  | [d1, d2, d3] => { results := [.lit (.bool false)], args := [d1, d2, d3] }
  | _ => none }
def LinearTwiceWrongFalsely : Prop := linearTwiceRow.holds Try.pinned (OpenSpec.ofChange linearTwiceWrong)

/-- 'kraitlaw11.LinearNames': WHATEVER THE INPUT: true; the input reads as it did. -/
def linearNamesSpec : ChangeSpec := { name := "linearNames", fn := fun _ => fun
  | [d1, d2] => { results := [.lit (.bool true)], args := [d1, d2] }
  | _ => none }
def linearNamesRow : OpenClaim := { program := "ytbfjkjkanckcjaa", sum := "332ae892ad18d68bd876b2a54ab7203369d01c39260f5e486b022a36b4081467", func := "krait/kraitlaw11.LinearNames", spec := "linearNames", unfollowed := true, recurses := true, apart := false }
def LinearNamesSaid : Prop := linearNamesRow.holds Try.pinned (OpenSpec.ofChange linearNamesSpec)

/-- ITS FALSE NEIGHBOUR: 'it returns false'. Refute it at one input. -/
def linearNamesWrong : ChangeSpec := { name := "linearNames", fn := fun _ => fun
  | [d1, d2] => { results := [.lit (.bool false)], args := [d1, d2] }
  | _ => none }
def LinearNamesWrongFalsely : Prop := linearNamesRow.holds Try.pinned (OpenSpec.ofChange linearNamesWrong)

/-- 'kraitlaw11.LinearClasses': WHATEVER THE INPUT: true; the input reads as it did. -/
def linearClassesSpec : ChangeSpec := { name := "linearClasses", fn := fun _ => fun
  | [d] => { results := [.lit (.bool true)], args := [d] }
  | _ => none }
def linearClassesRow : OpenClaim := { program := "ytbfjkjkanckcjaa", sum := "332ae892ad18d68bd876b2a54ab7203369d01c39260f5e486b022a36b4081467", func := "krait/kraitlaw11.LinearClasses", spec := "linearClasses", unfollowed := true, recurses := true, apart := false }
def LinearClassesSaid : Prop := linearClassesRow.holds Try.pinned (OpenSpec.ofChange linearClassesSpec)

/-- ITS FALSE NEIGHBOUR: 'it returns false'. Refute it at one input. -/
def linearClassesWrong : ChangeSpec := { name := "linearClasses", fn := fun _ => fun
  | [d] => { results := [.lit (.bool false)], args := [d] }
  | _ => none }
def LinearClassesWrongFalsely : Prop := linearClassesRow.holds Try.pinned (OpenSpec.ofChange linearClassesWrong)

/-- 'kraitlaw11.LinearChains': WHATEVER THE INPUT: true; the input reads as it did. -/
def linearChainsSpec : ChangeSpec := { name := "linearChains", fn := fun _ => fun
  | [d] => { results := [.lit (.bool true)], args := [d] }
  | _ => none }
def linearChainsRow : OpenClaim := { program := "ytbfjkjkanckcjaa", sum := "332ae892ad18d68bd876b2a54ab7203369d01c39260f5e486b022a36b4081467", func := "krait/kraitlaw11.LinearChains", spec := "linearChains", unfollowed := true, recurses := true, apart := false }
def LinearChainsSaid : Prop := linearChainsRow.holds Try.pinned (OpenSpec.ofChange linearChainsSpec)

/-- ITS FALSE NEIGHBOUR: 'it returns false'. Refute it at one input. -/
def linearChainsWrong : ChangeSpec := { name := "linearChains", fn := fun _ => fun
  | [d] => { results := [.lit (.bool false)], args := [d] }
  | _ => none }
def LinearChainsWrongFalsely : Prop := linearChainsRow.holds Try.pinned (OpenSpec.ofChange linearChainsWrong)

/-- 'kraitlaw11.LinearBad': WHATEVER THE INPUT: true; the input reads as it did. -/
def linearBadSpec : ChangeSpec := { name := "linearBad", fn := fun _ => fun
  | [d1, d2, d3] => { results := [.lit (.bool true)], args := [d1, d2, d3] }
  | _ => none }
def linearBadRow : OpenClaim := { program := "ytbfjkjkanckcjaa", sum := "332ae892ad18d68bd876b2a54ab7203369d01c39260f5e486b022a36b4081467", func := "krait/kraitlaw11.LinearBad", spec := "linearBad", unfollowed := true, recurses := true, apart := false }
def LinearBadSaid : Prop := linearBadRow.holds Try.pinned (OpenSpec.ofChange linearBadSpec)

/-- ITS FALSE NEIGHBOUR: 'it returns false'. Refute it at one input. -/
def linearBadWrong : ChangeSpec := { name := "linearBad", fn := fun _ => fun
  | [d1, d2, d3] => { results := [.lit (.bool false)], args := [d1, d2, d3] }
  | _ => none }
def LinearBadWrongFalsely : Prop := linearBadRow.holds Try.pinned (OpenSpec.ofChange linearBadWrong)

/- THE SECOND FORM. 'bulk': how many values and letters a reading holds, each counted each time it is reached (what is shared counts as often as it is met; a slice's spare places count too). A statement '..UptoSaid' is the law's where the arguments, and the package variables that the reading takes, are together of bulk at most 1048576: NARROWER than '..Said'. Prove '..Said' where nothing that the law and all that it calls make is longer than what came in: it says more and counts as full. Else prove '..UptoSaid'. A law counts once. -/
mutual
def uptoBulk {H : Type} : DataW H → Nat
  | .lit (.string bytes) => bytes.length + 1
  | .lit _ => 1
  | .nil => 1
  | .ptr d => uptoBulk d + 1
  | .slice elems spare => uptoBulkAll elems + uptoBulkAll spare + 1
  | .agg parts => uptoBulkAll parts + 1
  | .iface _ d => uptoBulk d + 1
  | .map entries => uptoBulkEntries entries + 1
  | .held _ => 1
def uptoBulkAll {H : Type} : List (DataW H) → Nat
  | [] => 0
  | d :: r => uptoBulk d + uptoBulkAll r
def uptoBulkEntries {H : Type} : List (Lit × DataW H) → Nat
  | [] => 0
  | x :: r => uptoBulkEntry x + uptoBulkEntries r
def uptoBulkEntry {H : Type} : Lit × DataW H → Nat
  | (.string bytes, d) => bytes.length + uptoBulk d + 1
  | (_, d) => uptoBulk d + 1
 end
def uptoSmall : (H : Type) → List (DataW H) → Bool := fun _ ds => decide (uptoBulkAll ds ≤ 1048576)
def OpenSpec.upto (s : _root_.Go.ChangeSpec) : _root_.Go.OpenSpec := { _root_.Go.OpenSpec.ofChange s with cond := some uptoSmall }

/-- 'kraitlaw11.LinearMerges', WHERE WHAT IT READS IS OF BULK AT MOST 1048576: true; the input reads as it did. -/
def linearMergesUptoRow : OpenClaim := { program := "ytbfjkjkanckcjaa", sum := "332ae892ad18d68bd876b2a54ab7203369d01c39260f5e486b022a36b4081467", func := "krait/kraitlaw11.LinearMerges", spec := "linearMerges", unfollowed := true, recurses := true, apart := false, narrowed := true }
def LinearMergesUptoSaid : Prop := linearMergesUptoRow.holds Try.pinned (OpenSpec.upto linearMergesSpec)

/-- 'kraitlaw11.LinearOrders', WHERE WHAT IT READS IS OF BULK AT MOST 1048576: true; the input reads as it did. -/
def linearOrdersUptoRow : OpenClaim := { program := "ytbfjkjkanckcjaa", sum := "332ae892ad18d68bd876b2a54ab7203369d01c39260f5e486b022a36b4081467", func := "krait/kraitlaw11.LinearOrders", spec := "linearOrders", unfollowed := true, recurses := true, apart := false, narrowed := true }
def LinearOrdersUptoSaid : Prop := linearOrdersUptoRow.holds Try.pinned (OpenSpec.upto linearOrdersSpec)

/-- 'kraitlaw11.LinearAll', WHERE WHAT IT READS IS OF BULK AT MOST 1048576: true; the input reads as it did. -/
def linearAllUptoRow : OpenClaim := { program := "ytbfjkjkanckcjaa", sum := "332ae892ad18d68bd876b2a54ab7203369d01c39260f5e486b022a36b4081467", func := "krait/kraitlaw11.LinearAll", spec := "linearAll", unfollowed := true, recurses := true, apart := false, narrowed := true }
def LinearAllUptoSaid : Prop := linearAllUptoRow.holds Try.pinned (OpenSpec.upto linearAllSpec)

/-- 'kraitlaw11.LinearKeeps', WHERE WHAT IT READS IS OF BULK AT MOST 1048576: true; the input reads as it did. -/
def linearKeepsUptoRow : OpenClaim := { program := "ytbfjkjkanckcjaa", sum := "332ae892ad18d68bd876b2a54ab7203369d01c39260f5e486b022a36b4081467", func := "krait/kraitlaw11.LinearKeeps", spec := "linearKeeps", unfollowed := true, recurses := true, apart := false, narrowed := true }
def LinearKeepsUptoSaid : Prop := linearKeepsUptoRow.holds Try.pinned (OpenSpec.upto linearKeepsSpec)

/-- 'kraitlaw11.LinearOnly', WHERE WHAT IT READS IS OF BULK AT MOST 1048576: true; the input reads as it did. -/
def linearOnlyUptoRow : OpenClaim := { program := "ytbfjkjkanckcjaa", sum := "332ae892ad18d68bd876b2a54ab7203369d01c39260f5e486b022a36b4081467", func := "krait/kraitlaw11.LinearOnly", spec := "linearOnly", unfollowed := true, recurses := true, apart := false, narrowed := true }
def LinearOnlyUptoSaid : Prop := linearOnlyUptoRow.holds Try.pinned (OpenSpec.upto linearOnlySpec)

/-- 'kraitlaw11.LinearFirst', WHERE WHAT IT READS IS OF BULK AT MOST 1048576: true; the input reads as it did. -/
def linearFirstUptoRow : OpenClaim := { program := "ytbfjkjkanckcjaa", sum := "332ae892ad18d68bd876b2a54ab7203369d01c39260f5e486b022a36b4081467", func := "krait/kraitlaw11.LinearFirst", spec := "linearFirst", unfollowed := true, recurses := true, apart := false, narrowed := true }
def LinearFirstUptoSaid : Prop := linearFirstUptoRow.holds Try.pinned (OpenSpec.upto linearFirstSpec)

/-- 'kraitlaw11.LinearTwice', WHERE WHAT IT READS IS OF BULK AT MOST 1048576: true; the input reads as it did. -/
def linearTwiceUptoRow : OpenClaim := { program := "ytbfjkjkanckcjaa", sum := "332ae892ad18d68bd876b2a54ab7203369d01c39260f5e486b022a36b4081467", func := "krait/kraitlaw11.LinearTwice", spec := "linearTwice", unfollowed := true, recurses := true, apart := false, narrowed := true }
def LinearTwiceUptoSaid : Prop := linearTwiceUptoRow.holds Try.pinned (OpenSpec.upto linearTwiceSpec)

/-- 'kraitlaw11.LinearNames', WHERE WHAT IT READS IS OF BULK AT MOST 1048576: true; the input reads as it did. -/
def linearNamesUptoRow : OpenClaim := { program := "ytbfjkjkanckcjaa", sum := "332ae892ad18d68bd876b2a54ab7203369d01c39260f5e486b022a36b4081467", func := "krait/kraitlaw11.LinearNames", spec := "linearNames", unfollowed := true, recurses := true, apart := false, narrowed := true }
def LinearNamesUptoSaid : Prop := linearNamesUptoRow.holds Try.pinned (OpenSpec.upto linearNamesSpec)

/-- 'kraitlaw11.LinearClasses', WHERE WHAT IT READS IS OF BULK AT MOST 1048576: true; the input reads as it did. -/
def linearClassesUptoRow : OpenClaim := { program := "ytbfjkjkanckcjaa", sum := "332ae892ad18d68bd876b2a54ab7203369d01c39260f5e486b022a36b4081467", func := "krait/kraitlaw11.LinearClasses", spec := "linearClasses", unfollowed := true, recurses := true, apart := false, narrowed := true }
def LinearClassesUptoSaid : Prop := linearClassesUptoRow.holds Try.pinned (OpenSpec.upto linearClassesSpec)

/-- 'kraitlaw11.LinearChains', WHERE WHAT IT READS IS OF BULK AT MOST 1048576: true; the input reads as it did. -/
def linearChainsUptoRow : OpenClaim := { program := "ytbfjkjkanckcjaa", sum := "332ae892ad18d68bd876b2a54ab7203369d01c39260f5e486b022a36b4081467", func := "krait/kraitlaw11.LinearChains", spec := "linearChains", unfollowed := true, recurses := true, apart := false, narrowed := true }
def LinearChainsUptoSaid : Prop := linearChainsUptoRow.holds Try.pinned (OpenSpec.upto linearChainsSpec)

/-- 'kraitlaw11.LinearBad', WHERE WHAT IT READS IS OF BULK AT MOST 1048576: true; the input reads as it did. -/
def linearBadUptoRow : OpenClaim := { program := "ytbfjkjkanckcjaa", sum := "332ae892ad18d68bd876b2a54ab7203369d01c39260f5e486b022a36b4081467", func := "krait/kraitlaw11.LinearBad", spec := "linearBad", unfollowed := true, recurses := true, apart := false, narrowed := true }
def LinearBadUptoSaid : Prop := linearBadUptoRow.holds Try.pinned (OpenSpec.upto linearBadSpec)

end Rows
end Go.Proofs.Ytbfjkjkanckcjaa
