/-
  No cell of these rows narrows 'for every input' (looked for: loops, veiled, ifaces, maps, wideKeys, modest, calm, conditions, laid).
  DERIVED. THE GIVEN ROWS OF THIS SEAT. 9 by the template 'for every input the law returns true; each argument reads behind the call as it read before'; 0 by the template 'total and deterministic' (their statements: YthdkloojhenlkaaTotals.lean).
  GIVEN WITH THE SEED: the statements are not yours to turn. If you find one false, say at which input.
  Laid BY PROGRAM, IN A SANDBOX (cutbox-rows.mjs): the forced cells as the released guide's own fill.sh prints them over the translation 60c606ace996af34… (all of the seat's roots in one cut). By AI agents, Wed Nov 11 2026. No macro, syntax, notation, axiom, sorry.
-/
import Derived.Test.YthdkloojhenlkaaChecked
import GoSem.Claim
import GoSem.ClaimJoined
import GoSem.ClaimMapViews
import Derived.JoinedTies
import Derived.KernelRfl
namespace Go.Proofs.Ythdkloojhenlkaa
/- THE CELL 'sum', in the pinned program and in every row, IS THE sha256 OF THE DUMP (.gsa) THAT YthdkloojhenlkaaProg.lean LOADS. Nothing in Lean hashes anything: it is a label: what it is worth is what the hold of that sum in a sandbox is worth. -/
noncomputable def Try.pinned : Pinned := { name := "ythdkloojhenlkaa", sum := "60c606ace996af347713cf2b47a71634d8e8e262f008e9cd0b288c8bc6656925", checked := Try.checked }
namespace Rows
def none {H : Type} : Left H := { results := [], args := [] }

/-- 'kraitlaw22.FrameNew': WHATEVER THE INPUT: true; the input reads as it did. -/
def frameNewSpec : ChangeSpec := { name := "frameNew", fn := fun _ => fun
  | [d1, d2, d3] => { results := [.lit (.bool true)], args := [d1, d2, d3] }
  | _ => none }
def frameNewRow : OpenClaim := { program := "ythdkloojhenlkaa", sum := "60c606ace996af347713cf2b47a71634d8e8e262f008e9cd0b288c8bc6656925", func := "krait/kraitlaw22.FrameNew", spec := "frameNew", apart := false }
def FrameNewSaid : Prop := frameNewRow.holds Try.pinned (OpenSpec.ofChange frameNewSpec)

/-- ITS FALSE NEIGHBOUR: 'it returns false'. Refute it at one input. -/
def frameNewWrong : ChangeSpec := { name := "frameNew", fn := fun _ => fun
  | [d1, d2, d3] => { results := [.lit (.bool false)], args := [d1, d2, d3] }
  | _ => none }
def FrameNewWrongFalsely : Prop := frameNewRow.holds Try.pinned (OpenSpec.ofChange frameNewWrong)

/-- 'kraitlaw22.FrameBlocks': WHATEVER THE INPUT: true; the input reads as it did. -/
def frameBlocksSpec : ChangeSpec := { name := "frameBlocks", fn := fun _ => fun
  | [d1, d2, d3] => { results := [.lit (.bool true)], args := [d1, d2, d3] }
  | _ => none }
def frameBlocksRow : OpenClaim := { program := "ythdkloojhenlkaa", sum := "60c606ace996af347713cf2b47a71634d8e8e262f008e9cd0b288c8bc6656925", func := "krait/kraitlaw22.FrameBlocks", spec := "frameBlocks", apart := false }
def FrameBlocksSaid : Prop := frameBlocksRow.holds Try.pinned (OpenSpec.ofChange frameBlocksSpec)

/-- ITS FALSE NEIGHBOUR: 'it returns false'. Refute it at one input. -/
def frameBlocksWrong : ChangeSpec := { name := "frameBlocks", fn := fun _ => fun
  | [d1, d2, d3] => { results := [.lit (.bool false)], args := [d1, d2, d3] }
  | _ => none }
def FrameBlocksWrongFalsely : Prop := frameBlocksRow.holds Try.pinned (OpenSpec.ofChange frameBlocksWrong)

/-- 'kraitlaw22.FrameCells': WHATEVER THE INPUT: true; the input reads as it did. -/
def frameCellsSpec : ChangeSpec := { name := "frameCells", fn := fun _ => fun
  | [d1, d2, d3] => { results := [.lit (.bool true)], args := [d1, d2, d3] }
  | _ => none }
def frameCellsRow : OpenClaim := { program := "ythdkloojhenlkaa", sum := "60c606ace996af347713cf2b47a71634d8e8e262f008e9cd0b288c8bc6656925", func := "krait/kraitlaw22.FrameCells", spec := "frameCells", apart := false }
def FrameCellsSaid : Prop := frameCellsRow.holds Try.pinned (OpenSpec.ofChange frameCellsSpec)

/-- ITS FALSE NEIGHBOUR: 'it returns false'. Refute it at one input. -/
def frameCellsWrong : ChangeSpec := { name := "frameCells", fn := fun _ => fun
  | [d1, d2, d3] => { results := [.lit (.bool false)], args := [d1, d2, d3] }
  | _ => none }
def FrameCellsWrongFalsely : Prop := frameCellsRow.holds Try.pinned (OpenSpec.ofChange frameCellsWrong)

/-- 'kraitlaw22.FrameOwn': WHATEVER THE INPUT: true; the input reads as it did. -/
def frameOwnSpec : ChangeSpec := { name := "frameOwn", fn := fun _ => fun
  | [d1, d2] => { results := [.lit (.bool true)], args := [d1, d2] }
  | _ => none }
def frameOwnRow : OpenClaim := { program := "ythdkloojhenlkaa", sum := "60c606ace996af347713cf2b47a71634d8e8e262f008e9cd0b288c8bc6656925", func := "krait/kraitlaw22.FrameOwn", spec := "frameOwn", apart := false }
def FrameOwnSaid : Prop := frameOwnRow.holds Try.pinned (OpenSpec.ofChange frameOwnSpec)

/-- ITS FALSE NEIGHBOUR: 'it returns false'. Refute it at one input. -/
def frameOwnWrong : ChangeSpec := { name := "frameOwn", fn := fun _ => fun
  | [d1, d2] => { results := [.lit (.bool false)], args := [d1, d2] }
  | _ => none }
def FrameOwnWrongFalsely : Prop := frameOwnRow.holds Try.pinned (OpenSpec.ofChange frameOwnWrong)

/-- 'kraitlaw22.FrameStack': WHATEVER THE INPUT: true; the input reads as it did. -/
def frameStackSpec : ChangeSpec := { name := "frameStack", fn := fun _ => fun
  | [d1, d2] => { results := [.lit (.bool true)], args := [d1, d2] }
  | _ => none }
def frameStackRow : OpenClaim := { program := "ythdkloojhenlkaa", sum := "60c606ace996af347713cf2b47a71634d8e8e262f008e9cd0b288c8bc6656925", func := "krait/kraitlaw22.FrameStack", spec := "frameStack", apart := false }
def FrameStackSaid : Prop := frameStackRow.holds Try.pinned (OpenSpec.ofChange frameStackSpec)

/-- ITS FALSE NEIGHBOUR: 'it returns false'. Refute it at one input. -/
def frameStackWrong : ChangeSpec := { name := "frameStack", fn := fun _ => fun
  | [d1, d2] => { results := [.lit (.bool false)], args := [d1, d2] }
  | _ => none }
def FrameStackWrongFalsely : Prop := frameStackRow.holds Try.pinned (OpenSpec.ofChange frameStackWrong)

/-- 'kraitlaw22.FrameLocals': WHATEVER THE INPUT: true; the input reads as it did. -/
def frameLocalsSpec : ChangeSpec := { name := "frameLocals", fn := fun _ => fun
  | [d1, d2, d3] => { results := [.lit (.bool true)], args := [d1, d2, d3] }
  | _ => none }
def frameLocalsRow : OpenClaim := { program := "ythdkloojhenlkaa", sum := "60c606ace996af347713cf2b47a71634d8e8e262f008e9cd0b288c8bc6656925", func := "krait/kraitlaw22.FrameLocals", spec := "frameLocals", apart := false }
def FrameLocalsSaid : Prop := frameLocalsRow.holds Try.pinned (OpenSpec.ofChange frameLocalsSpec)

/-- ITS FALSE NEIGHBOUR: 'it returns false'. Refute it at one input. -/
def frameLocalsWrong : ChangeSpec := { name := "frameLocals", fn := fun _ => fun
  | [d1, d2, d3] => { results := [.lit (.bool false)], args := [d1, d2, d3] }
  | _ => none }
def FrameLocalsWrongFalsely : Prop := frameLocalsRow.holds Try.pinned (OpenSpec.ofChange frameLocalsWrong)

/-- 'kraitlaw22.FrameHeld': WHATEVER THE INPUT: true; the input reads as it did. -/
def frameHeldSpec : ChangeSpec := { name := "frameHeld", fn := fun _ => fun
  | [d1, d2, d3] => { results := [.lit (.bool true)], args := [d1, d2, d3] }
  | _ => none }
def frameHeldRow : OpenClaim := { program := "ythdkloojhenlkaa", sum := "60c606ace996af347713cf2b47a71634d8e8e262f008e9cd0b288c8bc6656925", func := "krait/kraitlaw22.FrameHeld", spec := "frameHeld", apart := false }
def FrameHeldSaid : Prop := frameHeldRow.holds Try.pinned (OpenSpec.ofChange frameHeldSpec)

/-- ITS FALSE NEIGHBOUR: 'it returns false'. Refute it at one input. -/
def frameHeldWrong : ChangeSpec := { name := "frameHeld", fn := fun _ => fun
  | [d1, d2, d3] => { results := [.lit (.bool false)], args := [d1, d2, d3] }
  | _ => none }
def FrameHeldWrongFalsely : Prop := frameHeldRow.holds Try.pinned (OpenSpec.ofChange frameHeldWrong)

/-- 'kraitlaw22.FramePlays': WHATEVER THE INPUT: true; the input reads as it did. -/
def framePlaysSpec : ChangeSpec := { name := "framePlays", fn := fun _ => fun
  | [d] => { results := [.lit (.bool true)], args := [d] }
  | _ => none }
def framePlaysRow : OpenClaim := { program := "ythdkloojhenlkaa", sum := "60c606ace996af347713cf2b47a71634d8e8e262f008e9cd0b288c8bc6656925", func := "krait/kraitlaw22.FramePlays", spec := "framePlays", apart := false }
def FramePlaysSaid : Prop := framePlaysRow.holds Try.pinned (OpenSpec.ofChange framePlaysSpec)

/-- ITS FALSE NEIGHBOUR: 'it returns false'. Refute it at one input. -/
def framePlaysWrong : ChangeSpec := { name := "framePlays", fn := fun _ => fun
  | [d] => { results := [.lit (.bool false)], args := [d] }
  | _ => none }
def FramePlaysWrongFalsely : Prop := framePlaysRow.holds Try.pinned (OpenSpec.ofChange framePlaysWrong)

/-- 'kraitlaw22.FrameSet': WHATEVER THE INPUT: true; the input reads as it did. -/
def frameSetSpec : ChangeSpec := { name := "frameSet", fn := fun _ => fun
  | [d1, d2, d3] => { results := [.lit (.bool true)], args := [d1, d2, d3] }
  | _ => none }
def frameSetRow : OpenClaim := { program := "ythdkloojhenlkaa", sum := "60c606ace996af347713cf2b47a71634d8e8e262f008e9cd0b288c8bc6656925", func := "krait/kraitlaw22.FrameSet", spec := "frameSet", apart := false }
def FrameSetSaid : Prop := frameSetRow.holds Try.pinned (OpenSpec.ofChange frameSetSpec)

/-- ITS FALSE NEIGHBOUR: 'it returns false'. Refute it at one input. -/
def frameSetWrong : ChangeSpec := { name := "frameSet", fn := fun _ => fun
  | [d1, d2, d3] => { results := [.lit (.bool false)], args := [d1, d2, d3] }
  | _ => none }
def FrameSetWrongFalsely : Prop := frameSetRow.holds Try.pinned (OpenSpec.ofChange frameSetWrong)

/- THE SECOND FORM. 'bulk': how many values and letters a reading holds, each counted each time it is reached (what is shared counts as often as it is met; a slice's spare places count too). A statement '..UptoSaid' is the law's where the arguments, and the package variables that the reading takes, are together of bulk at most 1048576: NARROWER than '..Said'. Prove '..Said' where nothing that the law and all that it calls make is longer than what came in: it says more and counts as full. Else prove '..UptoSaid'. A law counts once. -/
mutual
def uptoBulk {H : Type} : DataW H → Nat
  | .lit (.string bytes) => bytes.length + 1
  | .lit _ => 1
  | .nil => 1
  | .ptr d => uptoBulk d + 1
  | .slice elems spare => uptoBulkAll elems + uptoBulkAll spare + 1
  | .agg parts => uptoBulkAll parts + 1
  | .iface _ d => uptoBulk d + 1
  | .map entries => uptoBulkEntries entries + 1
  | .held _ => 1
def uptoBulkAll {H : Type} : List (DataW H) → Nat
  | [] => 0
  | d :: r => uptoBulk d + uptoBulkAll r
def uptoBulkEntries {H : Type} : List (Lit × DataW H) → Nat
  | [] => 0
  | x :: r => uptoBulkEntry x + uptoBulkEntries r
def uptoBulkEntry {H : Type} : Lit × DataW H → Nat
  | (.string bytes, d) => bytes.length + uptoBulk d + 1
  | (_, d) => uptoBulk d + 1
 end
def uptoSmall : (H : Type) → List (DataW H) → Bool := fun _ ds => decide (uptoBulkAll ds ≤ 1048576)
def OpenSpec.upto (s : _root_.Go.ChangeSpec) : _root_.Go.OpenSpec := { _root_.Go.OpenSpec.ofChange s with cond := some uptoSmall }

/-- 'kraitlaw22.FrameNew', WHERE WHAT IT READS IS OF BULK AT MOST 1048576: true; the input reads as it did. -/
def frameNewUptoRow : OpenClaim := { program := "ythdkloojhenlkaa", sum := "60c606ace996af347713cf2b47a71634d8e8e262f008e9cd0b288c8bc6656925", func := "krait/kraitlaw22.FrameNew", spec := "frameNew", apart := false, narrowed := true }
def FrameNewUptoSaid : Prop := frameNewUptoRow.holds Try.pinned (OpenSpec.upto frameNewSpec)

/-- 'kraitlaw22.FrameBlocks', WHERE WHAT IT READS IS OF BULK AT MOST 1048576: true; the input reads as it did. -/
def frameBlocksUptoRow : OpenClaim := { program := "ythdkloojhenlkaa", sum := "60c606ace996af347713cf2b47a71634d8e8e262f008e9cd0b288c8bc6656925", func := "krait/kraitlaw22.FrameBlocks", spec := "frameBlocks", apart := false, narrowed := true }
def FrameBlocksUptoSaid : Prop := frameBlocksUptoRow.holds Try.pinned (OpenSpec.upto frameBlocksSpec)

/-- 'kraitlaw22.FrameCells', WHERE WHAT IT READS IS OF BULK AT MOST 1048576: true; the input reads as it did. -/
def frameCellsUptoRow : OpenClaim := { program := "ythdkloojhenlkaa", sum := "60c606ace996af347713cf2b47a71634d8e8e262f008e9cd0b288c8bc6656925", func := "krait/kraitlaw22.FrameCells", spec := "frameCells", apart := false, narrowed := true }
def FrameCellsUptoSaid : Prop := frameCellsUptoRow.holds Try.pinned (OpenSpec.upto frameCellsSpec)

/-- 'kraitlaw22.FrameOwn', WHERE WHAT IT READS IS OF BULK AT MOST 1048576: true; the input reads as it did. -/
def frameOwnUptoRow : OpenClaim := { program := "ythdkloojhenlkaa", sum := "60c606ace996af347713cf2b47a71634d8e8e262f008e9cd0b288c8bc6656925", func := "krait/kraitlaw22.FrameOwn", spec := "frameOwn", apart := false, narrowed := true }
def FrameOwnUptoSaid : Prop := frameOwnUptoRow.holds Try.pinned (OpenSpec.upto frameOwnSpec)

/-- 'kraitlaw22.FrameStack', WHERE WHAT IT READS IS OF BULK AT MOST 1048576: true; the input reads as it did. -/
def frameStackUptoRow : OpenClaim := { program := "ythdkloojhenlkaa", sum := "60c606ace996af347713cf2b47a71634d8e8e262f008e9cd0b288c8bc6656925", func := "krait/kraitlaw22.FrameStack", spec := "frameStack", apart := false, narrowed := true }
def FrameStackUptoSaid : Prop := frameStackUptoRow.holds Try.pinned (OpenSpec.upto frameStackSpec)

/-- 'kraitlaw22.FrameLocals', WHERE WHAT IT READS IS OF BULK AT MOST 1048576: true; the input reads as it did. -/
def frameLocalsUptoRow : OpenClaim := { program := "ythdkloojhenlkaa", sum := "60c606ace996af347713cf2b47a71634d8e8e262f008e9cd0b288c8bc6656925", func := "krait/kraitlaw22.FrameLocals", spec := "frameLocals", apart := false, narrowed := true }
def FrameLocalsUptoSaid : Prop := frameLocalsUptoRow.holds Try.pinned (OpenSpec.upto frameLocalsSpec)

/-- 'kraitlaw22.FrameHeld', WHERE WHAT IT READS IS OF BULK AT MOST 1048576: true; the input reads as it did. -/
def frameHeldUptoRow : OpenClaim := { program := "ythdkloojhenlkaa", sum := "60c606ace996af347713cf2b47a71634d8e8e262f008e9cd0b288c8bc6656925", func := "krait/kraitlaw22.FrameHeld", spec := "frameHeld", apart := false, narrowed := true }
def FrameHeldUptoSaid : Prop := frameHeldUptoRow.holds Try.pinned (OpenSpec.upto frameHeldSpec)

/-- 'kraitlaw22.FramePlays', WHERE WHAT IT READS IS OF BULK AT MOST 1048576: true; the input reads as it did. -/
def framePlaysUptoRow : OpenClaim := { program := "ythdkloojhenlkaa", sum := "60c606ace996af347713cf2b47a71634d8e8e262f008e9cd0b288c8bc6656925", func := "krait/kraitlaw22.FramePlays", spec := "framePlays", apart := false, narrowed := true }
def FramePlaysUptoSaid : Prop := framePlaysUptoRow.holds Try.pinned (OpenSpec.upto framePlaysSpec)

/-- 'kraitlaw22.FrameSet', WHERE WHAT IT READS IS OF BULK AT MOST 1048576: true; the input reads as it did. -/
def frameSetUptoRow : OpenClaim := { program := "ythdkloojhenlkaa", sum := "60c606ace996af347713cf2b47a71634d8e8e262f008e9cd0b288c8bc6656925", func := "krait/kraitlaw22.FrameSet", spec := "frameSet", apart := false, narrowed := true }
def FrameSetUptoSaid : Prop := frameSetUptoRow.holds Try.pinned (OpenSpec.upto frameSetSpec)

end Rows
end Go.Proofs.Ythdkloojhenlkaa
