/-
  DERIVED. GIVEN WITH THE SEED: THE CARDS: each row of YtcfelfhjhkenaaaDoorRows.lean that lists a variable, with what it lists TIED to the program's text (the seventh form; the later family's looks); each row that meets fmt, with fmt's text TOLD by the authors' own Lean function (tested against real Go, not proved from fmt's source: count such statements apart). THE CARD IS WHAT COUNTS. Prove the row's statement (the work); the ties are given (YtcfelfhjhkenaaaDoorTie.lean); close each card by the builder's one call (the guide's Derived/Test/ToyasCard.lean, 'card_holds'). Laid BY PROGRAM, IN A SANDBOX (cutbox-door.mjs). By AI agents, Wed Nov 11 2026. No macro, syntax, notation, axiom, sorry.
-/
import Derived.Test.YtcfelfhjhkenaaaDoorRows
import GoSem.ClaimSeven
namespace Go.Proofs.YtcfelfhjhkenaaaDoor
namespace Rows

/-- THE TIED CARD OF 'kraitlaw19.CodeUnlike'. -/
def codeUnlikeCard : Claim7 := { stood := { row := codeUnlikeRow, standIns := [], harness := (true, "570ebc57d1d7ab5dd90cc44aa7b18d0bfeaa127bfebdf138193380755e76f282"), looks := true }, kinds := [], alts := [], laidByText := true, laidKinds := [.data, .data, .data, .listed, .data], laidTests := true, laidLooks := .later }
def CodeUnlikeCardSaid : Prop := Claim7.holds Tryd.pinned (.plain (OpenSpec.ofChange codeUnlikeSpec)) codeUnlikeCard

/-- THE TIED CARD OF 'kraitlaw19.CodeJoins'. -/
def codeJoinsCard : Claim7 := { stood := { row := codeJoinsRow, standIns := [], harness := (true, "570ebc57d1d7ab5dd90cc44aa7b18d0bfeaa127bfebdf138193380755e76f282"), looks := true }, kinds := [], alts := [], laidByText := true, laidKinds := [.data, .data, .data, .listed, .data], laidTests := true, laidLooks := .later }
def CodeJoinsCardSaid : Prop := Claim7.holds Tryd.pinned (.plain (OpenSpec.ofChange codeJoinsSpec)) codeJoinsCard

/-- THE TIED CARD OF 'kraitlaw19.CodeEncodes'. -/
def codeEncodesCard : Claim7 := { stood := { row := codeEncodesRow, standIns := [], harness := (true, "570ebc57d1d7ab5dd90cc44aa7b18d0bfeaa127bfebdf138193380755e76f282"), looks := true }, kinds := [], alts := [], laidByText := true, laidKinds := [.data, .data, .data, .listed, .data], laidTests := true, laidLooks := .later }
def CodeEncodesCardSaid : Prop := Claim7.holds Tryd.pinned (.plain (OpenSpec.ofChange codeEncodesSpec)) codeEncodesCard

/-- THE TIED CARD OF 'kraitlaw19.CodeTexts'. -/
def codeTextsCard : Claim7 := { stood := { row := codeTextsRow, standIns := [], harness := (true, "570ebc57d1d7ab5dd90cc44aa7b18d0bfeaa127bfebdf138193380755e76f282"), looks := true }, kinds := [], alts := [], laidByText := true, laidKinds := [.data, .data, .data, .listed, .data], laidTests := true, laidLooks := .later }
def CodeTextsCardSaid : Prop := Claim7.holds Tryd.pinned (.plain (OpenSpec.ofChange codeTextsSpec)) codeTextsCard

/-- THE TIED CARD OF 'kraitlaw19.CodeNames'. -/
def codeNamesCard : Claim7 := { stood := { row := codeNamesRow, standIns := [], harness := (true, "570ebc57d1d7ab5dd90cc44aa7b18d0bfeaa127bfebdf138193380755e76f282"), looks := true }, kinds := [], alts := [], laidByText := true, laidKinds := [.data, .data, .data, .listed, .data], laidTests := true, laidLooks := .later }
def CodeNamesCardSaid : Prop := Claim7.holds Tryd.pinned (.plain (OpenSpec.ofChange codeNamesSpec)) codeNamesCard

/-- THE TIED CARD OF 'kraitlaw19.CodeBack'. -/
def codeBackCard : Claim7 := { stood := { row := codeBackRow, standIns := [], harness := (true, "570ebc57d1d7ab5dd90cc44aa7b18d0bfeaa127bfebdf138193380755e76f282"), looks := true }, kinds := [], alts := [], laidByText := true, laidKinds := [.data, .data, .data, .listed, .data], laidTests := true, laidLooks := .later }
def CodeBackCardSaid : Prop := Claim7.holds Tryd.pinned (.plain (OpenSpec.ofChange codeBackSpec)) codeBackCard

/-- THE TIED CARD OF 'kraitlaw19.CodeOne'. -/
def codeOneCard : Claim7 := { stood := { row := codeOneRow, standIns := [], harness := (true, "570ebc57d1d7ab5dd90cc44aa7b18d0bfeaa127bfebdf138193380755e76f282"), looks := true }, kinds := [], alts := [], laidByText := true, laidKinds := [.data, .data, .data, .listed, .data], laidTests := true, laidLooks := .later }
def CodeOneCardSaid : Prop := Claim7.holds Tryd.pinned (.plain (OpenSpec.ofChange codeOneSpec)) codeOneCard

/-- THE TIED CARD OF 'kraitlaw19.CodeCuts'. -/
def codeCutsCard : Claim7 := { stood := { row := codeCutsRow, standIns := [], harness := (true, "570ebc57d1d7ab5dd90cc44aa7b18d0bfeaa127bfebdf138193380755e76f282"), looks := true }, kinds := [], alts := [], laidByText := true, laidKinds := [.data, .data, .data, .listed, .data], laidTests := true, laidLooks := .later }
def CodeCutsCardSaid : Prop := Claim7.holds Tryd.pinned (.plain (OpenSpec.ofChange codeCutsSpec)) codeCutsCard

/-- THE SECOND FORM's CARD OF 'kraitlaw19.CodeUnlike'. -/
def codeUnlikeUptoCard : Claim7 := { stood := { row := codeUnlikeUptoRow, standIns := [], harness := (true, "570ebc57d1d7ab5dd90cc44aa7b18d0bfeaa127bfebdf138193380755e76f282"), looks := true }, kinds := [], alts := [], laidByText := true, laidKinds := [.data, .data, .data, .listed, .data], laidTests := true, laidLooks := .later }
def CodeUnlikeUptoCardSaid : Prop := Claim7.holds Tryd.pinned (.plain (OpenSpec.upto codeUnlikeSpec)) codeUnlikeUptoCard

/-- THE SECOND FORM's CARD OF 'kraitlaw19.CodeJoins'. -/
def codeJoinsUptoCard : Claim7 := { stood := { row := codeJoinsUptoRow, standIns := [], harness := (true, "570ebc57d1d7ab5dd90cc44aa7b18d0bfeaa127bfebdf138193380755e76f282"), looks := true }, kinds := [], alts := [], laidByText := true, laidKinds := [.data, .data, .data, .listed, .data], laidTests := true, laidLooks := .later }
def CodeJoinsUptoCardSaid : Prop := Claim7.holds Tryd.pinned (.plain (OpenSpec.upto codeJoinsSpec)) codeJoinsUptoCard

/-- THE SECOND FORM's CARD OF 'kraitlaw19.CodeEncodes'. -/
def codeEncodesUptoCard : Claim7 := { stood := { row := codeEncodesUptoRow, standIns := [], harness := (true, "570ebc57d1d7ab5dd90cc44aa7b18d0bfeaa127bfebdf138193380755e76f282"), looks := true }, kinds := [], alts := [], laidByText := true, laidKinds := [.data, .data, .data, .listed, .data], laidTests := true, laidLooks := .later }
def CodeEncodesUptoCardSaid : Prop := Claim7.holds Tryd.pinned (.plain (OpenSpec.upto codeEncodesSpec)) codeEncodesUptoCard

/-- THE SECOND FORM's CARD OF 'kraitlaw19.CodeTexts'. -/
def codeTextsUptoCard : Claim7 := { stood := { row := codeTextsUptoRow, standIns := [], harness := (true, "570ebc57d1d7ab5dd90cc44aa7b18d0bfeaa127bfebdf138193380755e76f282"), looks := true }, kinds := [], alts := [], laidByText := true, laidKinds := [.data, .data, .data, .listed, .data], laidTests := true, laidLooks := .later }
def CodeTextsUptoCardSaid : Prop := Claim7.holds Tryd.pinned (.plain (OpenSpec.upto codeTextsSpec)) codeTextsUptoCard

/-- THE SECOND FORM's CARD OF 'kraitlaw19.CodeNames'. -/
def codeNamesUptoCard : Claim7 := { stood := { row := codeNamesUptoRow, standIns := [], harness := (true, "570ebc57d1d7ab5dd90cc44aa7b18d0bfeaa127bfebdf138193380755e76f282"), looks := true }, kinds := [], alts := [], laidByText := true, laidKinds := [.data, .data, .data, .listed, .data], laidTests := true, laidLooks := .later }
def CodeNamesUptoCardSaid : Prop := Claim7.holds Tryd.pinned (.plain (OpenSpec.upto codeNamesSpec)) codeNamesUptoCard

/-- THE SECOND FORM's CARD OF 'kraitlaw19.CodeBack'. -/
def codeBackUptoCard : Claim7 := { stood := { row := codeBackUptoRow, standIns := [], harness := (true, "570ebc57d1d7ab5dd90cc44aa7b18d0bfeaa127bfebdf138193380755e76f282"), looks := true }, kinds := [], alts := [], laidByText := true, laidKinds := [.data, .data, .data, .listed, .data], laidTests := true, laidLooks := .later }
def CodeBackUptoCardSaid : Prop := Claim7.holds Tryd.pinned (.plain (OpenSpec.upto codeBackSpec)) codeBackUptoCard

/-- THE SECOND FORM's CARD OF 'kraitlaw19.CodeOne'. -/
def codeOneUptoCard : Claim7 := { stood := { row := codeOneUptoRow, standIns := [], harness := (true, "570ebc57d1d7ab5dd90cc44aa7b18d0bfeaa127bfebdf138193380755e76f282"), looks := true }, kinds := [], alts := [], laidByText := true, laidKinds := [.data, .data, .data, .listed, .data], laidTests := true, laidLooks := .later }
def CodeOneUptoCardSaid : Prop := Claim7.holds Tryd.pinned (.plain (OpenSpec.upto codeOneSpec)) codeOneUptoCard

/-- THE SECOND FORM's CARD OF 'kraitlaw19.CodeCuts'. -/
def codeCutsUptoCard : Claim7 := { stood := { row := codeCutsUptoRow, standIns := [], harness := (true, "570ebc57d1d7ab5dd90cc44aa7b18d0bfeaa127bfebdf138193380755e76f282"), looks := true }, kinds := [], alts := [], laidByText := true, laidKinds := [.data, .data, .data, .listed, .data], laidTests := true, laidLooks := .later }
def CodeCutsUptoCardSaid : Prop := Claim7.holds Tryd.pinned (.plain (OpenSpec.upto codeCutsSpec)) codeCutsUptoCard
end Rows
end Go.Proofs.YtcfelfhjhkenaaaDoor
