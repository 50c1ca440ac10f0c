/-
  DERIVED. GIVEN WITH THE SEED: THE CARDS: each row of YtjdcicopjipmnaaDoorRows.lean that lists a variable, with what it lists TIED to the program's text (the seventh form; the later family's looks); each row that meets fmt, with fmt's text TOLD by the authors' own Lean function (tested against real Go, not proved from fmt's source: count such statements apart). THE CARD IS WHAT COUNTS. Prove the row's statement (the work); the ties are given (YtjdcicopjipmnaaDoorTie.lean); close each card by the builder's one call (the guide's Derived/Test/ToyasCard.lean, 'card_holds'). Laid BY PROGRAM, IN A SANDBOX (cutbox-door.mjs). By AI agents, Wed Nov 11 2026. No macro, syntax, notation, axiom, sorry.
-/
import Derived.Test.YtjdcicopjipmnaaDoorRows
import GoSem.ClaimSeven
namespace Go.Proofs.YtjdcicopjipmnaaDoor
namespace Rows

/-- THE TIED CARD OF 'kraitlaw04.ExpressBack'. -/
def expressBackCard : Claim7 := { stood := { row := expressBackRow, standIns := [], harness := (true, "b80611029f9cc223a9bba7aa6d9a2581a846767bfecba75cb4d5aa7245f37ff2"), looks := false }, kinds := [], alts := [], laidByText := true, laidKinds := [.listed, .data], laidTests := true, laidLooks := .later }
def ExpressBackCardSaid : Prop := Claim7.holds Tryd.pinned (.plain (OpenSpec.ofChange expressBackSpec)) expressBackCard

/-- THE TIED CARD OF 'kraitlaw04.ExpressStops'. -/
def expressStopsCard : Claim7 := { stood := { row := expressStopsRow, standIns := [], harness := (true, "b80611029f9cc223a9bba7aa6d9a2581a846767bfecba75cb4d5aa7245f37ff2"), looks := false }, kinds := [], alts := [], laidByText := true, laidKinds := [.listed, .data], laidTests := true, laidLooks := .later }
def ExpressStopsCardSaid : Prop := Claim7.holds Tryd.pinned (.plain (OpenSpec.ofChange expressStopsSpec)) expressStopsCard

/-- THE TIED CARD OF 'kraitlaw04.ExpressCuts'. -/
def expressCutsCard : Claim7 := { stood := { row := expressCutsRow, standIns := [], harness := (true, "b80611029f9cc223a9bba7aa6d9a2581a846767bfecba75cb4d5aa7245f37ff2"), looks := false }, kinds := [], alts := [], laidByText := true, laidKinds := [.listed, .data], laidTests := true, laidLooks := .later }
def ExpressCutsCardSaid : Prop := Claim7.holds Tryd.pinned (.plain (OpenSpec.ofChange expressCutsSpec)) expressCutsCard

/-- THE TIED CARD OF 'kraitlaw04.ExpressBinds'. -/
def expressBindsCard : Claim7 := { stood := { row := expressBindsRow, standIns := [], harness := (true, "b80611029f9cc223a9bba7aa6d9a2581a846767bfecba75cb4d5aa7245f37ff2"), looks := false }, kinds := [], alts := [], laidByText := true, laidKinds := [.listed, .data], laidTests := true, laidLooks := .later }
def ExpressBindsCardSaid : Prop := Claim7.holds Tryd.pinned (.plain (OpenSpec.ofChange expressBindsSpec)) expressBindsCard

/-- THE TIED CARD OF 'kraitlaw04.ExpressOnes'. -/
def expressOnesCard : Claim7 := { stood := { row := expressOnesRow, standIns := [], harness := (true, "b80611029f9cc223a9bba7aa6d9a2581a846767bfecba75cb4d5aa7245f37ff2"), looks := false }, kinds := [], alts := [], laidByText := true, laidKinds := [.listed, .data], laidTests := true, laidLooks := .later }
def ExpressOnesCardSaid : Prop := Claim7.holds Tryd.pinned (.plain (OpenSpec.ofChange expressOnesSpec)) expressOnesCard

/-- THE TIED CARD OF 'kraitlaw04.ExpressPlaces'. -/
def expressPlacesCard : Claim7 := { stood := { row := expressPlacesRow, standIns := [], harness := (true, "b80611029f9cc223a9bba7aa6d9a2581a846767bfecba75cb4d5aa7245f37ff2"), looks := false }, kinds := [], alts := [], laidByText := true, laidKinds := [.listed, .data], laidTests := true, laidLooks := .later }
def ExpressPlacesCardSaid : Prop := Claim7.holds Tryd.pinned (.plain (OpenSpec.ofChange expressPlacesSpec)) expressPlacesCard

/-- THE TIED CARD OF 'kraitlaw04.ExpressRight'. -/
def expressRightCard : Claim7 := { stood := { row := expressRightRow, standIns := [], harness := (true, "b80611029f9cc223a9bba7aa6d9a2581a846767bfecba75cb4d5aa7245f37ff2"), looks := false }, kinds := [], alts := [], laidByText := true, laidKinds := [.listed, .data], laidTests := true, laidLooks := .later }
def ExpressRightCardSaid : Prop := Claim7.holds Tryd.pinned (.plain (OpenSpec.ofChange expressRightSpec)) expressRightCard

/-- THE TIED CARD OF 'kraitlaw04.ExpressDeep'. -/
def expressDeepCard : Claim7 := { stood := { row := expressDeepRow, standIns := [], harness := (true, "b80611029f9cc223a9bba7aa6d9a2581a846767bfecba75cb4d5aa7245f37ff2"), looks := false }, kinds := [], alts := [], laidByText := true, laidKinds := [.listed, .data], laidTests := true, laidLooks := .later }
def ExpressDeepCardSaid : Prop := Claim7.holds Tryd.pinned (.plain (OpenSpec.ofChange expressDeepSpec)) expressDeepCard

/-- THE TIED CARD OF 'kraitlaw04.ExpressRows'. -/
def expressRowsCard : Claim7 := { stood := { row := expressRowsRow, standIns := [], harness := (true, "b80611029f9cc223a9bba7aa6d9a2581a846767bfecba75cb4d5aa7245f37ff2"), looks := false }, kinds := [], alts := [], laidByText := true, laidKinds := [.listed, .data], laidTests := true, laidLooks := .later }
def ExpressRowsCardSaid : Prop := Claim7.holds Tryd.pinned (.plain (OpenSpec.ofChange expressRowsSpec)) expressRowsCard

/-- THE TIED CARD OF 'kraitlaw04.ExpressLambdas'. -/
def expressLambdasCard : Claim7 := { stood := { row := expressLambdasRow, standIns := [], harness := (true, "b80611029f9cc223a9bba7aa6d9a2581a846767bfecba75cb4d5aa7245f37ff2"), looks := false }, kinds := [], alts := [], laidByText := true, laidKinds := [.listed, .data], laidTests := true, laidLooks := .later }
def ExpressLambdasCardSaid : Prop := Claim7.holds Tryd.pinned (.plain (OpenSpec.ofChange expressLambdasSpec)) expressLambdasCard

/-- THE TIED CARD OF 'kraitlaw04.ExpressWords'. -/
def expressWordsCard : Claim7 := { stood := { row := expressWordsRow, standIns := [], harness := (true, "b80611029f9cc223a9bba7aa6d9a2581a846767bfecba75cb4d5aa7245f37ff2"), looks := false }, kinds := [], alts := [], laidByText := true, laidKinds := [.listed, .data], laidTests := true, laidLooks := .later }
def ExpressWordsCardSaid : Prop := Claim7.holds Tryd.pinned (.plain (OpenSpec.ofChange expressWordsSpec)) expressWordsCard

/-- THE SECOND FORM's CARD OF 'kraitlaw04.ExpressBack'. -/
def expressBackUptoCard : Claim7 := { stood := { row := expressBackUptoRow, standIns := [], harness := (true, "b80611029f9cc223a9bba7aa6d9a2581a846767bfecba75cb4d5aa7245f37ff2"), looks := false }, kinds := [], alts := [], laidByText := true, laidKinds := [.listed, .data], laidTests := true, laidLooks := .later }
def ExpressBackUptoCardSaid : Prop := Claim7.holds Tryd.pinned (.plain (OpenSpec.upto expressBackSpec)) expressBackUptoCard

/-- THE SECOND FORM's CARD OF 'kraitlaw04.ExpressStops'. -/
def expressStopsUptoCard : Claim7 := { stood := { row := expressStopsUptoRow, standIns := [], harness := (true, "b80611029f9cc223a9bba7aa6d9a2581a846767bfecba75cb4d5aa7245f37ff2"), looks := false }, kinds := [], alts := [], laidByText := true, laidKinds := [.listed, .data], laidTests := true, laidLooks := .later }
def ExpressStopsUptoCardSaid : Prop := Claim7.holds Tryd.pinned (.plain (OpenSpec.upto expressStopsSpec)) expressStopsUptoCard

/-- THE SECOND FORM's CARD OF 'kraitlaw04.ExpressCuts'. -/
def expressCutsUptoCard : Claim7 := { stood := { row := expressCutsUptoRow, standIns := [], harness := (true, "b80611029f9cc223a9bba7aa6d9a2581a846767bfecba75cb4d5aa7245f37ff2"), looks := false }, kinds := [], alts := [], laidByText := true, laidKinds := [.listed, .data], laidTests := true, laidLooks := .later }
def ExpressCutsUptoCardSaid : Prop := Claim7.holds Tryd.pinned (.plain (OpenSpec.upto expressCutsSpec)) expressCutsUptoCard

/-- THE SECOND FORM's CARD OF 'kraitlaw04.ExpressBinds'. -/
def expressBindsUptoCard : Claim7 := { stood := { row := expressBindsUptoRow, standIns := [], harness := (true, "b80611029f9cc223a9bba7aa6d9a2581a846767bfecba75cb4d5aa7245f37ff2"), looks := false }, kinds := [], alts := [], laidByText := true, laidKinds := [.listed, .data], laidTests := true, laidLooks := .later }
def ExpressBindsUptoCardSaid : Prop := Claim7.holds Tryd.pinned (.plain (OpenSpec.upto expressBindsSpec)) expressBindsUptoCard

/-- THE SECOND FORM's CARD OF 'kraitlaw04.ExpressOnes'. -/
def expressOnesUptoCard : Claim7 := { stood := { row := expressOnesUptoRow, standIns := [], harness := (true, "b80611029f9cc223a9bba7aa6d9a2581a846767bfecba75cb4d5aa7245f37ff2"), looks := false }, kinds := [], alts := [], laidByText := true, laidKinds := [.listed, .data], laidTests := true, laidLooks := .later }
def ExpressOnesUptoCardSaid : Prop := Claim7.holds Tryd.pinned (.plain (OpenSpec.upto expressOnesSpec)) expressOnesUptoCard

/-- THE SECOND FORM's CARD OF 'kraitlaw04.ExpressPlaces'. -/
def expressPlacesUptoCard : Claim7 := { stood := { row := expressPlacesUptoRow, standIns := [], harness := (true, "b80611029f9cc223a9bba7aa6d9a2581a846767bfecba75cb4d5aa7245f37ff2"), looks := false }, kinds := [], alts := [], laidByText := true, laidKinds := [.listed, .data], laidTests := true, laidLooks := .later }
def ExpressPlacesUptoCardSaid : Prop := Claim7.holds Tryd.pinned (.plain (OpenSpec.upto expressPlacesSpec)) expressPlacesUptoCard

/-- THE SECOND FORM's CARD OF 'kraitlaw04.ExpressRight'. -/
def expressRightUptoCard : Claim7 := { stood := { row := expressRightUptoRow, standIns := [], harness := (true, "b80611029f9cc223a9bba7aa6d9a2581a846767bfecba75cb4d5aa7245f37ff2"), looks := false }, kinds := [], alts := [], laidByText := true, laidKinds := [.listed, .data], laidTests := true, laidLooks := .later }
def ExpressRightUptoCardSaid : Prop := Claim7.holds Tryd.pinned (.plain (OpenSpec.upto expressRightSpec)) expressRightUptoCard

/-- THE SECOND FORM's CARD OF 'kraitlaw04.ExpressDeep'. -/
def expressDeepUptoCard : Claim7 := { stood := { row := expressDeepUptoRow, standIns := [], harness := (true, "b80611029f9cc223a9bba7aa6d9a2581a846767bfecba75cb4d5aa7245f37ff2"), looks := false }, kinds := [], alts := [], laidByText := true, laidKinds := [.listed, .data], laidTests := true, laidLooks := .later }
def ExpressDeepUptoCardSaid : Prop := Claim7.holds Tryd.pinned (.plain (OpenSpec.upto expressDeepSpec)) expressDeepUptoCard

/-- THE SECOND FORM's CARD OF 'kraitlaw04.ExpressRows'. -/
def expressRowsUptoCard : Claim7 := { stood := { row := expressRowsUptoRow, standIns := [], harness := (true, "b80611029f9cc223a9bba7aa6d9a2581a846767bfecba75cb4d5aa7245f37ff2"), looks := false }, kinds := [], alts := [], laidByText := true, laidKinds := [.listed, .data], laidTests := true, laidLooks := .later }
def ExpressRowsUptoCardSaid : Prop := Claim7.holds Tryd.pinned (.plain (OpenSpec.upto expressRowsSpec)) expressRowsUptoCard

/-- THE SECOND FORM's CARD OF 'kraitlaw04.ExpressLambdas'. -/
def expressLambdasUptoCard : Claim7 := { stood := { row := expressLambdasUptoRow, standIns := [], harness := (true, "b80611029f9cc223a9bba7aa6d9a2581a846767bfecba75cb4d5aa7245f37ff2"), looks := false }, kinds := [], alts := [], laidByText := true, laidKinds := [.listed, .data], laidTests := true, laidLooks := .later }
def ExpressLambdasUptoCardSaid : Prop := Claim7.holds Tryd.pinned (.plain (OpenSpec.upto expressLambdasSpec)) expressLambdasUptoCard

/-- THE SECOND FORM's CARD OF 'kraitlaw04.ExpressWords'. -/
def expressWordsUptoCard : Claim7 := { stood := { row := expressWordsUptoRow, standIns := [], harness := (true, "b80611029f9cc223a9bba7aa6d9a2581a846767bfecba75cb4d5aa7245f37ff2"), looks := false }, kinds := [], alts := [], laidByText := true, laidKinds := [.listed, .data], laidTests := true, laidLooks := .later }
def ExpressWordsUptoCardSaid : Prop := Claim7.holds Tryd.pinned (.plain (OpenSpec.upto expressWordsSpec)) expressWordsUptoCard
end Rows
end Go.Proofs.YtjdcicopjipmnaaDoor
