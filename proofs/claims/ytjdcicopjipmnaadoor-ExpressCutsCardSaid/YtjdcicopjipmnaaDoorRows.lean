/-
  NARROWER THAN 'FOR EVERY INPUT', by the rows' own cells (each row's printed sentence says how): ExpressBack: laid · ExpressStops: laid · ExpressCuts: laid · ExpressBinds: laid · ExpressOnes: laid · ExpressPlaces: laid · ExpressRight: laid · ExpressDeep: laid · ExpressRows: laid · ExpressLambdas: laid · ExpressWords: laid.
  DERIVED. THE GIVEN ROWS OF THIS SEAT. 11 by the template 'for every input the law returns true; each argument reads behind the call as it read before'; 0 by the template 'total and deterministic' (their statements: YtjdcicopjipmnaaDoorTotals.lean).
  GIVEN WITH THE SEED: the statements are not yours to turn. If you find one false, say at which input.
  Laid BY PROGRAM, IN A SANDBOX (cutbox-rows.mjs): the forced cells as the released guide's own fill.sh prints them over the translation 0141dc8d5f6619c7… (all of the seat's roots in one cut). By AI agents, Wed Nov 11 2026. No macro, syntax, notation, axiom, sorry.
-/
import Derived.Test.YtjdcicopjipmnaaDoorChecked
import GoSem.Claim
import GoSem.ClaimJoined
import GoSem.ClaimMapViews
import Derived.JoinedTies
import Derived.KernelRfl
namespace Go.Proofs.YtjdcicopjipmnaaDoor
/- THE CELL 'sum', in the pinned program and in every row, IS THE sha256 OF THE DUMP (.gsa) THAT YtjdcicopjipmnaaDoorProg.lean LOADS. Nothing in Lean hashes anything: it is a label: what it is worth is what the hold of that sum in a sandbox is worth. -/
noncomputable def Tryd.pinned : Pinned := { name := "ytjdcicopjipmnaadoor", sum := "0141dc8d5f6619c79c60e36e5a0cb15a4f4ba13c9e884fae0745b19660e63d56", checked := Tryd.checked }
namespace Rows
def none {H : Type} : Left H := { results := [], args := [] }

/- WHAT THE LISTED PACKAGE-LEVEL VARIABLES READ AS WHEN THE CALL BEGINS. Each datum BY PROGRAM (the guide's laid-datum.mjs) off the statement by which the dump's own 'gosem.cut.vars' lays the variable. In a bare row this is a premise. The card (YtjdcicopjipmnaaDoorCards.lean) ties it to the program's text. -/
def laid_unicode_White_Space {H : Type} : DataW H := .ptr (.agg [.slice [.agg [.lit (.int .u16 9), .lit (.int .u16 13), .lit (.int .u16 1)], .agg [.lit (.int .u16 32), .lit (.int .u16 133), .lit (.int .u16 101)], .agg [.lit (.int .u16 160), .lit (.int .u16 5760), .lit (.int .u16 5600)], .agg [.lit (.int .u16 8192), .lit (.int .u16 8202), .lit (.int .u16 1)], .agg [.lit (.int .u16 8232), .lit (.int .u16 8233), .lit (.int .u16 1)], .agg [.lit (.int .u16 8239), .lit (.int .u16 8287), .lit (.int .u16 48)], .agg [.lit (.int .u16 12288), .lit (.int .u16 12288), .lit (.int .u16 1)]] [], .nil, .lit (.int .i64 2)])
def laid_strings_asciiSpace {H : Type} : DataW H := .agg [.lit (.int .u8 0), .lit (.int .u8 0), .lit (.int .u8 0), .lit (.int .u8 0), .lit (.int .u8 0), .lit (.int .u8 0), .lit (.int .u8 0), .lit (.int .u8 0), .lit (.int .u8 0), .lit (.int .u8 1), .lit (.int .u8 1), .lit (.int .u8 1), .lit (.int .u8 1), .lit (.int .u8 1), .lit (.int .u8 0), .lit (.int .u8 0), .lit (.int .u8 0), .lit (.int .u8 0), .lit (.int .u8 0), .lit (.int .u8 0), .lit (.int .u8 0), .lit (.int .u8 0), .lit (.int .u8 0), .lit (.int .u8 0), .lit (.int .u8 0), .lit (.int .u8 0), .lit (.int .u8 0), .lit (.int .u8 0), .lit (.int .u8 0), .lit (.int .u8 0), .lit (.int .u8 0), .lit (.int .u8 0), .lit (.int .u8 1), .lit (.int .u8 0), .lit (.int .u8 0), .lit (.int .u8 0), .lit (.int .u8 0), .lit (.int .u8 0), .lit (.int .u8 0), .lit (.int .u8 0), .lit (.int .u8 0), .lit (.int .u8 0), .lit (.int .u8 0), .lit (.int .u8 0), .lit (.int .u8 0), .lit (.int .u8 0), .lit (.int .u8 0), .lit (.int .u8 0), .lit (.int .u8 0), .lit (.int .u8 0), .lit (.int .u8 0), .lit (.int .u8 0), .lit (.int .u8 0), .lit (.int .u8 0), .lit (.int .u8 0), .lit (.int .u8 0), .lit (.int .u8 0), .lit (.int .u8 0), .lit (.int .u8 0), .lit (.int .u8 0), .lit (.int .u8 0), .lit (.int .u8 0), .lit (.int .u8 0), .lit (.int .u8 0), .lit (.int .u8 0), .lit (.int .u8 0), .lit (.int .u8 0), .lit (.int .u8 0), .lit (.int .u8 0), .lit (.int .u8 0), .lit (.int .u8 0), .lit (.int .u8 0), .lit (.int .u8 0), .lit (.int .u8 0), .lit (.int .u8 0), .lit (.int .u8 0), .lit (.int .u8 0), .lit (.int .u8 0), .lit (.int .u8 0), .lit (.int .u8 0), .lit (.int .u8 0), .lit (.int .u8 0), .lit (.int .u8 0), .lit (.int .u8 0), .lit (.int .u8 0), .lit (.int .u8 0), .lit (.int .u8 0), .lit (.int .u8 0), .lit (.int .u8 0), .lit (.int .u8 0), .lit (.int .u8 0), .lit (.int .u8 0), .lit (.int .u8 0), .lit (.int .u8 0), .lit (.int .u8 0), .lit (.int .u8 0), .lit (.int .u8 0), .lit (.int .u8 0), .lit (.int .u8 0), .lit (.int .u8 0), .lit (.int .u8 0), .lit (.int .u8 0), .lit (.int .u8 0), .lit (.int .u8 0), .lit (.int .u8 0), .lit (.int .u8 0), .lit (.int .u8 0), .lit (.int .u8 0), .lit (.int .u8 0), .lit (.int .u8 0), .lit (.int .u8 0), .lit (.int .u8 0), .lit (.int .u8 0), .lit (.int .u8 0), .lit (.int .u8 0), .lit (.int .u8 0), .lit (.int .u8 0), .lit (.int .u8 0), .lit (.int .u8 0), .lit (.int .u8 0), .lit (.int .u8 0), .lit (.int .u8 0), .lit (.int .u8 0), .lit (.int .u8 0), .lit (.int .u8 0), .lit (.int .u8 0), .lit (.int .u8 0), .lit (.int .u8 0), .lit (.int .u8 0), .lit (.int .u8 0), .lit (.int .u8 0), .lit (.int .u8 0), .lit (.int .u8 0), .lit (.int .u8 0), .lit (.int .u8 0), .lit (.int .u8 0), .lit (.int .u8 0), .lit (.int .u8 0), .lit (.int .u8 0), .lit (.int .u8 0), .lit (.int .u8 0), .lit (.int .u8 0), .lit (.int .u8 0), .lit (.int .u8 0), .lit (.int .u8 0), .lit (.int .u8 0), .lit (.int .u8 0), .lit (.int .u8 0), .lit (.int .u8 0), .lit (.int .u8 0), .lit (.int .u8 0), .lit (.int .u8 0), .lit (.int .u8 0), .lit (.int .u8 0), .lit (.int .u8 0), .lit (.int .u8 0), .lit (.int .u8 0), .lit (.int .u8 0), .lit (.int .u8 0), .lit (.int .u8 0), .lit (.int .u8 0), .lit (.int .u8 0), .lit (.int .u8 0), .lit (.int .u8 0), .lit (.int .u8 0), .lit (.int .u8 0), .lit (.int .u8 0), .lit (.int .u8 0), .lit (.int .u8 0), .lit (.int .u8 0), .lit (.int .u8 0), .lit (.int .u8 0), .lit (.int .u8 0), .lit (.int .u8 0), .lit (.int .u8 0), .lit (.int .u8 0), .lit (.int .u8 0), .lit (.int .u8 0), .lit (.int .u8 0), .lit (.int .u8 0), .lit (.int .u8 0), .lit (.int .u8 0), .lit (.int .u8 0), .lit (.int .u8 0), .lit (.int .u8 0), .lit (.int .u8 0), .lit (.int .u8 0), .lit (.int .u8 0), .lit (.int .u8 0), .lit (.int .u8 0), .lit (.int .u8 0), .lit (.int .u8 0), .lit (.int .u8 0), .lit (.int .u8 0), .lit (.int .u8 0), .lit (.int .u8 0), .lit (.int .u8 0), .lit (.int .u8 0), .lit (.int .u8 0), .lit (.int .u8 0), .lit (.int .u8 0), .lit (.int .u8 0), .lit (.int .u8 0), .lit (.int .u8 0), .lit (.int .u8 0), .lit (.int .u8 0), .lit (.int .u8 0), .lit (.int .u8 0), .lit (.int .u8 0), .lit (.int .u8 0), .lit (.int .u8 0), .lit (.int .u8 0), .lit (.int .u8 0), .lit (.int .u8 0), .lit (.int .u8 0), .lit (.int .u8 0), .lit (.int .u8 0), .lit (.int .u8 0), .lit (.int .u8 0), .lit (.int .u8 0), .lit (.int .u8 0), .lit (.int .u8 0), .lit (.int .u8 0), .lit (.int .u8 0), .lit (.int .u8 0), .lit (.int .u8 0), .lit (.int .u8 0), .lit (.int .u8 0), .lit (.int .u8 0), .lit (.int .u8 0), .lit (.int .u8 0), .lit (.int .u8 0), .lit (.int .u8 0), .lit (.int .u8 0), .lit (.int .u8 0), .lit (.int .u8 0), .lit (.int .u8 0), .lit (.int .u8 0), .lit (.int .u8 0), .lit (.int .u8 0), .lit (.int .u8 0), .lit (.int .u8 0), .lit (.int .u8 0), .lit (.int .u8 0), .lit (.int .u8 0), .lit (.int .u8 0), .lit (.int .u8 0), .lit (.int .u8 0), .lit (.int .u8 0), .lit (.int .u8 0), .lit (.int .u8 0), .lit (.int .u8 0), .lit (.int .u8 0), .lit (.int .u8 0), .lit (.int .u8 0), .lit (.int .u8 0)]

/-- 'kraitlaw04.ExpressBack': WHATEVER THE INPUT: true; the input reads as it did. -/
def expressBackSpec : ChangeSpec := { name := "expressBack", fn := fun _ => fun
  | [d1, d2] => { results := [.lit (.bool true)], args := [d1, d2] }
  | _ => none }
def expressBackRow : OpenClaim := { program := "ytjdcicopjipmnaadoor", sum := "0141dc8d5f6619c79c60e36e5a0cb15a4f4ba13c9e884fae0745b19660e63d56", func := "krait/kraitlaw04.ExpressBack", spec := "expressBack", unfollowed := true, recurses := true, named := ["strings.asciiSpace", "unicode.White_Space"], apart := false, laid := [("unicode.White_Space", laid_unicode_White_Space), ("strings.asciiSpace", laid_strings_asciiSpace)] }
def ExpressBackSaid : Prop := expressBackRow.holds Tryd.pinned (OpenSpec.ofChange expressBackSpec)

/-- ITS FALSE NEIGHBOUR: 'it returns false'. Refute it at one input. -/
def expressBackWrong : ChangeSpec := { name := "expressBack", fn := fun _ => fun
  | [d1, d2] => { results := [.lit (.bool false)], args := [d1, d2] }
  | _ => none }
def ExpressBackWrongFalsely : Prop := expressBackRow.holds Tryd.pinned (OpenSpec.ofChange expressBackWrong)

/-- 'kraitlaw04.ExpressStops': WHATEVER THE INPUT: true; the input reads as it did. -/
def expressStopsSpec : ChangeSpec := { name := "expressStops", fn := fun _ => fun
  | [d1, d2, d3] => { results := [.lit (.bool true)], args := [d1, d2, d3] }
  | _ => none }
def expressStopsRow : OpenClaim := { program := "ytjdcicopjipmnaadoor", sum := "0141dc8d5f6619c79c60e36e5a0cb15a4f4ba13c9e884fae0745b19660e63d56", func := "krait/kraitlaw04.ExpressStops", spec := "expressStops", unfollowed := true, recurses := true, named := ["strings.asciiSpace", "unicode.White_Space"], apart := false, laid := [("unicode.White_Space", laid_unicode_White_Space), ("strings.asciiSpace", laid_strings_asciiSpace)] }
def ExpressStopsSaid : Prop := expressStopsRow.holds Tryd.pinned (OpenSpec.ofChange expressStopsSpec)

/-- ITS FALSE NEIGHBOUR: 'it returns false'. Refute it at one input. -/
def expressStopsWrong : ChangeSpec := { name := "expressStops", fn := fun _ => fun
  | [d1, d2, d3] => { results := [.lit (.bool false)], args := [d1, d2, d3] }
  | _ => none }
def ExpressStopsWrongFalsely : Prop := expressStopsRow.holds Tryd.pinned (OpenSpec.ofChange expressStopsWrong)

/-- 'kraitlaw04.ExpressCuts': WHATEVER THE INPUT: true; the input reads as it did. -/
def expressCutsSpec : ChangeSpec := { name := "expressCuts", fn := fun _ => fun
  | [d1, d2, d3] => { results := [.lit (.bool true)], args := [d1, d2, d3] }
  | _ => none }
def expressCutsRow : OpenClaim := { program := "ytjdcicopjipmnaadoor", sum := "0141dc8d5f6619c79c60e36e5a0cb15a4f4ba13c9e884fae0745b19660e63d56", func := "krait/kraitlaw04.ExpressCuts", spec := "expressCuts", unfollowed := true, recurses := true, named := ["strings.asciiSpace", "unicode.White_Space"], apart := false, laid := [("unicode.White_Space", laid_unicode_White_Space), ("strings.asciiSpace", laid_strings_asciiSpace)] }
def ExpressCutsSaid : Prop := expressCutsRow.holds Tryd.pinned (OpenSpec.ofChange expressCutsSpec)

/-- ITS FALSE NEIGHBOUR: 'it returns false'. Refute it at one input. -/
def expressCutsWrong : ChangeSpec := { name := "expressCuts", fn := fun _ => fun
  | [d1, d2, d3] => { results := [.lit (.bool false)], args := [d1, d2, d3] }
  | _ => none }
def ExpressCutsWrongFalsely : Prop := expressCutsRow.holds Tryd.pinned (OpenSpec.ofChange expressCutsWrong)

/-- 'kraitlaw04.ExpressBinds': WHATEVER THE INPUT: true; the input reads as it did. -/
def expressBindsSpec : ChangeSpec := { name := "expressBinds", fn := fun _ => fun
  | [d1, d2, d3] => { results := [.lit (.bool true)], args := [d1, d2, d3] }
  | _ => none }
def expressBindsRow : OpenClaim := { program := "ytjdcicopjipmnaadoor", sum := "0141dc8d5f6619c79c60e36e5a0cb15a4f4ba13c9e884fae0745b19660e63d56", func := "krait/kraitlaw04.ExpressBinds", spec := "expressBinds", unfollowed := true, recurses := true, named := ["strings.asciiSpace", "unicode.White_Space"], apart := false, laid := [("unicode.White_Space", laid_unicode_White_Space), ("strings.asciiSpace", laid_strings_asciiSpace)] }
def ExpressBindsSaid : Prop := expressBindsRow.holds Tryd.pinned (OpenSpec.ofChange expressBindsSpec)

/-- ITS FALSE NEIGHBOUR: 'it returns false'. Refute it at one input. -/
def expressBindsWrong : ChangeSpec := { name := "expressBinds", fn := fun _ => fun
  | [d1, d2, d3] => { results := [.lit (.bool false)], args := [d1, d2, d3] }
  | _ => none }
def ExpressBindsWrongFalsely : Prop := expressBindsRow.holds Tryd.pinned (OpenSpec.ofChange expressBindsWrong)

/-- 'kraitlaw04.ExpressOnes': WHATEVER THE INPUT: true; the input reads as it did. -/
def expressOnesSpec : ChangeSpec := { name := "expressOnes", fn := fun _ => fun
  | [d1, d2, d3] => { results := [.lit (.bool true)], args := [d1, d2, d3] }
  | _ => none }
def expressOnesRow : OpenClaim := { program := "ytjdcicopjipmnaadoor", sum := "0141dc8d5f6619c79c60e36e5a0cb15a4f4ba13c9e884fae0745b19660e63d56", func := "krait/kraitlaw04.ExpressOnes", spec := "expressOnes", unfollowed := true, recurses := true, named := ["strings.asciiSpace", "unicode.White_Space"], apart := false, laid := [("unicode.White_Space", laid_unicode_White_Space), ("strings.asciiSpace", laid_strings_asciiSpace)] }
def ExpressOnesSaid : Prop := expressOnesRow.holds Tryd.pinned (OpenSpec.ofChange expressOnesSpec)

/-- ITS FALSE NEIGHBOUR: 'it returns false'. Refute it at one input. -/
def expressOnesWrong : ChangeSpec := { name := "expressOnes", fn := fun _ => fun
  | [d1, d2, d3] => { results := [.lit (.bool false)], args := [d1, d2, d3] }
  | _ => none }
def ExpressOnesWrongFalsely : Prop := expressOnesRow.holds Tryd.pinned (OpenSpec.ofChange expressOnesWrong)

/-- 'kraitlaw04.ExpressPlaces': WHATEVER THE INPUT: true; the input reads as it did. -/
def expressPlacesSpec : ChangeSpec := { name := "expressPlaces", fn := fun _ => fun
  | [d1, d2] => { results := [.lit (.bool true)], args := [d1, d2] }
  | _ => none }
def expressPlacesRow : OpenClaim := { program := "ytjdcicopjipmnaadoor", sum := "0141dc8d5f6619c79c60e36e5a0cb15a4f4ba13c9e884fae0745b19660e63d56", func := "krait/kraitlaw04.ExpressPlaces", spec := "expressPlaces", unfollowed := true, recurses := true, named := ["strings.asciiSpace", "unicode.White_Space"], apart := false, laid := [("unicode.White_Space", laid_unicode_White_Space), ("strings.asciiSpace", laid_strings_asciiSpace)] }
def ExpressPlacesSaid : Prop := expressPlacesRow.holds Tryd.pinned (OpenSpec.ofChange expressPlacesSpec)

/-- ITS FALSE NEIGHBOUR: 'it returns false'. Refute it at one input. -/
def expressPlacesWrong : ChangeSpec := { name := "expressPlaces", fn := fun _ => fun
  | [d1, d2] => { results := [.lit (.bool false)], args := [d1, d2] }
  | _ => none }
def ExpressPlacesWrongFalsely : Prop := expressPlacesRow.holds Tryd.pinned (OpenSpec.ofChange expressPlacesWrong)

/-- 'kraitlaw04.ExpressRight': WHATEVER THE INPUT: true; the input reads as it did. -/
def expressRightSpec : ChangeSpec := { name := "expressRight", fn := fun _ => fun
  | [d] => { results := [.lit (.bool true)], args := [d] }
  | _ => none }
def expressRightRow : OpenClaim := { program := "ytjdcicopjipmnaadoor", sum := "0141dc8d5f6619c79c60e36e5a0cb15a4f4ba13c9e884fae0745b19660e63d56", func := "krait/kraitlaw04.ExpressRight", spec := "expressRight", unfollowed := true, recurses := true, named := ["strings.asciiSpace", "unicode.White_Space"], apart := false, laid := [("unicode.White_Space", laid_unicode_White_Space), ("strings.asciiSpace", laid_strings_asciiSpace)] }
def ExpressRightSaid : Prop := expressRightRow.holds Tryd.pinned (OpenSpec.ofChange expressRightSpec)

/-- ITS FALSE NEIGHBOUR: 'it returns false'. Refute it at one input. -/
def expressRightWrong : ChangeSpec := { name := "expressRight", fn := fun _ => fun
  | [d] => { results := [.lit (.bool false)], args := [d] }
  | _ => none }
def ExpressRightWrongFalsely : Prop := expressRightRow.holds Tryd.pinned (OpenSpec.ofChange expressRightWrong)

/-- 'kraitlaw04.ExpressDeep': WHATEVER THE INPUT: true; the input reads as it did. -/
def expressDeepSpec : ChangeSpec := { name := "expressDeep", fn := fun _ => fun
  | [d1, d2] => { results := [.lit (.bool true)], args := [d1, d2] }
  | _ => none }
def expressDeepRow : OpenClaim := { program := "ytjdcicopjipmnaadoor", sum := "0141dc8d5f6619c79c60e36e5a0cb15a4f4ba13c9e884fae0745b19660e63d56", func := "krait/kraitlaw04.ExpressDeep", spec := "expressDeep", unfollowed := true, recurses := true, named := ["strings.asciiSpace", "unicode.White_Space"], apart := false, laid := [("unicode.White_Space", laid_unicode_White_Space), ("strings.asciiSpace", laid_strings_asciiSpace)] }
def ExpressDeepSaid : Prop := expressDeepRow.holds Tryd.pinned (OpenSpec.ofChange expressDeepSpec)

/-- ITS FALSE NEIGHBOUR: 'it returns false'. Refute it at one input. -/
def expressDeepWrong : ChangeSpec := { name := "expressDeep", fn := fun _ => fun
  | [d1, d2] => { results := [.lit (.bool false)], args := [d1, d2] }
  | _ => none }
def ExpressDeepWrongFalsely : Prop := expressDeepRow.holds Tryd.pinned (OpenSpec.ofChange expressDeepWrong)

/-- 'kraitlaw04.ExpressRows': WHATEVER THE INPUT: true; the input reads as it did. -/
def expressRowsSpec : ChangeSpec := { name := "expressRows", fn := fun _ => fun
  | [d1, d2] => { results := [.lit (.bool true)], args := [d1, d2] }
  | _ => none }
def expressRowsRow : OpenClaim := { program := "ytjdcicopjipmnaadoor", sum := "0141dc8d5f6619c79c60e36e5a0cb15a4f4ba13c9e884fae0745b19660e63d56", func := "krait/kraitlaw04.ExpressRows", spec := "expressRows", unfollowed := true, recurses := true, named := ["strings.asciiSpace", "unicode.White_Space"], apart := false, laid := [("unicode.White_Space", laid_unicode_White_Space), ("strings.asciiSpace", laid_strings_asciiSpace)] }
def ExpressRowsSaid : Prop := expressRowsRow.holds Tryd.pinned (OpenSpec.ofChange expressRowsSpec)

/-- ITS FALSE NEIGHBOUR: 'it returns false'. Refute it at one input. -/
def expressRowsWrong : ChangeSpec := { name := "expressRows", fn := fun _ => fun
  | [d1, d2] => { results := [.lit (.bool false)], args := [d1, d2] }
  | _ => none }
def ExpressRowsWrongFalsely : Prop := expressRowsRow.holds Tryd.pinned (OpenSpec.ofChange expressRowsWrong)

/-- 'kraitlaw04.ExpressLambdas': WHATEVER THE INPUT: true; the input reads as it did. -/
def expressLambdasSpec : ChangeSpec := { name := "expressLambdas", fn := fun _ => fun
  | [d1, d2] => { results := [.lit (.bool true)], args := [d1, d2] }
  | _ => none }
def expressLambdasRow : OpenClaim := { program := "ytjdcicopjipmnaadoor", sum := "0141dc8d5f6619c79c60e36e5a0cb15a4f4ba13c9e884fae0745b19660e63d56", func := "krait/kraitlaw04.ExpressLambdas", spec := "expressLambdas", unfollowed := true, recurses := true, named := ["strings.asciiSpace", "unicode.White_Space"], apart := false, laid := [("unicode.White_Space", laid_unicode_White_Space), ("strings.asciiSpace", laid_strings_asciiSpace)] }
def ExpressLambdasSaid : Prop := expressLambdasRow.holds Tryd.pinned (OpenSpec.ofChange expressLambdasSpec)

/-- ITS FALSE NEIGHBOUR: 'it returns false'. Refute it at one input. -/
def expressLambdasWrong : ChangeSpec := { name := "expressLambdas", fn := fun _ => fun
  | [d1, d2] => { results := [.lit (.bool false)], args := [d1, d2] }
  | _ => none }
def ExpressLambdasWrongFalsely : Prop := expressLambdasRow.holds Tryd.pinned (OpenSpec.ofChange expressLambdasWrong)

/-- 'kraitlaw04.ExpressWords': WHATEVER THE INPUT: true; the input reads as it did. -/
def expressWordsSpec : ChangeSpec := { name := "expressWords", fn := fun _ => fun
  | [d1, d2] => { results := [.lit (.bool true)], args := [d1, d2] }
  | _ => none }
def expressWordsRow : OpenClaim := { program := "ytjdcicopjipmnaadoor", sum := "0141dc8d5f6619c79c60e36e5a0cb15a4f4ba13c9e884fae0745b19660e63d56", func := "krait/kraitlaw04.ExpressWords", spec := "expressWords", unfollowed := true, recurses := true, named := ["strings.asciiSpace", "unicode.White_Space"], apart := false, laid := [("unicode.White_Space", laid_unicode_White_Space), ("strings.asciiSpace", laid_strings_asciiSpace)] }
def ExpressWordsSaid : Prop := expressWordsRow.holds Tryd.pinned (OpenSpec.ofChange expressWordsSpec)

/-- ITS FALSE NEIGHBOUR: 'it returns false'. Refute it at one input. -/
def expressWordsWrong : ChangeSpec := { name := "expressWords", fn := fun _ => fun
  | [d1, d2] => { results := [.lit (.bool false)], args := [d1, d2] }
  | _ => none }
def ExpressWordsWrongFalsely : Prop := expressWordsRow.holds Tryd.pinned (OpenSpec.ofChange expressWordsWrong)

/- THE SECOND FORM. 'bulk': how many values and letters a reading holds, each counted each time it is reached (what is shared counts as often as it is met; a slice's spare places count too). A statement '..UptoSaid' is the law's where the arguments, and the package variables that the reading takes, are together of bulk at most 1048576: NARROWER than '..Said'. Prove '..Said' where nothing that the law and all that it calls make is longer than what came in: it says more and counts as full. Else prove '..UptoSaid'. A law counts once. -/
mutual
def uptoBulk {H : Type} : DataW H → Nat
  | .lit (.string bytes) => bytes.length + 1
  | .lit _ => 1
  | .nil => 1
  | .ptr d => uptoBulk d + 1
  | .slice elems spare => uptoBulkAll elems + uptoBulkAll spare + 1
  | .agg parts => uptoBulkAll parts + 1
  | .iface _ d => uptoBulk d + 1
  | .map entries => uptoBulkEntries entries + 1
  | .held _ => 1
def uptoBulkAll {H : Type} : List (DataW H) → Nat
  | [] => 0
  | d :: r => uptoBulk d + uptoBulkAll r
def uptoBulkEntries {H : Type} : List (Lit × DataW H) → Nat
  | [] => 0
  | x :: r => uptoBulkEntry x + uptoBulkEntries r
def uptoBulkEntry {H : Type} : Lit × DataW H → Nat
  | (.string bytes, d) => bytes.length + uptoBulk d + 1
  | (_, d) => uptoBulk d + 1
 end
def uptoSmall : (H : Type) → List (DataW H) → Bool := fun _ ds => decide (uptoBulkAll ds ≤ 1048576)
def OpenSpec.upto (s : _root_.Go.ChangeSpec) : _root_.Go.OpenSpec := { _root_.Go.OpenSpec.ofChange s with cond := some uptoSmall }

/-- 'kraitlaw04.ExpressBack', WHERE WHAT IT READS IS OF BULK AT MOST 1048576: true; the input reads as it did. -/
def expressBackUptoRow : OpenClaim := { program := "ytjdcicopjipmnaadoor", sum := "0141dc8d5f6619c79c60e36e5a0cb15a4f4ba13c9e884fae0745b19660e63d56", func := "krait/kraitlaw04.ExpressBack", spec := "expressBack", unfollowed := true, recurses := true, named := ["strings.asciiSpace", "unicode.White_Space"], apart := false, laid := [("unicode.White_Space", laid_unicode_White_Space), ("strings.asciiSpace", laid_strings_asciiSpace)], narrowed := true }
def ExpressBackUptoSaid : Prop := expressBackUptoRow.holds Tryd.pinned (OpenSpec.upto expressBackSpec)

/-- 'kraitlaw04.ExpressStops', WHERE WHAT IT READS IS OF BULK AT MOST 1048576: true; the input reads as it did. -/
def expressStopsUptoRow : OpenClaim := { program := "ytjdcicopjipmnaadoor", sum := "0141dc8d5f6619c79c60e36e5a0cb15a4f4ba13c9e884fae0745b19660e63d56", func := "krait/kraitlaw04.ExpressStops", spec := "expressStops", unfollowed := true, recurses := true, named := ["strings.asciiSpace", "unicode.White_Space"], apart := false, laid := [("unicode.White_Space", laid_unicode_White_Space), ("strings.asciiSpace", laid_strings_asciiSpace)], narrowed := true }
def ExpressStopsUptoSaid : Prop := expressStopsUptoRow.holds Tryd.pinned (OpenSpec.upto expressStopsSpec)

/-- 'kraitlaw04.ExpressCuts', WHERE WHAT IT READS IS OF BULK AT MOST 1048576: true; the input reads as it did. -/
def expressCutsUptoRow : OpenClaim := { program := "ytjdcicopjipmnaadoor", sum := "0141dc8d5f6619c79c60e36e5a0cb15a4f4ba13c9e884fae0745b19660e63d56", func := "krait/kraitlaw04.ExpressCuts", spec := "expressCuts", unfollowed := true, recurses := true, named := ["strings.asciiSpace", "unicode.White_Space"], apart := false, laid := [("unicode.White_Space", laid_unicode_White_Space), ("strings.asciiSpace", laid_strings_asciiSpace)], narrowed := true }
def ExpressCutsUptoSaid : Prop := expressCutsUptoRow.holds Tryd.pinned (OpenSpec.upto expressCutsSpec)

/-- 'kraitlaw04.ExpressBinds', WHERE WHAT IT READS IS OF BULK AT MOST 1048576: true; the input reads as it did. -/
def expressBindsUptoRow : OpenClaim := { program := "ytjdcicopjipmnaadoor", sum := "0141dc8d5f6619c79c60e36e5a0cb15a4f4ba13c9e884fae0745b19660e63d56", func := "krait/kraitlaw04.ExpressBinds", spec := "expressBinds", unfollowed := true, recurses := true, named := ["strings.asciiSpace", "unicode.White_Space"], apart := false, laid := [("unicode.White_Space", laid_unicode_White_Space), ("strings.asciiSpace", laid_strings_asciiSpace)], narrowed := true }
def ExpressBindsUptoSaid : Prop := expressBindsUptoRow.holds Tryd.pinned (OpenSpec.upto expressBindsSpec)

/-- 'kraitlaw04.ExpressOnes', WHERE WHAT IT READS IS OF BULK AT MOST 1048576: true; the input reads as it did. -/
def expressOnesUptoRow : OpenClaim := { program := "ytjdcicopjipmnaadoor", sum := "0141dc8d5f6619c79c60e36e5a0cb15a4f4ba13c9e884fae0745b19660e63d56", func := "krait/kraitlaw04.ExpressOnes", spec := "expressOnes", unfollowed := true, recurses := true, named := ["strings.asciiSpace", "unicode.White_Space"], apart := false, laid := [("unicode.White_Space", laid_unicode_White_Space), ("strings.asciiSpace", laid_strings_asciiSpace)], narrowed := true }
def ExpressOnesUptoSaid : Prop := expressOnesUptoRow.holds Tryd.pinned (OpenSpec.upto expressOnesSpec)

/-- 'kraitlaw04.ExpressPlaces', WHERE WHAT IT READS IS OF BULK AT MOST 1048576: true; the input reads as it did. -/
def expressPlacesUptoRow : OpenClaim := { program := "ytjdcicopjipmnaadoor", sum := "0141dc8d5f6619c79c60e36e5a0cb15a4f4ba13c9e884fae0745b19660e63d56", func := "krait/kraitlaw04.ExpressPlaces", spec := "expressPlaces", unfollowed := true, recurses := true, named := ["strings.asciiSpace", "unicode.White_Space"], apart := false, laid := [("unicode.White_Space", laid_unicode_White_Space), ("strings.asciiSpace", laid_strings_asciiSpace)], narrowed := true }
def ExpressPlacesUptoSaid : Prop := expressPlacesUptoRow.holds Tryd.pinned (OpenSpec.upto expressPlacesSpec)

/-- 'kraitlaw04.ExpressRight', WHERE WHAT IT READS IS OF BULK AT MOST 1048576: true; the input reads as it did. -/
def expressRightUptoRow : OpenClaim := { program := "ytjdcicopjipmnaadoor", sum := "0141dc8d5f6619c79c60e36e5a0cb15a4f4ba13c9e884fae0745b19660e63d56", func := "krait/kraitlaw04.ExpressRight", spec := "expressRight", unfollowed := true, recurses := true, named := ["strings.asciiSpace", "unicode.White_Space"], apart := false, laid := [("unicode.White_Space", laid_unicode_White_Space), ("strings.asciiSpace", laid_strings_asciiSpace)], narrowed := true }
def ExpressRightUptoSaid : Prop := expressRightUptoRow.holds Tryd.pinned (OpenSpec.upto expressRightSpec)

/-- 'kraitlaw04.ExpressDeep', WHERE WHAT IT READS IS OF BULK AT MOST 1048576: true; the input reads as it did. -/
def expressDeepUptoRow : OpenClaim := { program := "ytjdcicopjipmnaadoor", sum := "0141dc8d5f6619c79c60e36e5a0cb15a4f4ba13c9e884fae0745b19660e63d56", func := "krait/kraitlaw04.ExpressDeep", spec := "expressDeep", unfollowed := true, recurses := true, named := ["strings.asciiSpace", "unicode.White_Space"], apart := false, laid := [("unicode.White_Space", laid_unicode_White_Space), ("strings.asciiSpace", laid_strings_asciiSpace)], narrowed := true }
def ExpressDeepUptoSaid : Prop := expressDeepUptoRow.holds Tryd.pinned (OpenSpec.upto expressDeepSpec)

/-- 'kraitlaw04.ExpressRows', WHERE WHAT IT READS IS OF BULK AT MOST 1048576: true; the input reads as it did. -/
def expressRowsUptoRow : OpenClaim := { program := "ytjdcicopjipmnaadoor", sum := "0141dc8d5f6619c79c60e36e5a0cb15a4f4ba13c9e884fae0745b19660e63d56", func := "krait/kraitlaw04.ExpressRows", spec := "expressRows", unfollowed := true, recurses := true, named := ["strings.asciiSpace", "unicode.White_Space"], apart := false, laid := [("unicode.White_Space", laid_unicode_White_Space), ("strings.asciiSpace", laid_strings_asciiSpace)], narrowed := true }
def ExpressRowsUptoSaid : Prop := expressRowsUptoRow.holds Tryd.pinned (OpenSpec.upto expressRowsSpec)

/-- 'kraitlaw04.ExpressLambdas', WHERE WHAT IT READS IS OF BULK AT MOST 1048576: true; the input reads as it did. -/
def expressLambdasUptoRow : OpenClaim := { program := "ytjdcicopjipmnaadoor", sum := "0141dc8d5f6619c79c60e36e5a0cb15a4f4ba13c9e884fae0745b19660e63d56", func := "krait/kraitlaw04.ExpressLambdas", spec := "expressLambdas", unfollowed := true, recurses := true, named := ["strings.asciiSpace", "unicode.White_Space"], apart := false, laid := [("unicode.White_Space", laid_unicode_White_Space), ("strings.asciiSpace", laid_strings_asciiSpace)], narrowed := true }
def ExpressLambdasUptoSaid : Prop := expressLambdasUptoRow.holds Tryd.pinned (OpenSpec.upto expressLambdasSpec)

/-- 'kraitlaw04.ExpressWords', WHERE WHAT IT READS IS OF BULK AT MOST 1048576: true; the input reads as it did. -/
def expressWordsUptoRow : OpenClaim := { program := "ytjdcicopjipmnaadoor", sum := "0141dc8d5f6619c79c60e36e5a0cb15a4f4ba13c9e884fae0745b19660e63d56", func := "krait/kraitlaw04.ExpressWords", spec := "expressWords", unfollowed := true, recurses := true, named := ["strings.asciiSpace", "unicode.White_Space"], apart := false, laid := [("unicode.White_Space", laid_unicode_White_Space), ("strings.asciiSpace", laid_strings_asciiSpace)], narrowed := true }
def ExpressWordsUptoSaid : Prop := expressWordsUptoRow.holds Tryd.pinned (OpenSpec.upto expressWordsSpec)

end Rows
end Go.Proofs.YtjdcicopjipmnaaDoor
