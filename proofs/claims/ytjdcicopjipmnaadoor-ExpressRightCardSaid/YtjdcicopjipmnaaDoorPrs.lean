/- What Parse is to be: plain Lean. -/
import Derived.Test.YtjdcicopjipmnaaDoorMem
namespace Go.Proofs.YtjdcicopjipmnaaDoor
set_option linter.unusedVariables false
set_option linter.unusedSimpArgs false

structure TokD where
  k : Int
  at_ : Int
  s : ByteArray
  n : Int
structure NodeD where
  op : Int
  at_ : Int
  s : ByteArray
  n : Int
  kids : List Int
/-- how the parser stands -/
structure PS where
  at_ : Nat
  bad : Int
  e : Int
  ns : List NodeD
  dp : List Int
abbrev kLambda : ByteArray := ⟨#[108, 97, 109, 98, 100, 97]⟩
abbrev kIf : ByteArray := ⟨#[105, 102]⟩
abbrev kElse : ByteArray := ⟨#[101, 108, 115, 101]⟩
abbrev kOr : ByteArray := ⟨#[111, 114]⟩
abbrev kAnd : ByteArray := ⟨#[97, 110, 100]⟩
abbrev kNot : ByteArray := ⟨#[110, 111, 116]⟩
abbrev kIn : ByteArray := ⟨#[105, 110]⟩
abbrev kIs : ByteArray := ⟨#[105, 115]⟩
abbrev kNone : ByteArray := ⟨#[78, 111, 110, 101]⟩
abbrev kTrue : ByteArray := ⟨#[84, 114, 117, 101]⟩
abbrev kFalse : ByteArray := ⟨#[70, 97, 108, 115, 101]⟩
abbrev gColon : ByteArray := ⟨#[58]⟩
abbrev gEq : ByteArray := ⟨#[61]⟩
abbrev gComma : ByteArray := ⟨#[44]⟩
abbrev gPlus : ByteArray := ⟨#[43]⟩
abbrev gMinus : ByteArray := ⟨#[45]⟩
abbrev gStar : ByteArray := ⟨#[42]⟩
abbrev gDiv : ByteArray := ⟨#[47, 47]⟩
abbrev gMod : ByteArray := ⟨#[37]⟩
abbrev gPow : ByteArray := ⟨#[42, 42]⟩
abbrev gDot : ByteArray := ⟨#[46]⟩
abbrev gLp : ByteArray := ⟨#[40]⟩
abbrev gRp : ByteArray := ⟨#[41]⟩
abbrev gLb : ByteArray := ⟨#[91]⟩
abbrev gRb : ByteArray := ⟨#[93]⟩
abbrev gLc : ByteArray := ⟨#[123]⟩
abbrev gRc : ByteArray := ⟨#[125]⟩
abbrev gEqq : ByteArray := ⟨#[61, 61]⟩
abbrev gNe : ByteArray := ⟨#[33, 61]⟩
abbrev gLt : ByteArray := ⟨#[60]⟩
abbrev gLe : ByteArray := ⟨#[60, 61]⟩
abbrev gGt : ByteArray := ⟨#[62]⟩
abbrev gGe : ByteArray := ⟨#[62, 61]⟩
abbrev tNotIn : ByteArray := ⟨#[110, 111, 116, 32, 105, 110]⟩
abbrev tIsNot : ByteArray := ⟨#[105, 115, 32, 110, 111, 116]⟩
abbrev tNil : ByteArray := ⟨#[]⟩
def keywords : List ByteArray := [⟨#[78, 111, 110, 101]⟩, ⟨#[84, 114, 117, 101]⟩, ⟨#[70, 97, 108, 115, 101]⟩, ⟨#[97, 110, 100]⟩, ⟨#[111, 114]⟩, ⟨#[110, 111, 116]⟩, ⟨#[105, 102]⟩, ⟨#[101, 108, 115, 101]⟩, ⟨#[101, 108, 105, 102]⟩, ⟨#[119, 104, 105, 108, 101]⟩, ⟨#[102, 111, 114]⟩, ⟨#[105, 110]⟩, ⟨#[105, 115]⟩, ⟨#[98, 114, 101, 97, 107]⟩, ⟨#[99, 111, 110, 116, 105, 110, 117, 101]⟩, ⟨#[112, 97, 115, 115]⟩, ⟨#[100, 101, 102]⟩, ⟨#[99, 108, 97, 115, 115]⟩, ⟨#[114, 101, 116, 117, 114, 110]⟩, ⟨#[114, 97, 105, 115, 101]⟩, ⟨#[116, 114, 121]⟩, ⟨#[101, 120, 99, 101, 112, 116]⟩, ⟨#[97, 115]⟩, ⟨#[102, 105, 110, 97, 108, 108, 121]⟩, ⟨#[103, 108, 111, 98, 97, 108]⟩, ⟨#[110, 111, 110, 108, 111, 99, 97, 108]⟩, ⟨#[100, 101, 108]⟩, ⟨#[97, 115, 115, 101, 114, 116]⟩, ⟨#[121, 105, 101, 108, 100]⟩, ⟨#[108, 97, 109, 98, 100, 97]⟩]
def kwB (t : ByteArray) : Bool := keywords.any fun k => decide (k = t)
def letterB (c : UInt8) : Bool := (decide (97 ≤ c ||| 32) && decide (c ||| 32 ≤ 122) && decide (65 ≤ c)) || decide (c = 95)
def digitB (c : UInt8) : Bool := decide (48 ≤ c) && decide (c ≤ 57)
/-- is a text a name? -/
def nameB (t : ByteArray) : Bool := match t.data.toList with
  | [] => false
  | c :: r => letterB c && (c :: r).all (fun x => letterB x || digitB x) && !kwB t
def zeroT : TokD := ⟨0, 0, ⟨#[]⟩, 0⟩
section
variable (L : List TokD)
def tokP (s : PS) (by_ : Nat) : TokD := if s.e ≠ 0 then zeroT else (L[s.at_ + by_]?).getD zeroT
def isP (s : PS) (t : ByteArray) (by_ : Nat) : Bool := decide ((tokP L s by_).k = if kwB t then 1 else 4) && decide ((tokP L s by_).s = t)
def stepP (s : PS) (n : Nat) : PS := { s with at_ := s.at_ + n }
def failP (s : PS) (e at_ : Int) : PS := if s.e = 0 then { s with e := e, bad := at_ } else s
def anyP : List ByteArray → PS → PS × ByteArray × Bool
  | [], s => (s, ⟨#[]⟩, false)
  | t :: r, s => if isP L s t 0 then (stepP s 1, t, true) else anyP r s
def takeP (t : ByteArray) (s : PS) : PS × Bool := ((anyP L [t] s).1, (anyP L [t] s).2.2)
def needP (t : ByteArray) (s : PS) : PS := if (takeP L t s).2 then (takeP L t s).1 else failP (takeP L t s).1 30 (takeP L t s).1.at_
def nameP (s : PS) : PS × ByteArray := if (tokP L s 0).k = 1 ∧ nameB (tokP L s 0).s = true then (stepP s 1, (tokP L s 0).s) else (failP s 30 s.at_, ⟨#[]⟩)
end
def deepOf (s : PS) (k : Int) : Int := if k < 0 then 0 else (s.dp[k.toNat]?).getD 0
def placeOf (s : PS) (k : Int) : Int := if k < 0 then 0 else ((s.ns[k.toNat]?).map (·.at_)).getD 0
def deepest (s : PS) (kids : List Int) : Int := kids.foldl (fun m k => max m (deepOf s k)) 0
/-- a node more -/
def addP (s : PS) (op at_ : Int) (t : ByteArray) (n : Int) (kids : List Int) : PS × Int :=
  if s.e ≠ 0 then (s, -1)
  else if 40 ≤ deepest s kids then (failP s 32 s.at_, -1)
  else ({ s with ns := s.ns ++ [⟨op, at_, t, n, kids.filter fun k => decide (0 ≤ k ∧ k < s.ns.length)⟩], dp := s.dp ++ [deepest s kids + 1] }, s.ns.length)
abbrev Ex := PS → Option (PS × Int)
section
variable (ex : Ex) (L : List TokD)
/-- exprs up to a sign, behind some kids -/
def rowE (fin : ByteArray) : Nat → PS → List Int → Option (PS × List Int)
  | 0, _, _ => none
  | m + 1, s, kids =>
    if s.e ≠ 0 then some (s, kids)
    else if (takeP L fin s).2 then some ((takeP L fin s).1, kids)
    else match ex (takeP L fin s).1 with
      | none => none
      | some (s1, x) =>
        if (takeP L gComma s1).2 then rowE fin m (takeP L gComma s1).1 (kids ++ [x])
        else some (needP L fin (takeP L gComma s1).1, kids ++ [x])
/-- a dict's pairs -/
def pairsE : Nat → PS → List Int → Option (PS × List Int)
  | 0, _, _ => none
  | m + 1, s, out =>
    if s.e ≠ 0 then some (s, out)
    else if (takeP L gRc s).2 then some ((takeP L gRc s).1, out)
    else match ex (takeP L gRc s).1 with
      | none => none
      | some (s1, k) =>
        match ex (needP L gColon s1) with
        | none => none
        | some (s2, v) =>
          if (takeP L gComma s2).2 then pairsE m (takeP L gComma s2).1 (out ++ [k, v])
          else some (needP L gRc (takeP L gComma s2).1, out ++ [k, v])
/-- what stands between round brackets -/
def roundE (m : Nat) (at_ : Int) (s : PS) : Option (PS × Int) :=
  if (takeP L gRp s).2 then some (addP (takeP L gRp s).1 8 at_ ⟨#[]⟩ 0 [])
  else match ex (takeP L gRp s).1 with
    | none => none
    | some (s1, x) =>
      if (takeP L gRp s1).2 then some ((takeP L gRp s1).1, x)
      else match rowE ex L gRp m (needP L gComma (takeP L gRp s1).1) [x] with
        | none => none
        | some (s2, kids) => some (addP s2 8 at_ ⟨#[]⟩ 0 kids)
/-- what a word says by itself -/
def wordOp (t : ByteArray) : Option Int := if t = kNone then some 1 else if t = kTrue then some 2 else if t = kFalse then some 3 else none
def noAtom (s : PS) : Option (PS × Int) := some (failP s 30 s.at_, -1)
def atomE (m : Nat) (s : PS) : Option (PS × Int) :=
  let t := tokP L s 0
  let s1 := stepP s 1
  if t.k = 2 then some (addP s1 4 t.at_ ⟨#[]⟩ t.n [])
  else if t.k = 3 then some (addP s1 5 t.at_ t.s 0 [])
  else if t.k = 1 then
    match wordOp t.s with
    | some op => some (addP s1 op t.at_ ⟨#[]⟩ 0 [])
    | none => if nameB t.s then some (addP s1 6 t.at_ t.s 0 []) else noAtom s
  else if t.k = 4 then
    if t.s = gLp then roundE ex L m t.at_ s1
    else if t.s = gLb then match rowE ex L gRb m s1 [] with
      | none => none
      | some (s2, kids) => some (addP s2 7 t.at_ ⟨#[]⟩ 0 kids)
    else if t.s = gLc then match pairsE ex L m s1 [] with
      | none => none
      | some (s2, kids) => some (addP s2 9 t.at_ ⟨#[]⟩ 0 kids)
    else noAtom s
  else noAtom s
def boundE (fin : ByteArray) (s : PS) : Option (PS × Int) := if isP L s fin 0 then some (addP s 1 (tokP L s 0).at_ ⟨#[]⟩ 0 []) else ex s
/-- an index, or a slice -/
def indexE (x at_ : Int) (s : PS) : Option (PS × Int) :=
  match boundE ex L gColon s with
  | none => none
  | some (s1, y) =>
    if isP L s gColon 0 = false ∧ (takeP L gRb s1).2 = true then some (addP (takeP L gRb s1).1 19 at_ ⟨#[]⟩ 0 [x, y])
    else
      let s2 := if isP L s gColon 0 then s1 else (takeP L gRb s1).1
      match boundE ex L gRb (needP L gColon s2) with
      | none => none
      | some (s3, z) => some (addP (needP L gRb s3) 20 at_ ⟨#[]⟩ 0 [x, y, z])
/-- what stands behind something -/
def postE (m0 : Nat) (at_ : Int) : Nat → PS → Int → Option (PS × Int)
  | 0, _, _ => none
  | m + 1, s, x =>
    let r := anyP L [gDot, gLp, gLb] s
    if r.2.2 = false then some (s, x)
    else if r.2.1 = gDot then
      let q := nameP L r.1
      postE m0 at_ m (addP q.1 18 at_ q.2 0 [x]).1 (addP q.1 18 at_ q.2 0 [x]).2
    else if r.2.1 = gLp then match rowE ex L gRp m0 r.1 [x] with
      | none => none
      | some (s2, kids) => postE m0 at_ m (addP s2 17 at_ ⟨#[]⟩ 0 kids).1 (addP s2 17 at_ ⟨#[]⟩ 0 kids).2
    else match indexE ex L x at_ r.1 with
      | none => none
      | some (s2, y) => postE m0 at_ m s2 y
def postfixE (m : Nat) (s : PS) : Option (PS × Int) :=
  match atomE ex L m s with
  | none => none
  | some (s1, x) => postE ex L m (placeOf s1 x) m s1 x
def factorE (m0 : Nat) : Nat → PS → Option (PS × Int)
  | 0, _ => none
  | m + 1, s =>
    let at_ := (tokP L s 0).at_
    if (takeP L gMinus s).2 then match factorE m0 m (takeP L gMinus s).1 with
      | none => none
      | some (s1, x) => some (addP s1 10 at_ ⟨#[]⟩ 0 [x])
    else match postfixE ex L m0 (takeP L gMinus s).1 with
      | none => none
      | some (s1, x) =>
        if (takeP L gPow s1).2 then match factorE m0 m (takeP L gPow s1).1 with
          | none => none
          | some (s2, y) => some (addP s2 12 (placeOf s2 x) gPow 0 [x, y])
        else some ((takeP L gPow s1).1, x)
/-- parts with operators between, from the left -/
def leftE (part : Ex) (op : Int) (signs : List ByteArray) : Nat → PS → Int → Option (PS × Int)
  | 0, _, _ => none
  | m + 1, s, x =>
    let r := anyP L signs s
    if r.2.2 = false then some (s, x)
    else match part r.1 with
      | none => none
      | some (s1, y) =>
        let q := addP s1 op (placeOf s1 x) (if op = 12 then r.2.1 else ⟨#[]⟩) 0 [x, y]
        leftE part op signs m q.1 q.2
def partsE (part : Ex) (op : Int) (signs : List ByteArray) (m : Nat) (s : PS) : Option (PS × Int) :=
  match part s with
  | none => none
  | some (s1, x) => leftE L part op signs m s1 x
def termE (m : Nat) : Ex := partsE L (factorE ex L m m) 12 [gStar, gDiv, gMod] m
def sumE (m : Nat) : Ex := partsE L (termE ex L m) 12 [gPlus, gMinus] m
/-- the comparison operator that stands there, and how many tokens it has -/
def compares (s : PS) : ByteArray × Nat :=
  if isP L s gEqq 0 then (gEqq, 1) else if isP L s gNe 0 then (gNe, 1) else if isP L s gLt 0 then (gLt, 1) else if isP L s gLe 0 then (gLe, 1)
  else if isP L s gGt 0 then (gGt, 1) else if isP L s gGe 0 then (gGe, 1) else if isP L s kIn 0 then (kIn, 1)
  else if isP L s kNot 0 && isP L s kIn 1 then (tNotIn, 2) else if isP L s kIs 0 && isP L s kNot 1 then (tIsNot, 2) else if isP L s kIs 0 then (kIs, 1) else (⟨#[]⟩, 0)
def notE (m0 : Nat) : Nat → PS → Option (PS × Int)
  | 0, _ => none
  | m + 1, s =>
    let at_ := (tokP L s 0).at_
    if (takeP L kNot s).2 then match notE m0 m (takeP L kNot s).1 with
      | none => none
      | some (s1, x) => some (addP s1 11 at_ ⟨#[]⟩ 0 [x])
    else match sumE ex L m0 (takeP L kNot s).1 with
      | none => none
      | some (s1, x) =>
        if (compares L s1).2 = 0 then some (s1, x)
        else match sumE ex L m0 (stepP s1 (compares L s1).2) with
          | none => none
          | some (s2, y) =>
            let q := addP s2 13 (placeOf s2 x) (compares L s1).1 0 [x, y]
            if 0 < (compares L q.1).2 then some (failP q.1 30 q.1.at_, -1) else some q
def andE (m : Nat) : Ex := partsE L (notE ex L m m) 14 [kAnd] m
def orE (m : Nat) : Ex := partsE L (andE ex L m) 15 [kOr] m
/-- a lambda's parameters, with the sign behind them -/
def paramsE : Nat → PS → List Int → Bool → Option (PS × List Int)
  | 0, _, _, _ => none
  | m + 1, s, out, late =>
    if s.e ≠ 0 then some (s, out)
    else
      let c := if out = [] then takeP L gColon s else (s, false)
      if c.2 then some (c.1, out)
      else
        let s0 := c.1
        let at_ := (tokP L s0 0).at_
        let q := nameP L s0
        if (takeP L gEq q.1).2 then match ex (takeP L gEq q.1).1 with
          | none => none
          | some (s1, x) =>
            let a := addP s1 22 at_ q.2 0 [x]
            if (takeP L gComma a.1).2 then paramsE m (takeP L gComma a.1).1 (out ++ [a.2]) true
            else some (needP L gColon (takeP L gComma a.1).1, out ++ [a.2])
        else
          let s1 := if late then failP (takeP L gEq q.1).1 30 s0.at_ else (takeP L gEq q.1).1
          let a := addP s1 22 at_ q.2 0 []
          if (takeP L gComma a.1).2 then paramsE m (takeP L gComma a.1).1 (out ++ [a.2]) late
          else some (needP L gColon (takeP L gComma a.1).1, out ++ [a.2])
def exprB (m : Nat) (s : PS) : Option (PS × Int) :=
  let at_ := (tokP L s 0).at_
  if (takeP L kLambda s).2 then match paramsE ex L m (takeP L kLambda s).1 [] false with
    | none => none
    | some (s1, kids) => match ex s1 with
      | none => none
      | some (s2, x) => some (addP s2 21 at_ ⟨#[]⟩ 0 (kids ++ [x]))
  else match orE ex L m (takeP L kLambda s).1 with
    | none => none
    | some (s1, x) =>
      if (takeP L kIf s1).2 then match orE ex L m (takeP L kIf s1).1 with
        | none => none
        | some (s2, y) => match ex (needP L kElse s2) with
          | none => none
          | some (s3, z) => some (addP s3 16 (placeOf s3 x) ⟨#[]⟩ 0 [x, y, z])
      else some ((takeP L kIf s1).1, x)
end
def exprE (L : List TokD) : Nat → Ex
  | 0, _ => none
  | m + 1, s => exprB (exprE L m) L m s
def startS : PS := ⟨0, 0, 0, [], []⟩
/-- Parse: the node, how many tokens, what is wrong; and all nodes -/
def parseE (L : List TokD) (m : Nat) : Option ((Int × Int × Int) × List NodeD) :=
  match exprE L m startS with
  | none => none
  | some (s, x) => some (if s.e ≠ 0 then (-1, s.bad, s.e) else (x, (s.at_ : Int), 0), s.ns)
end Go.Proofs.YtjdcicopjipmnaaDoor
