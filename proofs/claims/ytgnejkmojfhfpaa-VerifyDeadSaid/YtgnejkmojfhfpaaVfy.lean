/- What Heights and Program of a program are to be: plain Lean. -/
import Derived.Test.YtgnejkmojfhfpaaMem
namespace Go.Proofs.Ytgnejkmojfhfpaa
set_option linter.unusedVariables false
set_option linter.unusedSimpArgs false

structure ValD where
  k : Int
  n : Int
  s : ByteArray
structure CodeD where
  name : ByteArray
  kind : Int
  params : Int
  defaults : Int
  gen : Bool
  locals : List ByteArray
  cells : List ByteArray
  free : List ByteArray
  names : List ByteArray
  consts : List ValD
  ins : List (Int × Int)
abbrev ProgD := List CodeD

/-- may a value be a const? -/
def flatV (v : ValD) : Bool :=
  if v.k = 0 then decide (v.n = 0 ∧ v.s = ⟨#[]⟩)
  else if v.k = 1 then decide (v.s = ⟨#[]⟩ ∧ (v.n = 0 ∨ v.n = 1))
  else if v.k = 2 then decide (v.s = ⟨#[]⟩)
  else decide (v.k = 3 ∧ v.n = 0)
/-- are a code's tables right? -/
def tablesOk (c : CodeD) : Bool :=
  decide (1 ≤ c.kind ∧ c.kind ≤ 3) && (decide (c.kind = 2) || (decide (c.params = 0) && !c.gen)) && (decide (c.kind ≠ 1) || decide (c.free.length + c.cells.length = 0)) &&
    decide (0 ≤ c.params ∧ c.params ≤ c.locals.length ∧ 0 ≤ c.defaults ∧ c.defaults ≤ c.params) && c.consts.all flatV

/-- what an argument may be -/
inductive Kd where
  | consts | free | locals | cells | names | space | count | func | body | gen
  deriving DecidableEq
/-- how many an instruction takes -/
inductive Tk where
  | just (n : Int) | each (b m : Int) | given | around
  deriving DecidableEq
/-- a code of the program, of a kind -/
def codeAt (p : ProgD) (a kind : Int) : Option CodeD :=
  if a < 0 then none else match p[a.toNat]? with
    | none => none
    | some c => if c.kind = kind ∧ ¬ (kind = 2 ∧ c.defaults < 0) then some c else none
def many : Int := 1099511627776
def Kd.may (p : ProgD) (c : CodeD) : Kd → Int → Bool
  | .consts, a => decide (0 ≤ a ∧ a < c.consts.length)
  | .free, _ => true
  | .locals, a => decide (0 ≤ a ∧ a < c.locals.length)
  | .cells, a => decide (0 ≤ a ∧ a < c.cells.length + c.free.length)
  | .names, a => decide (0 ≤ a ∧ a < c.names.length)
  | .space, a => decide (0 ≤ a ∧ a < c.names.length) && decide (c.kind = 3)
  | .count, a => decide (0 ≤ a)
  | .func, a => (codeAt p a 2).isSome
  | .body, a => (codeAt p a 3).isSome
  | .gen, _ => c.gen
def Tk.takes (p : ProgD) : Tk → Int → Int
  | .just n, _ => n
  | .each b m, a => b * min a many + m
  | .given, a => match codeAt p a 2 with
    | some c => min c.defaults many + c.free.length
    | none => 0
  | .around, a => match codeAt p a 3 with
    | some c => c.free.length
    | none => 0
/-- the table of instructions, from 1 on -/
def effs : List (Kd × Tk × Int) := [
  (.consts, .just 0, 1), (.free, .just 1, 0), (.free, .just 1, 2), (.free, .just 2, 2),
  (.locals, .just 0, 1), (.locals, .just 1, 0), (.locals, .just 0, 0),
  (.cells, .just 0, 1), (.cells, .just 1, 0), (.cells, .just 0, 0), (.cells, .just 0, 1),
  (.names, .just 0, 1), (.names, .just 1, 0), (.names, .just 0, 0),
  (.space, .just 0, 1), (.space, .just 1, 0), (.space, .just 0, 0),
  (.names, .just 2, 1), (.names, .just 2, 1), (.free, .just 1, 1), (.free, .just 1, 1),
  (.count, .each 1 0, 1), (.count, .each 1 0, 1), (.count, .each 2 0, 1),
  (.names, .just 1, 1), (.names, .just 2, 0), (.names, .just 1, 0),
  (.free, .just 2, 1), (.free, .just 3, 0), (.free, .just 2, 0), (.free, .just 3, 1),
  (.count, .each 1 1, 1), (.func, .given, 1), (.body, .around, 1), (.names, .just 2, 1),
  (.count, .just 0, 0), (.count, .just 1, 0), (.count, .just 1, 0), (.count, .just 1, 0), (.count, .just 1, 0),
  (.free, .just 1, 1), (.count, .just 1, 2), (.count, .just 0, 1), (.count, .just 0, 0), (.count, .just 0, 1), (.free, .just 3, 3),
  (.count, .just 0, 0), (.free, .just 0, 0), (.free, .just 2, 2), (.free, .just 1, 0), (.free, .just 1, 0),
  (.free, .just 1, 0), (.gen, .just 1, 0), (.free, .just 0, 0), (.names, .just 0, 0), (.names, .just 1, 0)]
def effOf (op : Int) : Option (Kd × Tk × Int) := if 1 ≤ op then effs[(op - 1).toNat]? else none
def jumpsB (op : Int) : Bool := decide ((36 ≤ op ∧ op ≤ 40) ∨ op = 42 ∨ op = 47)
/-- what is wrong with an instruction by itself -/
def wrongE (p : ProgD) (c : CodeD) (x : Int × Int) : Int :=
  match effOf x.1 with
  | none => 50
  | some (kd, _, _) => if kd.may p c x.2 = false then 53 else if jumpsB x.1 = true ∧ (c.ins.length : Int) ≤ x.2 then 51 else 0

/-- a height, and blocks, the inmost first -/
structure St where
  h : Int
  bl : List (Int × Int)
  deriving DecidableEq
/-- the ways on; none: the stack is wrong -/
def lookE (takes leaves op a : Int) (i : Nat) (s : St) : Option (List (Int × St)) :=
  if s.h - takes < 0 ∨ ((op = 43 ∨ op = 44 ∨ op = 45) ∧ s.h ≤ a) ∨ (op = 48 ∧ s.bl = []) ∨ (∃ b ∈ s.bl.head?, s.h - takes < b.2) then none
  else if op = 36 then some [(a, s)]
  else if op = 50 ∨ op = 51 ∨ op = 52 ∨ op = 55 ∨ op = 56 then some []
  else if op = 37 ∨ op = 38 then some [((i : Int) + 1, ⟨s.h - takes + leaves, s.bl⟩), (a, ⟨s.h - takes + leaves, s.bl⟩)]
  else if op = 39 ∨ op = 40 then some [((i : Int) + 1, ⟨s.h - takes + leaves, s.bl⟩), (a, s)]
  else if op = 42 then some [((i : Int) + 1, ⟨s.h - takes + leaves, s.bl⟩), (a, ⟨s.h - 1, s.bl⟩)]
  else if op = 47 then some [((i : Int) + 1, ⟨s.h - takes + leaves, (a, s.h) :: s.bl⟩), (a, ⟨s.h + 1, s.bl⟩)]
  else if op = 48 then some [((i : Int) + 1, ⟨s.h - takes + leaves, s.bl.tail⟩)]
  else some [((i : Int) + 1, ⟨s.h - takes + leaves, s.bl⟩)]
/-- an instruction's ways on -/
def waysE (p : ProgD) (x : Int × Int) (i : Nat) (s : St) : Option (List (Int × St)) :=
  match effOf x.1 with
  | none => none
  | some (_, tk, lv) => lookE (tk.takes p x.2) lv x.1 x.2 i s

/-- what is known so far: the states, and which instructions are still to be looked at -/
structure Fl where
  st : List (Option St)
  op : List Bool
/-- ways are gone: each opens what it comes to, or fits; else what is wrong -/
def pushE (n : Nat) (f : Fl) : List (Int × St) → Fl ⊕ Int
  | [] => .inl f
  | (to, s) :: r =>
    if (n : Int) ≤ to then .inr 51
    else match f.st[to.toNat]? with
      | some none => pushE n ⟨f.st.set to.toNat (some s), f.op.set to.toNat true⟩ r
      | some (some t) => if t = s then pushE n f r else .inr 52
      | none => .inr 51
/-- the first one that is open -/
def firstE (l : List Bool) : Option Nat := l.findIdx? id
/-- one step: an end, or what is known then -/
def stepE (p : ProgD) (ins : List (Int × Int)) (f : Fl) (i : Nat) : Fl ⊕ Int :=
  match ins[i]?, f.st[i]? with
  | some x, some (some s) =>
    match waysE p x i s with
    | none => .inr 52
    | some ways => pushE ins.length ⟨f.st, f.op.set i false⟩ ways
  | _, _ => .inr 52
/-- all steps: the states, or what is wrong, and where -/
def goE (p : ProgD) (ins : List (Int × Int)) : Nat → Fl → List (Option St) ⊕ (Int × Nat)
  | 0, f => .inl f.st
  | k + 1, f => match firstE f.op with
    | none => .inl f.st
    | some i => match stepE p ins f i with
      | .inr e => .inr (e, i)
      | .inl f' => goE p ins k f'
def heightOf : Option St → Int
  | none => -1
  | some s => s.h
/-- the first instruction that is wrong by itself -/
def wrongs (p : ProgD) (c : CodeD) : List (Int × Int) → Nat → Option (Int × Nat)
  | [], _ => none
  | x :: r, i => if wrongE p c x = 0 then wrongs p c r (i + 1) else some (wrongE p c x, i)
def startF (n : Nat) : Fl := ⟨(List.replicate n none).set 0 (some ⟨0, []⟩), (List.replicate n false).set 0 true⟩
def flowE (p : ProgD) (ins : List (Int × Int)) : List Int × Int × Int :=
  if ins.length = 0 then ([], 51, 0)
  else match goE p ins (ins.length + 1) (startF ins.length) with
    | .inl st => (st.map heightOf, 0, 0)
    | .inr (e, i) => ([], e, i)
def heightsC (p : ProgD) (c : CodeD) : List Int × Int × Int :=
  if tablesOk c = false then ([], 53, 0)
  else match wrongs p c c.ins 0 with
    | some (e, i) => ([], e, i)
    | none => flowE p c.ins
def heightsE (p : ProgD) (k : Int) : List Int × Int × Int :=
  if k < 0 then ([], 1, 0) else match p[k.toNat]? with
    | none => ([], 1, 0)
    | some c => heightsC p c
def progsE (p : ProgD) : List CodeD → Nat → Int × Int × Int
  | [], _ => (0, 0, 0)
  | c :: r, i => if (heightsC p c).2.1 = 0 then progsE p r (i + 1) else ((heightsC p c).2.1, i, (heightsC p c).2.2)
def programE (p : ProgD) : Int × Int × Int :=
  match p with
  | [] => (53, 0, 0)
  | c :: _ => if c.kind = 1 then progsE p p 0 else (53, 0, 0)
end Go.Proofs.Ytgnejkmojfhfpaa
