/- verify.effects: its great statement, in any order: an invariant. -/
import Derived.Test.YtgnejkmojfhfpaaEfk
import Derived.Test.YtgnejkmojfhfpaaOrd
import Derived.MapKept
import Derived.ChangeMaps5
namespace Go.Proofs.Ytgnejkmojfhfpaa
open Go.RowKit
set_option linter.unusedVariables false
set_option linter.unusedSimpArgs false

/-- any order: an invariant that tells which operations are done -/
theorem wpAny_inv {P : Program} {md : Region.Mode} {ops : Array Oper} {Q : Exit → Act → World → Prop} (J : Array Bool → Act → World → Prop)
    (hlt : ∀ (i : Nat) (o : Oper), ops[i]? = some o → ∀ e ∈ o.after, e.on < i)
    (hsz : ∀ listed a w, J listed a w → listed.size = ops.size)
    (hstep : ∀ listed a w i, J listed a w → i ∈ Region.ready md ops listed → wpOp P ops Q i (fun a' w' => J (listed.setIfInBounds i true) a' w') a w)
    (hend : ∀ listed a w, J listed a w → (∀ i, i < ops.size → listed.getD i false = true) → Q .normal a w) :
    ∀ (k : Nat) (listed : Array Bool) (a : Act) (w : World), (List.range ops.size).countP (fun i => !listed.getD i true) ≤ k → J listed a w → wpAny P md ops Q k listed a w := by
  have hall : ∀ listed : Array Bool, listed.size = ops.size → Region.ready md ops listed = [] → ∀ i, i < ops.size → listed.getD i false = true := by
    intro listed hs hr i
    induction i using Nat.strongRecOn with
    | _ i ih =>
      intro hi
      cases hc : listed.getD i false with
      | true => rfl
      | false =>
        exfalso
        have hit : listed.getD i true = false := by
          have h1 : i < listed.size := by omega
          simp [h1] at hc ⊢
          exact hc
        have : i ∈ Region.ready md ops listed := by
          rw [mem_ready]
          refine ⟨hit, ops[i], Array.getElem?_eq_getElem hi, fun e he _ => ?_⟩
          have := hlt i _ (Array.getElem?_eq_getElem hi) e he
          exact ih e.on this (by omega)
        rw [hr] at this
        cases this
  intro k
  induction k with
  | zero =>
    intro listed a w hk hJ
    have hr : Region.ready md ops listed = [] := by
      rw [List.eq_nil_iff_forall_not_mem]
      intro i hi
      obtain ⟨h0, o, ho, _⟩ := mem_ready.1 hi
      have hlt := (Array.getElem?_eq_some_iff.1 ho).1
      have h1 : 0 < (List.range ops.size).countP (fun i => !listed.getD i true) := List.countP_pos_iff.2 ⟨i, List.mem_range.2 hlt, by rw [h0]; rfl⟩
      omega
    exact ⟨hr, hend _ _ _ hJ (hall _ (hsz _ _ _ hJ) hr)⟩
  | succ k ih =>
    intro listed a w hk hJ
    refine ⟨fun hr => hend _ _ _ hJ (hall _ (hsz _ _ _ hJ) hr), fun i hi => ?_⟩
    refine wpOp_mono (fun a' w' h' => ih _ _ _ ?_ h') (hstep _ _ _ _ hJ hi)
    obtain ⟨h0, o, ho, _⟩ := mem_ready.1 hi
    have hlt := (Array.getElem?_eq_some_iff.1 ho).1
    have hls : i < listed.size := by rw [hsz _ _ _ hJ]; exact hlt
    have := countP_lt (l := List.range ops.size) (a := fun j => !listed.getD j true) (b := fun j => !(listed.setIfInBounds i true).getD j true) (fun j _ hj => by
      by_cases e : i = j
      · subst e
        simp [hls] at hj
      · rw [getD_set_ne true e] at hj
        exact hj) (x := i) (List.mem_range.2 hlt) (by rw [h0]; rfl) (by simp [hls])
    omega
theorem wp_region_inv {P : Program} {ops : Array Oper} {Q : Exit → Act → World → Prop} {id : Nat} {a : Act} {w : World} (hm : P.follows .mixedOrders = true) (J : Array Bool → Act → World → Prop)
    (hlt : ∀ (i : Nat) (o : Oper), ops[i]? = some o → ∀ e ∈ o.after, e.on < i)
    (hsz : ∀ listed a w, J listed a w → listed.size = ops.size)
    (hstep : ∀ listed a w i, J listed a w → i ∈ Region.ready .any ops listed → wpOp P ops Q i (fun a' w' => J (listed.setIfInBounds i true) a' w') a w)
    (hend : ∀ listed a w, J listed a w → (∀ i, i < ops.size → listed.getD i false = true) → Q .normal a w)
    (h : J (Array.replicate ops.size false) a w.drew) : (Code.region id ops true).wp P Q a w :=
  wp_region_any hm (wpAny_inv J hlt hsz hstep hend _ _ _ _ (by
    have := List.countP_le_length (p := fun i => !(Array.replicate ops.size false).getD i true) (l := List.range ops.size)
    simpa using this) h)

/-- a value that is as it is said -/
def VOk (w : World) (v : Value) : VK → Prop
  | .may kd => KdIs w v kd
  | .fn f => v = .func (.func f) #[] #[]
  | .tk t => TkIs w v t
  | .eff kd t lv => ∃ vm vt, v = .agg #[vm, vt, .int .i64 lv] ∧ KdIs w vm kd ∧ TkIs w vt t
theorem VOk.keep {w w' : World} {v : Value} {k : VK} (h : VOk w v k) (hk : ∀ g t cs, Blk w g t cs → Blk w' g t cs) : VOk w' v k := by
  cases k with
  | may kd => exact KdIs.keep h hk
  | fn f => exact h
  | tk t => exact TkIs.keep h hk
  | eff kd t lv =>
    obtain ⟨vm, vt, e, h1, h2⟩ := h
    exact ⟨vm, vt, e, h1.keep hk, h2.keep hk⟩
/-- what stands in the slots ahead of it -/
def baseVK : Nat → Option VK
  | 1 => some (.fn 35)
  | 2 => some (.fn 37)
  | 4 => some (.may .free)
  | 5 => some (.may .count)
  | 6 => some (.may .consts)
  | 7 => some (.may .locals)
  | 8 => some (.may .cells)
  | 10 => some (.may .space)
  | 11 => some (.may .func)
  | 12 => some (.may .body)
  | 13 => some (.may .gen)
  | 14 => some (.tk .given)
  | 15 => some (.tk .around)
  | _ => none
def annF (s : Nat) : Option VK := match baseVK s with
  | some v => some v
  | none => annL[s]?.join
def outF (s : Nat) : Nat := outL.getD s 999
def insF (n : Int) : Nat := insL.getD n.toNat 999
def argI : Operand → Option Int
  | .const (.int .i64 n) => some n
  | _ => none
def makes : Nat → List (Option Int) → Option Tk
  | 35, [some n] => some (.just n)
  | 37, [some n, some m] => some (.each n m)
  | _, _ => none
/-- the operation waits for the one that writes s -/
def dep (ops : Array Oper) (o : Oper) (s : Nat) : Bool := o.after.any fun e => match ops[e.on]? with
  | some o' => decide (o'.dst = some s)
  | none => false
def got (ops : Array Oper) (o : Oper) (s : Nat) : Bool := (baseVK s).isSome || dep ops o s
def chkDst (i : Nat) : Option Nat → Bool
  | some d => decide (d = 0 ∨ 16 ≤ d) && decide (d < 249) && decide (outF d = i)
  | none => true
def chkCall (ops : Array Oper) (o : Oper) (d : Nat) (f : Nat) (args : List (Option Int)) : Bool := got ops o f && match annF f with
  | some (.fn g) => match makes g args with
    | some t => decide (annF d = some (.tk t))
    | none => false
  | _ => false
def chkBuild (ops : Array Oper) (o : Oper) (d m t : Nat) (lv : Int) : Bool := got ops o m && got ops o t && match annF m, annF t with
  | some (.may kd), some (.tk tk) => decide (annF d = some (.eff kd tk lv))
  | _, _ => false
def chkMove (ops : Array Oper) (o : Oper) (d s : Nat) : Bool :=
  if d = 248 then decide (s = 25) && dep ops o 25 else decide (d ≠ 0 ∧ d ≠ 25) && got ops o s && (annF s).isSome && decide (annF d = annF s)
def chkIns (ops : Array Oper) (i : Nat) (o : Oper) (n : Int) (s : Nat) : Bool := dep ops o 25 && dep ops o s && decide (insF n = i) && match effOf n with
  | some (kd, tk, lv) => decide (annF s = some (.eff kd tk lv))
  | none => false
/-- each operation is one of those that the invariant knows -/
def chkOp (ops : Array Oper) (i : Nat) (o : Oper) : Bool :=
  o.guard.isNone && o.after.all (fun e => decide (e.on < i) && Region.binds .any e) && (chkDst i o.dst && decide (i = 0 → o.dst = some 25)) &&
  match o.op, o.dst with
  | .makeMap t none, some d => decide (i = 0 ∧ d = 25)
  | .move (.tmp s), some d => chkMove ops o d s
  | .assign (.tmp s), some d => decide (s = 248 ∧ d = 0) && dep ops o 248
  | .load t (.tmp s), some d => decide (t = 73 ∧ s = 9 ∧ annF d = some (.may .names))
  | .call c, some d => match c.callee with
    | .value (.tmp f) => chkCall ops o d f (c.args.toList.map argI)
    | _ => false
  | .build t parts, some d => match parts.toList with
    | [(0, .tmp m), (1, .tmp k), (2, .const (.int .i64 lv))] => decide (t = 76) && chkBuild ops o d m k lv
    | _ => false
  | .insert t (.tmp m) (.const (.int .i64 n)) (.tmp s), none => decide (t = 60 ∧ m = 25) && chkIns ops i o n s
  | _, _ => false
/-- and the last things are there -/
def chkAll (ops : Array Oper) : Bool :=
  (List.range ops.size).all (fun i => match ops[i]? with
    | some o => chkOp ops i o
    | none => false) &&
  (List.range 56).all (fun n => match ops[insF ((n : Int) + 1)]? with
    | some o => decide (o.dst = none)
    | none => false) &&
  decide (0 < ops.size) && decide (outF 0 < ops.size) && (match ops[outF 0]? with | some o => decide (o.dst = some 0) | none => false)
end Go.Proofs.Ytgnejkmojfhfpaa
