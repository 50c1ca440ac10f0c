/- A map of values to ints as a function: lookup, len, store, delete. -/
import Derived.Test.YtfdihmbmlhlkgaaOpen
import Derived.Test.YtfdihmbmlhlkgaaMemB
import Derived.Maps.OwnSet
import Derived.DeepKeys4
namespace Go.Proofs.Ytfdihmbmlhlkgaa
open Go.RowKit Go.WideMaps

theorem V.law : KeyLaw Try.prog 24 := deep_law_laid Try.laidOut (m := 2) (by omega) (of_decide_eq_true (by kernel_rfl)) (by kernel_rfl) (by kernel_rfl)
theorem keyed24 : Maps.Keyed Try.prog 24 := Maps.Keyed.of_law V.law
/-- a value that Go's memory can hold -/
def V.Ok (x : V) : Prop := (Lit.int .i64 x.k).wf = true ∧ (Lit.int .i64 x.n).wf = true ∧ x.s.size ≤ maxLen
theorem V.formed (x : V) : x.v.formed Try.prog 24 = true := by
  obtain ⟨k, n, s⟩ := x
  simp [V.v, Value.formed, Try.underlying24, cellsV]
def V.lit (x : V) : Lit := .string (keyBytes [.int .i64 x.k, .int .i64 x.n, .string x.s.data.toList])
theorem keyTy24 : Try.prog.keyType 24 = true := by kernel_rfl
theorem keyLits_V (d : Nat) {x : V} (h : x.Ok) : Try.prog.keyLits (d + 2) 24 x.cs = some [.int .i64 x.k, .int .i64 x.n, .string x.s.data.toList] := by
  obtain ⟨k, n, s⟩ := x
  obtain ⟨h1, h2, h3⟩ := h
  simp only at h1 h2 h3
  simp [Program.keyLits, Try.underlying24, cellsV, V.cs, cellsI, cellsI64, cellsS, Try.underlying3, Try.underlying2, Try.underlying9, h1, h2, h3]
theorem V.key {x : V} (h : x.Ok) : keyOf Try.prog 24 x.v = some x.lit := by
  have hf := x.formed
  have e : x.v.cells.toList = x.cs := by obtain ⟨k, n, s⟩ := x; rfl
  have hs : ∃ d, Try.prog.types.size + 1 = d + 2 := ⟨Try.prog.types.size - 1, by
    have : (0 : Nat) < Try.prog.types.size := of_decide_eq_true (by kernel_rfl)
    omega⟩
  obtain ⟨d, hd⟩ := hs
  unfold keyOf
  rw [Try.underlying24]
  simp only [keyTy24, hf, e, hd, keyLits_V d h, Bool.and_self, if_true, Option.map_some]
  rfl
theorem V.v_inj {x y : V} (h : x.v = y.v) : x = y := by
  obtain ⟨k, n, s⟩ := x
  obtain ⟨k', n', s'⟩ := y
  simp only [V.v, Value.agg.injEq, Array.mk.injEq, List.cons.injEq, Value.int.injEq, Value.string.injEq, true_and, and_true] at h
  obtain ⟨rfl, rfl, rfl⟩ := h
  rfl
theorem V.lit_inj {x y : V} (hx : x.Ok) (hy : y.Ok) (e : x.lit = y.lit) : x = y := V.v_inj (keyed24.inj (V.key hx) (by rw [V.key hy, e]))
theorem V.isKey (x : V) : WideAt.IsKeyLit x.lit := trivial

theorem tight {w : World} {P : Program} {k : TypeId} {R : Value → Option (DataW Unit × List MemPlace)} {b n : Nat} {D : DataW Unit} (h : w.ownsMap P k R b n D) : w.ownsMap P k R b (Maps.size D) D := by
  obtain ⟨es, clock, e, F, hs, rfl⟩ := h
  exact ⟨es, clock, e, F, by simp [Maps.size, length_sorted], rfl⟩
/-- Block b is a map of s keys that f tells. -/
def MapAt (w : World) (b : Nat) (f : V → Option Nat) (s : Nat) : Prop :=
  ∃ D : DataW Unit, w.ownsMap Try.prog 24 (plainElem Try.prog 3) b s D ∧ Maps.size D = s ∧ ∀ x : V, x.Ok → (f x = none → Maps.has D x.lit = false) ∧ ∀ i, f x = some i → i ≤ 9223372036854775807 ∧ Maps.has D x.lit = true ∧ ∀ z, D.atKey x.lit z = .lit (.int .i64 i)
def getAt : Option Nat → Int
  | some i => i
  | none => 0
/-- with x's place set, or taken out -/
def upd (f : V → Option Nat) (x : V) (r : Option Nat) : V → Option Nat := fun y => if y = x then r else f y
theorem zero3 (w : World) : (zeroValue 3).run Try.prog w = .ok (.int .i64 0) w := by kernel_rfl

section
variable {w : World} {b : Nat} {f : V → Option Nat} {s : Nat}
theorem MapAt.lt (h : MapAt w b f s) : b < w.heap.size := by
  obtain ⟨D, h, _⟩ := h
  exact h.lt
theorem MapAt.made (w : World) : MapAt (w.alloc (.map #[] 0)) w.heap.size (fun _ => none) 0 :=
  ⟨.map [], World.ownsMap_made w _ _ _, rfl, fun x _ => ⟨fun _ => rfl, fun i e => by cases e⟩⟩
theorem MapAt.mod {w' : World} {S : Nat → Prop} (h : MapAt w b f s) (hm : Mod S w w') (hb : ¬ S b) : MapAt w' b f s := by
  have hlt := h.lt
  obtain ⟨D, ⟨es, clock, e, h1⟩, h2⟩ := h
  exact ⟨D, ⟨es, clock, (hm.block b hlt hb).trans e, h1⟩, h2⟩
theorem MapAt.look (h : MapAt w b f s) {x : V} (hx : x.Ok) : (Instr.lookup 68 (.map (some b)) x.v true).run Try.prog w = .ok (.tuple #[.int .i64 (getAt (f x)), .bool (f x).isSome]) w := by
  obtain ⟨D, ho, hs, hf⟩ := h
  obtain ⟨v, ps, hrun, hv⟩ := ho.look_ok keyed24 Try.underlying68 (zero3 w) (plainElem_int Try.underlying3 (by decide)) (V.key hx)
  obtain ⟨c, rfl, hc, hwc⟩ := plainElem_int_inv Try.underlying3 hv
  rw [hrun]
  obtain ⟨h0, h1⟩ := hf x hx
  cases e : f x with
  | none =>
    rw [h0 e]
    rw [Maps.atKey_of_not_has (h0 e)] at hc
    simp only [Prod.mk.injEq, DataW.lit.injEq, Lit.int.injEq, true_and] at hc
    rw [← hc.1]
    rfl
  | some i =>
    obtain ⟨_, h2, h3⟩ := h1 i e
    rw [h2]
    rw [h3] at hc
    simp only [Prod.mk.injEq, DataW.lit.injEq, Lit.int.injEq, true_and] at hc
    rw [← hc.1]
    rfl
theorem MapAt.len (h : MapAt w b f s) (ty : TypeId) : (Builtin.len_ #[68] ty #[.map (some b)]).run Try.prog w = .ok (.int .i64 s) w := by
  obtain ⟨D, ho, hs, hf⟩ := h
  rw [ho.len Try.underlying68 ty, hs]
theorem mod_turned {w' : World} (h : w.mapTurned w' b) : Mod (· = b) w w' := by
  obtain ⟨es, clock, es', clock', hb, rfl⟩ := h
  exact ⟨rfl, rfl, rfl, by simp [ChangeMaps.setBlock], fun i hi hne => ChangeMaps.heap_setBlock_other hb _ (fun e => hne e)⟩
theorem MapAt.store (h : MapAt w b f s) {x : V} (hx : x.Ok) {i : Nat} (hi : i ≤ 9223372036854775807) (hs : s < maxLen) :
    ∃ w', (Instr.mapUpdate 68 (.map (some b)) x.v (.int .i64 i)).run Try.prog w = .ok () w' ∧ MapAt w' b (upd f x (some i)) (if (f x).isSome then s else s + 1) ∧ Mod (· = b) w w' := by
  obtain ⟨D, ho, hsz, hf⟩ := h
  have hw : (Lit.int .i64 (i : Int)).wf = true := WalkArith.wf_i64 (n := (i : Int)) ⟨by omega, by omega⟩
  obtain ⟨w', hrun, ho', ht⟩ := ho.store keyed24 Try.underlying68 hs (V.key hx) (plainElem_int Try.underlying3 hw)
  have hz : Maps.size (D.put x.lit (.lit (.int .i64 (i : Int)))) = if (f x).isSome then s else s + 1 := by
    rw [Maps.size_put (ho.tidy keyed24), hsz]
    obtain ⟨h0, h1⟩ := hf x hx
    cases e : f x with
    | none => rw [h0 e]; rfl
    | some j => rw [(h1 j e).2.1]; rfl
  refine ⟨w', hrun, ⟨D.put x.lit (.lit (.int .i64 (i : Int))), by rw [← hz]; exact tight ho', hz, fun y hy => ?_⟩, mod_turned ht⟩
  by_cases e : y = x
  · subst e
    refine ⟨fun e => by simp [upd] at e, fun j e => ?_⟩
    simp only [upd, if_true, Option.some.injEq] at e
    subst e
    exact ⟨hi, Maps.has_put_same ho.isMap y.isKey _, fun z => Maps.atKey_put_same ho.isMap y.isKey _ z⟩
  · have hne : y.lit ≠ x.lit := fun h => e (V.lit_inj hy hx h)
    obtain ⟨h0, h1⟩ := hf y hy
    simp only [upd, if_neg e]
    rw [Maps.has_put_other hne]
    exact ⟨h0, fun j ej => ⟨(h1 j ej).1, (h1 j ej).2.1, fun z => by rw [Maps.atKey_put_other hne]; exact (h1 j ej).2.2 z⟩⟩
theorem MapAt.drop (h : MapAt w b f s) {x : V} (hx : x.Ok) (ty : TypeId) :
    ∃ w', (Builtin.delete_ #[68, 24] ty #[.map (some b), x.v]).run Try.prog w = .ok (.tuple #[]) w' ∧ MapAt w' b (upd f x none) (if (f x).isSome then s - 1 else s) ∧ Mod (· = b) w w' := by
  obtain ⟨D, ho, hsz, hf⟩ := h
  obtain ⟨w', hrun, ho', ht⟩ := ho.drop keyed24 Try.underlying68 (V.key hx) ty
  have hz : Maps.size (D.del x.lit) = if (f x).isSome then s - 1 else s := by
    have := Maps.size_del (ho.tidy keyed24) (k := x.lit)
    rw [hsz] at this
    obtain ⟨h0, h1⟩ := hf x hx
    cases e : f x with
    | none => rw [h0 e] at this; simpa using this
    | some j => rw [(h1 j e).2.1] at this; simp at this ⊢; omega
  refine ⟨w', hrun, ⟨D.del x.lit, by rw [← hz]; exact tight ho', hz, fun y hy => ?_⟩, mod_turned ht⟩
  by_cases e : y = x
  · subst e
    exact ⟨fun _ => Maps.has_del_same, fun j e => by simp [upd] at e⟩
  · have hne : y.lit ≠ x.lit := fun h => e (V.lit_inj hy hx h)
    obtain ⟨h0, h1⟩ := hf y hy
    simp only [upd, if_neg e]
    rw [Maps.has_del_other hne]
    exact ⟨h0, fun j ej => ⟨(h1 j ej).1, (h1 j ej).2.1, fun z => by rw [Maps.atKey_del_other hne]; exact (h1 j ej).2.2 z⟩⟩
end
end Go.Proofs.Ytfdihmbmlhlkgaa
