/- maps of texts to numbers; express.Level. -/
import Derived.Test.YtjdcicopjipmnaaDoorNme
namespace Go.Proofs.YtjdcicopjipmnaaDoor
open Go.RowKit Go.Maps Go.WideMaps
set_option linter.unusedVariables false
set_option linter.unusedSimpArgs false
theorem zero3 (w : World) : (zeroValue 3).run Tryd.prog w = .ok (.int .i64 0) w := by kernel_rfl
/-- block b is a map of at most n texts, each with a number -/
def IntAt (w : World) (b n : Nat) (f : ByteArray → Option Int) : Prop := ∃ D : DataW Unit, w.ownsMap Tryd.prog 9 (plainElem Tryd.prog 3) b n D ∧ ∀ x : ByteArray, x.size ≤ maxLen → Maps.has D (.string x.data.toList) = (f x).isSome ∧ D.atKey (.string x.data.toList) (.lit (.int .i64 0)) = .lit (.int .i64 ((f x).getD 0))
section
variable {w : World} {b n : Nat} {f : ByteArray → Option Int}
theorem IntAt.lt (h : IntAt w b n f) : b < w.heap.size := by
  obtain ⟨D, h, _⟩ := h
  exact h.lt
theorem IntAt.made (w : World) : IntAt (w.alloc (.map #[] 0)) w.heap.size 0 (fun _ => none) := ⟨.map [], World.ownsMap_made w _ _ _, fun x _ => ⟨rfl, rfl⟩⟩
theorem IntAt.mod {w' : World} {S : Nat → Prop} (h : IntAt w b n f) (hm : Mod S w w') (hb : ¬ S b) : IntAt w' b n f := by
  have hlt := h.lt
  obtain ⟨D, ⟨es, clock, e, h1⟩, h2⟩ := h
  exact ⟨D, ⟨es, clock, (hm.block b hlt hb).trans e, h1⟩, h2⟩
theorem IntAt.look (h : IntAt w b n f) {x : ByteArray} (hx : x.size ≤ maxLen) : (Instr.lookup 76 (.map (some b)) (.string x) false).run Tryd.prog w = .ok (.int .i64 ((f x).getD 0)) w := by
  obtain ⟨D, ho, hf⟩ := h
  obtain ⟨c, hrun, hat, _⟩ := ho.lookup_int keyed9 Tryd.underlying76 Tryd.underlying3 (zero3 w) (keyOf_string_mk Tryd.underlying9 hx)
  rw [hrun]
  rw [(hf x hx).2] at hat
  simp only [DataW.lit.injEq, Lit.int.injEq, true_and] at hat
  rw [hat]
theorem IntAt.look_ok (h : IntAt w b n f) {x : ByteArray} (hx : x.size ≤ maxLen) : (Instr.lookup 76 (.map (some b)) (.string x) true).run Tryd.prog w = .ok (.tuple #[.int .i64 ((f x).getD 0), .bool (f x).isSome]) w := by
  obtain ⟨D, ho, hf⟩ := h
  obtain ⟨v, ps, hrun, hv⟩ := ho.look_ok keyed9 Tryd.underlying76 (zero3 w) (plainElem_int Tryd.underlying3 (by decide)) (keyOf_string_mk Tryd.underlying9 hx)
  obtain ⟨c, rfl, hc, hwc⟩ := plainElem_int_inv Tryd.underlying3 hv
  rw [hrun, (hf x hx).1]
  rw [(hf x hx).2] at hc
  simp only [Prod.mk.injEq, DataW.lit.injEq, Lit.int.injEq, true_and] at hc
  rw [hc.1]
theorem IntAt.store (h : IntAt w b n f) {x : ByteArray} {i : Int} (hx : x.size ≤ maxLen) (hi : (Lit.int .i64 i).wf = true) (hn : n < maxLen) :
    ∃ w', (Instr.mapUpdate 76 (.map (some b)) (.string x) (.int .i64 i)).run Tryd.prog w = .ok () w' ∧ IntAt w' b (n + 1) (fun y => if y = x then some i else f y) ∧ Mod (· = b) w w' := by
  obtain ⟨D, ho, hf⟩ := h
  obtain ⟨w', hrun, ho', ht⟩ := ho.store keyed9 Tryd.underlying76 hn (keyOf_string_mk Tryd.underlying9 hx) (plainElem_int Tryd.underlying3 hi)
  refine ⟨w', hrun, ⟨_, ho', fun y hy => ?_⟩, mod_turned ht⟩
  simp only
  by_cases e : y = x
  · subst e
    rw [if_pos rfl, Maps.atKey_put_same ho.isMap (show WideAt.IsKeyLit (Lit.string y.data.toList) from trivial), Maps.has_put_same ho.isMap (show WideAt.IsKeyLit (Lit.string y.data.toList) from trivial)]
    exact ⟨rfl, rfl⟩
  · have hne : Lit.string y.data.toList ≠ Lit.string x.data.toList := fun h => e (bytes_ext (Lit.string.inj h))
    rw [if_neg e, Maps.atKey_put_other hne, Maps.has_put_other hne]
    exact hf y hy
theorem wpList_insert {ops : Array Oper} {rest : List Oper} {o : Oper} {a : Act} {Q : Exit → Act → World → Prop}
    (hg : o.guard = none) (m x v : Operand) (hop : o.op = Op.insert 76 m x v) (h : IntAt w b n f) (hn : n < maxLen) (hm : a.eval m = .map (some b)) {s : ByteArray} {i : Int} (hx : a.eval x = .string s) (hv : a.eval v = .int .i64 i)
    (hs : s.size ≤ maxLen) (hi : (Lit.int .i64 i).wf = true)
    (hK : ∀ w', IntAt w' b (n + 1) (fun y => if y = s then some i else f y) → Mod (· = b) w w' → wpList Tryd.prog ops Q rest (a.put o.dst undef) w') :
    wpList Tryd.prog ops Q (o :: rest) a w := by
  refine wpList_plain hg fun K' hK' => ?_
  obtain ⟨w', hrun, r1, r2⟩ := h.store hs hi hn
  unfold Oper.wp
  simp [execOp, hop, hm, hx, hv, hrun, Result.andThen]
  exact hK' _ _ (hK w' r1 r2)
end
def putF (f : ByteArray → Option Int) (p : ByteArray × Int) : ByteArray → Option Int := fun y => if y = p.1 then some p.2 else f y
def levelL : List (ByteArray × Int) := [(⟨#[108, 97, 109, 98, 100, 97]⟩, 1), (⟨#[105, 102]⟩, 1), (⟨#[111, 114]⟩, 2), (⟨#[97, 110, 100]⟩, 3), (⟨#[110, 111, 116]⟩, 4), (⟨#[61, 61]⟩, 5), (⟨#[33, 61]⟩, 5), (⟨#[60]⟩, 5), (⟨#[60, 61]⟩, 5), (⟨#[62]⟩, 5), (⟨#[62, 61]⟩, 5), (⟨#[105, 110]⟩, 5), (⟨#[110, 111, 116, 32, 105, 110]⟩, 5), (⟨#[105, 115]⟩, 5), (⟨#[105, 115, 32, 110, 111, 116]⟩, 5), (⟨#[43]⟩, 6), (⟨#[45]⟩, 6), (⟨#[42]⟩, 7), (⟨#[47, 47]⟩, 7), (⟨#[37]⟩, 7), (⟨#[42, 42]⟩, 9), (⟨#[46]⟩, 10), (⟨#[40]⟩, 10), (⟨#[91]⟩, 10)]
def levelF : ByteArray → Option Int := levelL.foldl putF (fun _ => none)
/-- how an operator stands -/
def levelB (t : ByteArray) : Int := (levelF t).getD 0
theorem below_mod {w w1 w2 : World} {B : Nat} (h : Below w.heap.size w w1) (hm : Mod (· = B) w1 w2) (hB : w.heap.size ≤ B) : Below w.heap.size w w2 := h.trans (hm.below h.size fun i hi e => by omega)
set_option maxRecDepth 100000 in
set_option maxHeartbeats 4000000 in
theorem levels_any (w : World) : Calls Tryd.prog 36 #[] w fun e w' => e = .returned (.map (some w.heap.size)) ∧ IntAt w' w.heap.size 24 levelF ∧ Below w.heap.size w w' := by
  have hmk := run_makeMap (P := Tryd.prog) 76 w
  have HS := Lib.hid (IntAt.made w)
  have HB : Hid (Below w.heap.size w (w.alloc (.map #[] 0))) := Lib.hid (by repeat (first | exact Below.refl _ _ | assumption | refine Below.setCell ?_ (by first | (simp; done) | (simp; omega) | omega) _ | refine below_drewN ?_ _ | refine Below.drew ?_ | refine Below.alloc ?_ (by first | (simp; done) | (simp; omega) | omega) _))
  go_enter Tryd.func36, Tryd.ntmps36
  go_wp2_with (refine wpList_insert rfl _ _ _ rfl HS.out (by unfold maxLen; omega) rfl rfl rfl (by unfold maxLen; decide) (by decide) ?_; intro w1 hs hm; have HS := Lib.hid hs; have HB := Lib.hid (below_mod HB.out hm (Nat.le_refl _)); clear hs hm)
  go_ret
  exact ⟨rfl, HS.out, HB.out⟩
set_option maxRecDepth 100000 in
set_option maxHeartbeats 1000000 in
theorem level_any (t : ByteArray) (ht : t.size ≤ maxLen) (w : World) : Calls Tryd.prog 24 #[.string t] w fun e w' => e = .returned (.int .i64 (levelB t)) ∧ Below w.heap.size w w' := by
  go_enter Tryd.func24, Tryd.ntmps24
  go_wp2_with (go_at_call 36; refine (levels_any w).mono ?_; rintro e w1 ⟨rfl, hs, hb⟩; have hl := hs.look ht; have HB := Lib.hid hb; clear hs hb)
  go_ret
  exact ⟨rfl, HB.out⟩
end Go.Proofs.YtjdcicopjipmnaaDoor
