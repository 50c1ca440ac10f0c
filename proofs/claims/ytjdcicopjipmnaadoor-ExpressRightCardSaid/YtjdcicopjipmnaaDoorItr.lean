/- Items: the steps of drawn regions that parse rows of tokens and keep what is told. -/
import Derived.Test.YtjdcicopjipmnaaDoorIts
namespace Go.Proofs.YtjdcicopjipmnaaDoor
open Go.RowKit
set_option linter.unusedVariables false
set_option linter.unusedSimpArgs false
theorem put_none9 (a : Act) (v : Value) : a.put none v = a := rfl
section
variable {gs : List Got} {ops : Array Oper} {B : Nat} {w0 : World} {a0 : Act} {i : Nat} {o : Oper}
/-- the operand owns a row -/
def EvOwn (gs : List Got) (ops : Array Oper) (B : Nat) (w0 : World) (a0 : Act) (i : Nat) (o : Oper) (x : Operand) (L : List TokD) : Prop :=
  ∀ a w S, At gs ops B w0 a0 i o a w S → OwnT w (a.eval x) L
theorem EvOwn.item (j : Nat) {s : Nat} {L : List TokD} (h : known gs ops o j = true) (he : live gs ops i j = true) (hs : slOf gs j = s) (hi : itOf gs j = .row L) : EvOwn gs ops B w0 a0 i o (.tmp s) L := fun a w S hA => by
  have := hA.dep j h he
  rw [hi, hs] at this
  exact this.1
theorem EvOwn.via (j : Nat) {x : Operand} {v : Value} {L : List TokD} (hx : Ev gs ops B w0 a0 i o x v) (hj : Ev gs ops B w0 a0 i o (.tmp (slOf gs j)) v) (h : known gs ops o j = true) (he : live gs ops i j = true) (hi : itOf gs j = .row L) : EvOwn gs ops B w0 a0 i o x L := fun a w S hA => by
  have := hA.dep j h he
  rw [hi, hj a w S hA] at this
  rw [hx a w S hA]
  exact this.1
theorem enter16 (args : Array Value) (w : World) : (callFunc 16 args).run Tryd.prog w = .ok (.enter 16 args) w := by go_simp
theorem step_told {x : Operand} {L : List TokD} {r : PS × Int} {a b e : Int} {T : List NodeD} (hop : o.op = .call { callee := .value (.func 16), args := #[x], argTypes := #[26] }) (hx : EvOwn gs ops B w0 a0 i o x L)
    (hr : parsed L = some r) (ha : nodeOf r = a) (hb : usedOf r = b) (he : r.1.e = e) (hT : treeOf r.1.ns = T) (hbig : L.length ≤ 274877906944) (hts : ∀ t ∈ L, t.s.size ≤ maxLen) (hasp : ∀ w, Below B w0 w → Asp w)
    (hit : itOf gs i = .got a b e T) (hd : o.dst ≠ none) : StepOk Tryd.prog gs ops B w0 a0 i o := by
  intro a1 w S K Q hbs hbel hB hdp hS hK
  have hA : At gs ops B w0 a0 i o a1 w S := ⟨hbs, hbel, hB, hdp, hS⟩
  have hown := hx a1 w S hA
  have hrun : (execOp a1.eval o).run Tryd.prog w = .ok (.enter 16 #[a1.eval x]) w := by
    unfold execOp
    simp only [hop, resolve, Deferred.ofValue, invoke]
    have hf := enter16
    go_simp
  obtain ⟨A, c, ev, hrd, _⟩ := Own.rd hown
  rw [ev] at hown hrun
  unfold Oper.wp
  rw [hrun, Oper.upon_enter]
  refine (told_is rfl hr ha hb he hT hrd (OwnT.old hown) rfl hbig hts (hasp w hbel)).mono ?_
  rintro e' w' ⟨A9, c9, rfl, h1, h2⟩
  exact hK _ _ (hbel.trans (below_low h2 hB)) (Kept.of_below h2) (by rw [hit]; exact ⟨A9, c9, rfl, h1⟩) fun h => absurd h hd
theorem run_alloc31 (w : World) : (Instr.alloc 31 true (.tuple #[])).run Tryd.prog w = .ok (.pointer (some ⟨w.heap.size, 0, none⟩)) (w.alloc (.cells #[.int .i64 0, .int .i64 0, .int .i64 0, .slice none 0 0] 31)) := by go_simp
theorem step_alloc (hop : o.op = .alloc 31) (hit : itOf gs i = .ptr 31 #[.int .i64 0, .int .i64 0, .int .i64 0, .slice none 0 0]) (hd : o.dst ≠ none) : StepOk Tryd.prog gs ops B w0 a0 i o := by
  intro a w S K Q hb hbel hB hdp hS hK
  have hrun : (execOp a.eval o).run Tryd.prog w = .ok (.value (.pointer (some ⟨w.heap.size, 0, none⟩))) (w.alloc (.cells #[.int .i64 0, .int .i64 0, .int .i64 0, .slice none 0 0] 31)) := by
    unfold execOp
    simp only [hop, Sem.run_bind, run_alloc31, Result.andThen_ok, Sem.run_pure]
  unfold Oper.wp
  rw [hrun, Oper.upon_value]
  have hbw : Below w.heap.size w (w.alloc (.cells #[.int .i64 0, .int .i64 0, .int .i64 0, .slice none 0 0] 31)) := (by repeat (first | exact Below.refl _ _ | assumption | refine Below.setCell ?_ (by first | (simp; done) | (simp; omega) | omega) _ | refine below_drewN ?_ _ | refine Below.drew ?_ | refine Below.alloc ?_ (by first | (simp; done) | (simp; omega) | omega) _))
  refine hK _ _ (hbel.trans (below_low hbw hB)) (Kept.of_below hbw) ?_ fun h => absurd h hd
  rw [hit]
  exact ⟨w.heap.size, rfl, ⟨hB, .inl (Nat.le_refl _)⟩, Blk.new _ _ _⟩
theorem mod_setRow4 {w : World} (g : Nat) (cs : Array Value) : Mod (fun i => i = g) w (w.setRow g cs) :=
  ⟨rfl, rfl, rfl, by simp, fun i _ hne => setRow_other w g i cs hne⟩
/-- a block is stored whole -/
theorem run_storeBlk {w : World} {T : TypeId} {b : Nat} {t : TypeId} {cs0 cs : Array Value} (hB : Blk w b t cs0) (hsz : (sizeOf T).run Tryd.prog w = .ok cs.size w) (hn : cs.size = cs0.size) (h1 : ∀ u ∈ cs.toList, u.oneCell' = true) :
    ∃ w', (Instr.storeAt T (.pointer (some ⟨b, 0, none⟩)) (.agg cs)).run Tryd.prog w = .ok () w' ∧ Blk w' b t cs ∧ Mod (fun i => i = b) w w' := by
  have hrun := run_storeCells_at Tryd.prog b 0 t cs.toList 0 cs0 w hB (by simp; omega) h1
  have hcs : (Value.agg cs).cells = cs := rfl
  have hb : Blk (w.setRow b (cs0.toList.take (0 + 0) ++ cs.toList ++ cs0.toList.drop (0 + 0 + cs.toList.length)).toArray) b t cs := by
    have := setRow_heap w b cs0 (cs0.toList.take (0 + 0) ++ cs.toList ++ cs0.toList.drop (0 + 0 + cs.toList.length)).toArray t (0, 0) hB
    rw [show (cs0.toList.take (0 + 0) ++ cs.toList ++ cs0.toList.drop (0 + 0 + cs.toList.length)).toArray = cs by
      rw [List.drop_of_length_le (by simp; omega)]; simp] at this ⊢
    exact this
  refine ⟨_, ?_, hb, mod_setRow4 _ _⟩
  simp [Instr.storeAt, Instr.sureAddr, storeVar, hsz, hcs, Result.andThen]
  simp at hrun
  rw [hrun]
theorem step_store (j q : Nat) {s x : Nat} {a9 b9 e9 : Int} {T : List NodeD} {cs0 : Array Value} (hop : o.op = .store 31 (.tmp s) (.tmp x)) (h : known gs ops o j = true) (he : eatOf gs j = some i) (hs : slOf gs j = s) (hi : itOf gs j = .ptr 31 cs0) (hc0 : cs0.size = 4)
    (h' : known gs ops o q = true) (he' : live gs ops i q = true) (hs' : slOf gs q = x) (hi' : itOf gs q = .got a9 b9 e9 T) (hsi : slOf gs i = s) (hit : itOf gs i = .gotAt a9 b9 e9 T) (hd : o.dst = none) : StepOk Tryd.prog gs ops B w0 a0 i o := by
  intro a w S K Q hb hbel hB hdp hS hK
  have hl : live gs ops i j = true := by unfold live; rw [he]; simp
  have hj := hdp j h hl
  have hq := hdp q h' he'
  rw [hs, hi] at hj
  rw [hs', hi'] at hq
  obtain ⟨b, eb, hSb, hblk⟩ := hj
  obtain ⟨A, c, ev, hT⟩ := hq
  have hsz : (sizeOf 31).run Tryd.prog w = .ok 4 w := by kernel_rfl
  obtain ⟨w', hrun, hb', hm⟩ := run_storeBlk (T := 31) (cs := #[.int .i64 a9, .int .i64 b9, .int .i64 e9, .slice A T.length c]) hblk hsz (by rw [hc0]; rfl) (by simp [Value.oneCell'])
  have hrun2 : (execOp a.eval o).run Tryd.prog w = .ok .skip w' := by
    unfold execOp
    simp only [hop, eb, ev, Sem.run_bind, hrun, Result.andThen_ok, Sem.run_pure]
  unfold Oper.wp
  rw [hrun2, Oper.upon_skip]
  have hput : a.put o.dst undef = a.put o.dst (a.eval (.tmp s)) := by rw [hd]; rfl
  rw [hput]
  have hblt := hblk.lt
  have hBb := hS j b hSb
  refine hK _ w' ⟨hm.os.trans hbel.os, hm.tape.trans hbel.tape, hm.output.trans hbel.output, Nat.le_trans hbel.size hm.size, fun k hk => (hm.block k (by have := hbel.size; omega) (by omega)).trans (hbel.block k hk)⟩ ⟨hm.size, fun g hg hn => hm.block g hg fun e => hn ⟨⟨j, he, e ▸ hSb⟩, e ▸ ⟨31, cs0, .inr rfl, hblk⟩⟩⟩ ?_ (fun _ => by rw [hsi])
  rw [hit, eb]
  refine ⟨b, A, c, rfl, ⟨hBb, .inr ⟨j, he, hSb⟩⟩, hb', hT.kept (S := fun g => g = b) ⟨hm.size, fun g hg hn => hm.block g hg fun e => hn ⟨e, e ▸ ⟨31, cs0, .inr rfl, hblk⟩⟩⟩⟩
/-- a token's cells are loaded -/
theorem run_loadTok {w : World} {b : Nat} {t : TokD} (h : Blk w b 39 (tcs t).toArray) : (Instr.loadAt 39 (.pointer (some ⟨b, 0, none⟩))).run Tryd.prog w = .ok (tokV t) w := by
  have c0 := h.cell 0
  have c1 := h.cell 1
  have c2 := h.cell 2
  have c3 := h.cell 3
  simp only [tcs, List.getElem?_toArray, List.getElem?_cons_zero, List.getElem?_cons_succ] at c0 c1 c2 c3
  unfold tokV tcs
  go_simp
theorem run_made3 (t u v : TokD) (w : World) : (Instr.buildSlice 26 3 #[(0, tokV t), (1, tokV u), (2, tokV v)]).run Tryd.prog w = .ok (.slice (some ⟨w.heap.size, 0, none⟩) 3 3) (w.alloc (.cells (tcs t ++ tcs u ++ tcs v).toArray 39)) := by
  unfold tokV tcs
  go_simp
theorem step_made3 {x y z : Operand} {t u v : TokD} (hop : o.op = .buildSlice 26 3 #[(0, x), (1, y), (2, z)]) (hx : Ev gs ops B w0 a0 i o x (tokV t)) (hy : Ev gs ops B w0 a0 i o y (tokV u)) (hz : Ev gs ops B w0 a0 i o z (tokV v)) (hit : itOf gs i = .row [t, u, v]) (hd : o.dst ≠ none) : StepOk Tryd.prog gs ops B w0 a0 i o :=
  step_made (M := [t, u, v]) (fun a w S hA => by unfold execOp; simp only [hop, List.map_toArray, List.map_cons, List.map_nil, hx a w S hA, hy a w S hA, hz a w S hA, Sem.run_bind, run_made3, Result.andThen_ok, Sem.run_pure]; rfl) (by simp) hit hd
end
end Go.Proofs.YtjdcicopjipmnaaDoor
