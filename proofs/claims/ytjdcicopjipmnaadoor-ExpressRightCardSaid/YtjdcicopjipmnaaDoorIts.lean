/- Items: the steps of drawn regions that make rows of tokens. -/
import Derived.Test.YtjdcicopjipmnaaDoorItm
namespace Go.Proofs.YtjdcicopjipmnaaDoor
open Go.RowKit
set_option linter.unusedVariables false
set_option linter.unusedSimpArgs false
theorem Kept.refl (S : Nat → Prop) (w : World) : Kept S w w := ⟨Nat.le_refl _, fun _ _ _ => rfl⟩
theorem Kept.of_below {S : Nat → Prop} {w w' : World} (h : Below w.heap.size w w') : Kept S w w' := ⟨h.size, fun g hg _ => h.block g hg⟩
theorem OwnT.turns {w : World} {v : Value} {L : List TokD} (h : OwnT w v L) {b : Nat} (e : v.ownBlock = some b) : Turns w b := by
  rcases h.2 with ⟨rfl, _⟩ | ⟨g, c, cur, rfl, hg, _⟩
  · cases e
  · have e2 : g = b := by simpa [Value.ownBlock] using e
    subst e2
    exact ⟨39, cur, .inl rfl, hg⟩
theorem grown_kept {w w' : World} {v : Value} {L : List TokD} {S : Nat → Prop} (h : OwnT w v L) (hS : ∀ b, v.ownBlock = some b → S b) (hg : w.grownBy w' v.ownBlock) : Kept S w w' :=
  ⟨hg.size, fun g hlt hn => hg.block g hlt fun e => hn ⟨hS g e.symm, h.turns e.symm⟩⟩
/-- the first row is appended to -/
theorem Hold.app {B : Nat} {w w6 : World} {v v6 : Value} {L L6 : List TokD} {l : List (Value × Item)} (h : Hold B w ((v, .row L) :: l)) (hB : B ≤ w.heap.size) (ho : OwnT w6 v6 L6) (hg : w.grownBy w6 v.ownBlock) (hn : v6.ownBlock = v.ownBlock ∨ v6.ownBlock = some w.heap.size) : Hold B w6 ((v6, .row L6) :: l) :=
  h.turn hB hg.size fun S hi hS => ⟨grown_kept hi.1 hi.2 hg, ho, fun b e => by
    rcases hn with e' | e' <;> rw [e'] at e
    · exact ⟨hS b (hi.2 b e), .inr (hi.2 b e)⟩
    · injection e with e
      exact ⟨by omega, .inl (by omega)⟩⟩
theorem Hold.own {B : Nat} {w : World} {v : Value} {L : List TokD} {l : List (Value × Item)} (h : Hold B w ((v, .row L) :: l)) : OwnT w v L := h.head.1
theorem below_low {B C : Nat} {w w' : World} (h : Below C w w') (hB : B ≤ C) : Below B w w' := ⟨h.os, h.tape, h.output, h.size, fun k hk => h.block k (by omega)⟩
theorem grown_below {B : Nat} {w w' : World} {r : Option Nat} (h : w.grownBy w' r) (hB : B ≤ w.heap.size) (hr : ∀ b, r = some b → B ≤ b) : Below B w w' :=
  ⟨h.os, h.tape, h.output, h.size, fun k hk => h.block k (by omega) fun e => by have := hr k e.symm; omega⟩
section
variable {gs : List Got} {ops : Array Oper} {B : Nat} {w0 : World} {a0 : Act} {i : Nat} {o : Oper}
/-- what is known when an operation is done -/
structure At (gs : List Got) (ops : Array Oper) (B : Nat) (w0 : World) (a0 : Act) (i : Nat) (o : Oper) (a : Act) (w : World) (S : Nat → Nat → Prop) : Prop where
  base : ∀ s, early ops i s = true → a.eval (.tmp s) = a0.eval (.tmp s)
  bel : Below B w0 w
  size : B ≤ w.heap.size
  dep : ∀ j, known gs ops o j = true → live gs ops i j = true → (itOf gs j).Is (S j) (a.eval (.tmp (slOf gs j))) w
  own : ∀ j g, S j g → B ≤ g
/-- the operand is this value -/
def Ev (gs : List Got) (ops : Array Oper) (B : Nat) (w0 : World) (a0 : Act) (i : Nat) (o : Oper) (x : Operand) (v : Value) : Prop :=
  ∀ a w S, At gs ops B w0 a0 i o a w S → a.eval x = v
theorem Ev.const (v : Value) : Ev gs ops B w0 a0 i o (.const v) v := fun _ _ _ _ => rfl
theorem Ev.base {s : Nat} {v : Value} (h : early ops i s = true) (hv : a0.eval (.tmp s) = v) : Ev gs ops B w0 a0 i o (.tmp s) v := fun a _ _ hA => (hA.base s h).trans hv
theorem Ev.item (j : Nat) {s : Nat} {v : Value} (h : known gs ops o j = true) (he : live gs ops i j = true) (hs : slOf gs j = s) (hi : itOf gs j = .val v) : Ev gs ops B w0 a0 i o (.tmp s) v := fun a w S hA => by
  have := hA.dep j h he
  rw [hi, hs] at this
  exact this
/-- the operand is a row, that this operation may read -/
def EvRow (gs : List Got) (ops : Array Oper) (B : Nat) (w0 : World) (a0 : Act) (i : Nat) (o : Oper) (x : Operand) (L : List TokD) : Prop :=
  ∀ a w S, At gs ops B w0 a0 i o a w S → ∃ A m c, a.eval x = .slice A m c ∧ L.length = m ∧ Rd w A m c 4 (L.flatMap tcs)
theorem EvRow.of_own {x : Operand} {L : List TokD} (h : ∀ a w S, At gs ops B w0 a0 i o a w S → OwnT w (a.eval x) L) : EvRow gs ops B w0 a0 i o x L := fun a w S hA => by
  obtain ⟨A, c, e, hr, _⟩ := Own.rd (h a w S hA)
  exact ⟨A, _, c, e, rfl, hr⟩
theorem EvRow.item (j : Nat) {s : Nat} {L : List TokD} (h : known gs ops o j = true) (he : live gs ops i j = true) (hs : slOf gs j = s) (hi : itOf gs j = .row L) : EvRow gs ops B w0 a0 i o (.tmp s) L :=
  .of_own fun a w S hA => by
    have := hA.dep j h he
    rw [hi, hs] at this
    exact this.1
/-- the row lies in a slot that was moved: the same value, the block of the item j -/
theorem EvRow.via (j : Nat) {x : Operand} {v : Value} {L : List TokD} (hx : Ev gs ops B w0 a0 i o x v) (hj : Ev gs ops B w0 a0 i o (.tmp (slOf gs j)) v) (h : known gs ops o j = true) (he : live gs ops i j = true) (hi : itOf gs j = .row L) : EvRow gs ops B w0 a0 i o x L :=
  .of_own fun a w S hA => by
    have := hA.dep j h he
    rw [hi, hj a w S hA] at this
    rw [hx a w S hA]
    exact this.1
/-- an operation of values alone -/
theorem step_val {v : Value} (hr : ∀ a w S, At gs ops B w0 a0 i o a w S → (execOp a.eval o).run Tryd.prog w = .ok (.value v) w) (hit : itOf gs i = .val v) (hd : o.dst ≠ none) : StepOk Tryd.prog gs ops B w0 a0 i o := by
  intro a w S K Q hb hbel hB hdp hS hK
  unfold Oper.wp
  rw [hr a w S ⟨hb, hbel, hB, hdp, hS⟩, Oper.upon_value]
  exact hK _ _ hbel (Kept.refl _ _) (by rw [hit]; rfl) fun h => absurd h hd
theorem step_move {x : Operand} {v : Value} (hop : o.op = .move x) (hx : Ev gs ops B w0 a0 i o x v) (hit : itOf gs i = .val v) (hd : o.dst ≠ none) : StepOk Tryd.prog gs ops B w0 a0 i o :=
  step_val (fun a w S hA => by unfold execOp; simp only [hop, hx a w S hA, Sem.run_pure]) hit hd
theorem step_assign {x : Operand} {v : Value} (hop : o.op = .assign x) (hx : Ev gs ops B w0 a0 i o x v) (hit : itOf gs i = .val v) (hd : o.dst ≠ none) : StepOk Tryd.prog gs ops B w0 a0 i o :=
  step_val (fun a w S hA => by unfold execOp; simp only [hop, hx a w S hA, Sem.run_pure]) hit hd
/-- what is taken over as it is -/
theorem step_pass (j : Nat) {s : Nat} (hop : o.op = .move (.tmp s) ∨ o.op = .assign (.tmp s)) (h : known gs ops o j = true) (he : eatOf gs j = some i) (hs : slOf gs j = s) (hit : itOf gs i = itOf gs j) (hd : o.dst ≠ none) : StepOk Tryd.prog gs ops B w0 a0 i o := by
  intro a w S K Q hb hbel hB hdp hS hK
  have hl : live gs ops i j = true := by unfold live; rw [he]; simp
  have hi := hdp j h hl
  rw [hs] at hi
  have hrun : (execOp a.eval o).run Tryd.prog w = .ok (.value (a.eval (.tmp s))) w := by
    unfold execOp
    rcases hop with hop | hop <;> simp only [hop, Sem.run_pure]
  unfold Oper.wp
  rw [hrun, Oper.upon_value]
  exact hK _ _ hbel (Kept.refl _ _) (by rw [hit]; exact hi.mono fun g hg => ⟨hS j g hg, .inr ⟨j, he, hg⟩⟩) fun h => absurd h hd
/-- a call of a function that leaves what is there -/
theorem step_call {f : FuncId} (hf : ∀ (args : Array Value) (w : World), (callFunc f args).run Tryd.prog w = .ok (.enter f args) w) {xs : Array Operand} {ps : List Value} {ts : Array TypeId} (hop : o.op = .call { callee := .value (.func f), args := xs, argTypes := ts })
    (hx : ∀ a w S, At gs ops B w0 a0 i o a w S → xs.toList.map a.eval = ps)
    (hc : ∀ a w S, At gs ops B w0 a0 i o a w S → Calls Tryd.prog f ps.toArray w fun e w' => ∃ v, e = .returned v ∧ Below w.heap.size w w' ∧ (itOf gs i).Is (fun g => w.heap.size ≤ g) v w') (hd : o.dst ≠ none) : StepOk Tryd.prog gs ops B w0 a0 i o := by
  intro a w S K Q hb hbel hB hdp hS hK
  have hA : At gs ops B w0 a0 i o a w S := ⟨hb, hbel, hB, hdp, hS⟩
  have hrun : (execOp a.eval o).run Tryd.prog w = .ok (.enter f ps.toArray) w := by
    rw [← hx a w S hA]
    unfold execOp
    simp only [hop, resolve, Deferred.ofValue, invoke]
    go_simp
    rw [← Array.toList_map]
  unfold Oper.wp
  rw [hrun, Oper.upon_enter]
  refine (hc a w S hA).mono ?_
  rintro e w' ⟨v, rfl, hb', hi⟩
  exact hK _ _ (hbel.trans (below_low hb' hB)) (Kept.of_below hb') (hi.mono fun g hg => ⟨by omega, .inl hg⟩) fun h => absurd h hd
/-- a row made of its elements -/
theorem step_made {M : List TokD} (hr : ∀ a w S, At gs ops B w0 a0 i o a w S → (execOp a.eval o).run Tryd.prog w = .ok (.value (.slice (some ⟨w.heap.size, 0, none⟩) M.length M.length)) (w.alloc (.cells (M.flatMap tcs).toArray 39))) (hm : M.length ≤ 1000) (hit : itOf gs i = .row M) (hd : o.dst ≠ none) : StepOk Tryd.prog gs ops B w0 a0 i o := by
  intro a w S K Q hb hbel hB hdp hS hK
  unfold Oper.wp
  rw [hr a w S ⟨hb, hbel, hB, hdp, hS⟩, Oper.upon_value]
  have hbw : Below w.heap.size w (w.alloc (.cells (M.flatMap tcs).toArray 39)) := (by repeat (first | exact Below.refl _ _ | assumption | refine Below.setCell ?_ (by first | (simp; done) | (simp; omega) | omega) _ | refine below_drewN ?_ _ | refine Below.drew ?_ | refine Below.alloc ?_ (by first | (simp; done) | (simp; omega) | omega) _))
  refine hK _ _ (hbel.trans (below_low hbw hB)) (Kept.of_below hbw) ?_ fun h => absurd h hd
  rw [hit]
  exact ⟨OwnT.made w M _ _ rfl rfl (by omega), fun b e => by have e2 : w.heap.size = b := (by simpa [Value.ownBlock] using e); exact ⟨by omega, .inl (by omega)⟩⟩
/-- a row appended to a row -/
theorem step_app (j : Nat) {s : Nat} {x : Operand} {L M : List TokD} (hop : o.op = .call { callee := .builtin .append, args := #[.tmp s, x], argTypes := #[26, 26] }) (h : known gs ops o j = true) (he : eatOf gs j = some i) (hs : slOf gs j = s) (hi : itOf gs j = .row L)
    (hx : EvRow gs ops B w0 a0 i o x M) (hbound : L.length + M.length ≤ 1099511627776) (hit : itOf gs i = .row (L ++ M)) (hd : o.dst ≠ none) : StepOk Tryd.prog gs ops B w0 a0 i o := by
  intro a w S K Q hb hbel hB hdp hS hK
  have hA : At gs ops B w0 a0 i o a w S := ⟨hb, hbel, hB, hdp, hS⟩
  obtain ⟨A, m, c, hxe, hm, hr⟩ := hx a w S hA
  have hl : live gs ops i j = true := by unfold live; rw [he]; simp
  have hj := hdp j h hl
  rw [hs, hi] at hj
  obtain ⟨i0, hi0, hz0, hz1, hz2⟩ := info_parts info_Tok
  refine wp_append_Own w (.tmp s) x 26 hop 39 i0 _ 4 40 Tryd.underlying26 hi0 hz0 hz1 hz2 rfl (a.eval (.tmp s)) L.length (L.flatMap tcs) rfl hj.1 A m c (M.flatMap tcs) hxe hr (tflat_one M) (by omega) (by omega) fun v' w' h1 h2 h3 => ?_
  have hsb : ∀ b, (a.eval (.tmp s)).ownBlock = some b → B ≤ b := fun b e => hS j b (hj.2 b e)
  refine hK v' w' (hbel.trans (grown_below h2 hB hsb)) (grown_kept hj.1 (fun b e => ⟨j, he, hj.2 b e⟩) h2) ?_ fun h => absurd h hd
  rw [hit]
  refine ⟨?_, fun b e => ?_⟩
  · unfold OwnT
    rw [List.length_append, List.flatMap_append, hm]
    exact h1
  · rcases h3 with e' | e' <;> rw [e'] at e
    · exact ⟨hsb b e, .inr ⟨j, he, hj.2 b e⟩⟩
    · injection e with e
      exact ⟨by omega, .inl (by omega)⟩
theorem Ev.blk (j : Nat) {b : Nat} {t : TypeId} {cs : Array Value} (hj : Ev gs ops B w0 a0 i o (.tmp (slOf gs j)) (.pointer (some ⟨b, 0, none⟩))) (h : known gs ops o j = true) (he : live gs ops i j = true) (hi : itOf gs j = .ptr t cs) : ∀ a w S, At gs ops B w0 a0 i o a w S → Blk w b t cs := fun a w S hA => by
  have := hA.dep j h he
  rw [hi, hj a w S hA] at this
  obtain ⟨b', e, _, hb⟩ := this
  cases e
  exact hb
theorem step_addr {t : TypeId} {x y : Operand} {p q v : Value} (hop : o.op = .indexAddr t x y) (hx : Ev gs ops B w0 a0 i o x p) (hy : Ev gs ops B w0 a0 i o y q) (hr : ∀ w, (Instr.indexAt t p q).run Tryd.prog w = .ok v w) (hit : itOf gs i = .val v) (hd : o.dst ≠ none) : StepOk Tryd.prog gs ops B w0 a0 i o :=
  step_val (fun a w S hA => by unfold execOp; simp only [hop, hx a w S hA, hy a w S hA, Sem.run_bind, hr w, Result.andThen_ok, Sem.run_pure]) hit hd
theorem step_load {t : TypeId} {x : Operand} {p v : Value} (hop : o.op = .load t x) (hx : Ev gs ops B w0 a0 i o x p) (hr : ∀ a w S, At gs ops B w0 a0 i o a w S → (Instr.loadAt t p).run Tryd.prog w = .ok v w) (hit : itOf gs i = .val v) (hd : o.dst ≠ none) : StepOk Tryd.prog gs ops B w0 a0 i o :=
  step_val (fun a w S hA => by unfold execOp; simp only [hop, hx a w S hA, Sem.run_bind, hr a w S hA, Result.andThen_ok, Sem.run_pure]) hit hd
theorem enter21 (args : Array Value) (w : World) : (callFunc 21 args).run Tryd.prog w = .ok (.enter 21 args) w := by go_simp
theorem enter23 (args : Array Value) (w : World) : (callFunc 23 args).run Tryd.prog w = .ok (.enter 23 args) w := by go_simp
theorem enter26 (args : Array Value) (w : World) : (callFunc 26 args).run Tryd.prog w = .ok (.enter 26 args) w := by go_simp
theorem step_num {x : Operand} {n : Int} (hop : o.op = .call { callee := .value (.func 23), args := #[x], argTypes := #[2] }) (hx : Ev gs ops B w0 a0 i o x (.int .i64 n)) (hit : itOf gs i = .val (tokV (numT n))) (hd : o.dst ≠ none) : StepOk Tryd.prog gs ops B w0 a0 i o :=
  step_call enter23 (ps := [.int .i64 n]) hop (fun a w S hA => by simp [hx a w S hA]) (fun a w S hA => (num_any n w).mono (by rintro e w' ⟨rfl, hb⟩; exact ⟨_, rfl, hb, by rw [hit]; rfl⟩)) hd
theorem step_sign {x : Operand} {t : ByteArray} (hop : o.op = .call { callee := .value (.func 21), args := #[x], argTypes := #[9] }) (hx : Ev gs ops B w0 a0 i o x (.string t)) (hit : itOf gs i = .val (tokV (signT t))) (hd : o.dst ≠ none) : StepOk Tryd.prog gs ops B w0 a0 i o :=
  step_call enter21 (ps := [.string t]) hop (fun a w S hA => by simp [hx a w S hA]) (fun a w S hA => (sign_any t w).mono (by rintro e w' ⟨rfl, hb⟩; exact ⟨_, rfl, hb, by rw [hit]; rfl⟩)) hd
theorem step_word {x : Operand} {t : ByteArray} (hop : o.op = .call { callee := .value (.func 26), args := #[x], argTypes := #[9] }) (hx : Ev gs ops B w0 a0 i o x (.string t)) (hit : itOf gs i = .val (tokV (wordT t))) (hd : o.dst ≠ none) : StepOk Tryd.prog gs ops B w0 a0 i o :=
  step_call enter26 (ps := [.string t]) hop (fun a w S hA => by simp [hx a w S hA]) (fun a w S hA => (word4_any t w).mono (by rintro e w' ⟨rfl, hb⟩; exact ⟨_, rfl, hb, by rw [hit]; rfl⟩)) hd
theorem run_made0 (w : World) : (Instr.buildSlice 26 0 #[]).run Tryd.prog w = .ok (.slice (some ⟨w.heap.size, 0, none⟩) 0 0) (w.alloc (.cells #[] 39)) := by go_simp
theorem run_made1 (t : TokD) (w : World) : (Instr.buildSlice 26 1 #[(0, tokV t)]).run Tryd.prog w = .ok (.slice (some ⟨w.heap.size, 0, none⟩) 1 1) (w.alloc (.cells (tcs t).toArray 39)) := by
  unfold tokV tcs
  go_simp
theorem run_made2 (t u : TokD) (w : World) : (Instr.buildSlice 26 2 #[(0, tokV t), (1, tokV u)]).run Tryd.prog w = .ok (.slice (some ⟨w.heap.size, 0, none⟩) 2 2) (w.alloc (.cells (tcs t ++ tcs u).toArray 39)) := by
  unfold tokV tcs
  go_simp
theorem step_made0 (hop : o.op = .buildSlice 26 0 #[]) (hit : itOf gs i = .row []) (hd : o.dst ≠ none) : StepOk Tryd.prog gs ops B w0 a0 i o :=
  step_made (M := []) (fun a w S hA => by unfold execOp; simp only [hop, List.map_toArray, List.map_nil, Sem.run_bind, run_made0, Result.andThen_ok, Sem.run_pure]; rfl) (by simp) hit hd
theorem step_made1 {x : Operand} {t : TokD} (hop : o.op = .buildSlice 26 1 #[(0, x)]) (hx : Ev gs ops B w0 a0 i o x (tokV t)) (hit : itOf gs i = .row [t]) (hd : o.dst ≠ none) : StepOk Tryd.prog gs ops B w0 a0 i o :=
  step_made (M := [t]) (fun a w S hA => by unfold execOp; simp only [hop, List.map_toArray, List.map_cons, List.map_nil, hx a w S hA, Sem.run_bind, run_made1, Result.andThen_ok, Sem.run_pure]; rfl) (by simp) hit hd
theorem step_made2 {x y : Operand} {t u : TokD} (hop : o.op = .buildSlice 26 2 #[(0, x), (1, y)]) (hx : Ev gs ops B w0 a0 i o x (tokV t)) (hy : Ev gs ops B w0 a0 i o y (tokV u)) (hit : itOf gs i = .row [t, u]) (hd : o.dst ≠ none) : StepOk Tryd.prog gs ops B w0 a0 i o :=
  step_made (M := [t, u]) (fun a w S hA => by unfold execOp; simp only [hop, List.map_toArray, List.map_cons, List.map_nil, hx a w S hA, hy a w S hA, Sem.run_bind, run_made2, Result.andThen_ok, Sem.run_pure]; rfl) (by simp) hit hd
end
theorem smallA {a b : List TokD} (ha : ∀ t ∈ a, t.s.size ≤ maxLen) (hb : ∀ t ∈ b, t.s.size ≤ maxLen) : ∀ t ∈ a ++ b, t.s.size ≤ maxLen := fun t ht => (List.mem_append.1 ht).elim (ha t) (hb t)
theorem smallN (n : Int) : ∀ t ∈ [numT n], t.s.size ≤ maxLen := fun t ht => by rw [List.mem_singleton.1 ht]; exact Nat.zero_le _
theorem smallS (x : ByteArray) (h : x.size ≤ 100) : ∀ t ∈ [signT x], t.s.size ≤ maxLen := fun t ht => by rw [List.mem_singleton.1 ht]; exact sml h
theorem smallW (x : ByteArray) (h : x.size ≤ 100) : ∀ t ∈ [wordT x], t.s.size ≤ maxLen := fun t ht => by rw [List.mem_singleton.1 ht]; exact sml h
theorem RowN.belw {w w' : World} {v : Value} {T : List NodeD} (h : RowN (fun _ => False) w v T) (hb : Below w.heap.size w w') : RowN (fun _ => False) w' v T := h.kept (S := fun _ => False) (Kept.of_below hb)
theorem level_is {t : ByteArray} {p : Int} (h : levelB t = p) (ht : t.size ≤ maxLen) (w : World) : Calls Tryd.prog 24 #[.string t] w fun e w' => e = .returned (.int .i64 p) ∧ Below w.heap.size w w' := by
  subst h
  exact level_any t ht w
/-- a node of two kids -/
theorem RowN.two {F : Nat → Prop} {w : World} {A : Option Addr} {m c : Nat} {ns : List NodeD} (h : RowN F w (.slice A m c) ns) {j : Nat} {op a n x y : Int} {s : ByteArray} (hj : ns[j]? = some ⟨op, a, s, n, [x, y]⟩) : ∃ b o b1 o1 c1, A = some ⟨b, o, none⟩ ∧ b < w.heap.size ∧ w.cell? ⟨b, o + j * 5, none⟩ = some (.int .i64 op) ∧ w.cell? ⟨b, o + j * 5 + 1, none⟩ = some (.int .i64 a) ∧ w.cell? ⟨b, o + j * 5 + 2, none⟩ = some (.string s) ∧ w.cell? ⟨b, o + j * 5 + 3, none⟩ = some (.int .i64 n) ∧ w.cell? ⟨b, o + j * 5 + 4, none⟩ = some (.slice (some ⟨b1, o1, none⟩) 2 c1) ∧ b1 < w.heap.size ∧ w.cell? ⟨b1, o1, none⟩ = some (.int .i64 x) ∧ w.cell? ⟨b1, o1 + 1, none⟩ = some (.int .i64 y) := by
  obtain ⟨A', c', e, hn⟩ := h.node
  obtain ⟨b, o, A1, c1, e2, hb, h0, h1, h2, h3, h4, hr⟩ := hn j _ hj
  subst e2
  obtain ⟨b1, o1, rfl, hb1, hc⟩ := hr.2.2.2 (by simp [ics])
  injection e with e
  exact ⟨b, o, b1, o1, c1, e, hb, h0, h1, h2, h3, h4, hb1, hc 0 _ rfl, hc 1 _ rfl⟩
/-- any node -/
theorem RowN.five {F : Nat → Prop} {w : World} {A : Option Addr} {m c : Nat} {ns : List NodeD} (h : RowN F w (.slice A m c) ns) {j : Nat} (hj : j < ns.length) : ∃ b o op a s n v4, A = some ⟨b, o, none⟩ ∧ b < w.heap.size ∧ w.cell? ⟨b, o + j * 5, none⟩ = some (.int .i64 op) ∧ w.cell? ⟨b, o + j * 5 + 1, none⟩ = some (.int .i64 a) ∧ w.cell? ⟨b, o + j * 5 + 2, none⟩ = some (.string s) ∧ w.cell? ⟨b, o + j * 5 + 3, none⟩ = some (.int .i64 n) ∧ w.cell? ⟨b, o + j * 5 + 4, none⟩ = some v4 ∧ ∃ A4 m4 c4, v4 = .slice A4 m4 c4 := by
  obtain ⟨A', c', e, hn⟩ := h.node
  obtain ⟨b, o, A1, c1, e2, hb, h0, h1, h2, h3, h4, hr⟩ := hn j _ (List.getElem?_eq_getElem hj)
  subst e2
  injection e with e
  exact ⟨b, o, _, _, _, _, _, e, hb, h0, h1, h2, h3, h4, _, _, _, rfl⟩
theorem Blk.at_new {w : World} {g : Nat} {t : TypeId} {cs : Array Value} (h : g = w.heap.size) : Blk (w.alloc (.cells cs t)) g t cs := by
  subst h
  exact Blk.new w t cs
section
variable {B : Nat} {w w' : World} {l : List (Value × Item)}
theorem Hold.alloc (h : Hold B w l) (o : Obj) : Hold B (w.alloc o) l := h.bel (Below.alloc (Below.refl _ _) (Nat.le_refl _) _)
theorem Hold.made0 (h : Hold B w l) (hB : B ≤ w.heap.size) : Hold B (w.alloc (.cells #[] 39)) ((.slice (some ⟨w.heap.size, 0, none⟩) 0 0, .row []) :: l) :=
  h.new (it := .row []) (Below.alloc (Below.refl _ _) (Nat.le_refl _) _) hB ⟨OwnT.made w [] #[] 0 rfl rfl (by omega), fun b e => by have e2 : w.heap.size = b := (by simpa [Value.ownBlock] using e); omega⟩
theorem Hold.made (h : Hold B w l) (hB : B ≤ w.heap.size) (L : List TokD) (cs : Array Value) (n : Nat) (hL : L.length = n) (hc : cs = (L.flatMap tcs).toArray) (hm : n ≤ 9223372036854775807) : Hold B (w.alloc (.cells cs 39)) ((.slice (some ⟨w.heap.size, 0, none⟩) n n, .row L) :: l) :=
  h.new (it := .row L) (Below.alloc (Below.refl _ _) (Nat.le_refl _) _) hB ⟨OwnT.made w L cs n hL hc hm, fun b e => by have e2 : w.heap.size = b := (by simpa [Value.ownBlock] using e); omega⟩
theorem Hold.got {A : Option Addr} {N U E : Int} {m c : Nat} {T : List NodeD} (h : Hold B w l) (hB : B ≤ w.heap.size) (hT : RowN (fun _ => False) w (.slice A m c) T) (hm : T.length = m) : Hold B (w.alloc (.cells #[.int .i64 N, .int .i64 U, .int .i64 E, .slice A m c] 31)) ((.pointer (some ⟨w.heap.size, 0, none⟩), .gotAt N U E T) :: l) := by
  subst hm
  exact h.new (it := .gotAt N U E T) (Below.alloc (Below.refl _ _) (Nat.le_refl _) _) hB ⟨_, A, c, rfl, Nat.le_refl _, Blk.new _ _ _, hT.belw (Below.alloc (Below.refl _ _) (Nat.le_refl _) _)⟩
theorem Hold.gotOpen {g m : Nat} {N U E : Int} {T : List NodeD} (h : Hold B w ((.pointer (some ⟨g, 0, none⟩), .gotAt N U E T) :: l)) (hm : T.length = m) : ∃ A c, Blk w g 31 #[.int .i64 N, .int .i64 U, .int .i64 E, .slice A m c] ∧ RowN (fun _ => False) w (.slice A m c) T := by
  subst hm
  obtain ⟨g', A, c, e, _, h1, h2⟩ := h.head
  cases e
  exact ⟨A, c, h1, h2⟩
theorem Hold.ptrOpen {g : Nat} {t : TypeId} {cs : Array Value} (h : Hold B w ((.pointer (some ⟨g, 0, none⟩), .ptr t cs) :: l)) : Blk w g t cs := by
  obtain ⟨g', e, _, h1⟩ := h.head
  cases e
  exact h1
theorem Hold.ptrNew (h : Hold B w l) (hB : B ≤ w.heap.size) (t : TypeId) (cs : Array Value) : Hold B (w.alloc (.cells cs t)) ((.pointer (some ⟨w.heap.size, 0, none⟩), .ptr t cs) :: l) :=
  h.new (it := .ptr t cs) (Below.alloc (Below.refl _ _) (Nat.le_refl _) _) hB ⟨_, rfl, Nat.le_refl _, Blk.new _ _ _⟩
end
/-- the first row is appended to: what is there then -/
theorem Hold.grow0 {w W w6 : World} {v v6 : Value} {L G : List TokD} {l : List (Value × Item)} (h : Hold w.heap.size W ((v, .row L) :: l)) (hb : Below w.heap.size w W) (ho : OwnT w6 v6 G) (hg : W.grownBy w6 v.ownBlock) (hn : v6.ownBlock = v.ownBlock ∨ v6.ownBlock = some W.heap.size) : Hold w.heap.size w6 ((v6, .row G) :: l) ∧ Below w.heap.size w w6 :=
  ⟨h.app hb.size ho hg hn, hb.trans (grown_below hg hb.size fun b e => h.head.2 b e)⟩
theorem Hold.grow {w W w6 : World} {o : Obj} {v v6 : Value} {L G : List TokD} {l : List (Value × Item)} (h : Hold w.heap.size W ((v, .row L) :: l)) (hb : Below w.heap.size w W) (ho : OwnT w6 v6 G) (hg : (W.alloc o).grownBy w6 v.ownBlock) (hn : v6.ownBlock = v.ownBlock ∨ v6.ownBlock = some (W.alloc o).heap.size) : Hold w.heap.size w6 ((v6, .row G) :: l) ∧ Below w.heap.size w w6 :=
  (h.alloc o).grow0 (Below.alloc hb hb.size _) ho hg hn
/-- a node of a tree, as it lies -/
theorem RowN.nth {F : Nat → Prop} {w : World} {A : Option Addr} {m c : Nat} {ns : List NodeD} (h : RowN F w (.slice A m c) ns) {j : Nat} {op a n : Int} {s : ByteArray} {ks : List Int} (hj : ns[j]? = some ⟨op, a, s, n, ks⟩) : ∃ b o A1 c1, A = some ⟨b, o, none⟩ ∧ b < w.heap.size ∧ w.cell? ⟨b, o + j * 5, none⟩ = some (.int .i64 op) ∧ w.cell? ⟨b, o + j * 5 + 1, none⟩ = some (.int .i64 a) ∧ w.cell? ⟨b, o + j * 5 + 2, none⟩ = some (.string s) ∧ w.cell? ⟨b, o + j * 5 + 3, none⟩ = some (.int .i64 n) ∧ w.cell? ⟨b, o + j * 5 + 4, none⟩ = some (.slice A1 ks.length c1) ∧ Rd w A1 ks.length c1 1 (ics ks) := by
  obtain ⟨A', c', e, hn⟩ := h.node
  obtain ⟨b, o, A1, c1, e2, hb, h0, h1, h2, h3, h4, hr⟩ := hn j _ hj
  subst e2
  injection e with e
  exact ⟨b, o, A1, c1, e, hb, h0, h1, h2, h3, h4, hr⟩
theorem opO_ge (j : Nat) (h : j < 18) : 12 ≤ opO j := by
  have : ((List.range 18).all fun j => decide (12 ≤ opO j)) = true := by decide
  simpa using List.all_eq_true.1 this j (List.mem_range.2 h)
end Go.Proofs.YtjdcicopjipmnaaDoor
