/- What a statement needs of Held: the frame beside it, its space and what it keeps. -/
import Derived.Test.YthdkloojhenlkaaFrF
import Derived.Test.YthdkloojhenlkaaRws
namespace Go.Proofs.Ythdkloojhenlkaa
open Go.RowKit

theorem held_env {w0 w : World} {S : Nat → Prop} {g : Nat} {F : Fr} (E : Env w0 w S g F) (hlen : F.locals.length + F.cells.length + F.values.length ≤ 1000000) :
    Calls Try.prog 27 #[.pointer (some ⟨g, 0, none⟩)] w fun e w' => ∃ A n c, e = .returned (.slice A n c) ∧ RowR w' S A n c F.held ∧ Env w0 w' S g F ∧ Below w.heap.size w w' :=
  (held_any g F S w E.fr hlen).mono fun _ w' ⟨v, he, hv⟩ => by
    obtain ⟨A, n, c, rfl, hr⟩ := RowR.of_ownN (S := S) hv.own (fun b e hs => by have := hv.new b e; have := E.lt hs; omega)
    exact ⟨A, n, c, he, hr, E.new hv.bel, hv.bel⟩
theorem set_space {T TB : TypeId} {w : World} {g : Nat} {F : Fr} {L B C X K : Value} (hT : T ≠ 44) (hT2 : T ≠ 4) (hT3 : T ≠ TB) (h : FrAt T TB w g F L B C X K) (x : V) :
    FrAt T TB (((w.setCell ⟨g, 5, none⟩ (.int .i64 x.k)).setCell ⟨g, 6, none⟩ (.int .i64 x.n)).setCell ⟨g, 7, none⟩ (.string x.s)) g { F with space := x } L B C X K := by
  have hk : ∀ i, i ≠ g → (((w.setCell ⟨g, 5, none⟩ (.int .i64 x.k)).setCell ⟨g, 6, none⟩ (.int .i64 x.n)).setCell ⟨g, 7, none⟩ (.string x.s)).heap[i]? = w.heap[i]? := fun i h1 =>
    (Below.heap_setCell _ _ _ _ h1).trans ((Below.heap_setCell _ _ _ _ h1).trans (Below.heap_setCell _ _ _ _ h1))
  refine ⟨((h.blk.set_ 5 _).set_ 6 _).set_ 7 _, h.l.keep fun i e => hk i ?_, h.b.keep fun i e => hk i ?_, h.c.keep fun i e => hk i ?_, h.x.keep fun i e => hk i ?_, h.k.keep fun i e => hk i ?_, h.lc, h.lx, h.cx⟩
  · rintro rfl; exact own_blk_ne h.l h.blk (Ne.symm hT) e
  · rintro rfl; exact own_blk_ne h.b h.blk (Ne.symm hT2) e
  · rintro rfl; exact own_blk_ne h.c h.blk (Ne.symm hT) e
  · rintro rfl; exact own_blk_ne h.x h.blk (Ne.symm hT) e
  · rintro rfl; exact own_blk_ne h.k h.blk (Ne.symm hT3) e
theorem set_keep {T TB : TypeId} {w : World} {g : Nat} {F : Fr} {L B C X K : Value} (hT : T ≠ 44) (hT2 : T ≠ 4) (hT3 : T ≠ TB) (h : FrAt T TB w g F L B C X K) (x : V) :
    FrAt T TB (((w.setCell ⟨g, 11, none⟩ (.int .i64 x.k)).setCell ⟨g, 12, none⟩ (.int .i64 x.n)).setCell ⟨g, 13, none⟩ (.string x.s)) g { F with keep := x } L B C X K := by
  have hk : ∀ i, i ≠ g → (((w.setCell ⟨g, 11, none⟩ (.int .i64 x.k)).setCell ⟨g, 12, none⟩ (.int .i64 x.n)).setCell ⟨g, 13, none⟩ (.string x.s)).heap[i]? = w.heap[i]? := fun i h1 =>
    (Below.heap_setCell _ _ _ _ h1).trans ((Below.heap_setCell _ _ _ _ h1).trans (Below.heap_setCell _ _ _ _ h1))
  refine ⟨((h.blk.set_ 11 _).set_ 12 _).set_ 13 _, h.l.keep fun i e => hk i ?_, h.b.keep fun i e => hk i ?_, h.c.keep fun i e => hk i ?_, h.x.keep fun i e => hk i ?_, h.k.keep fun i e => hk i ?_, h.lc, h.lx, h.cx⟩
  · rintro rfl; exact own_blk_ne h.l h.blk (Ne.symm hT) e
  · rintro rfl; exact own_blk_ne h.b h.blk (Ne.symm hT2) e
  · rintro rfl; exact own_blk_ne h.c h.blk (Ne.symm hT) e
  · rintro rfl; exact own_blk_ne h.x h.blk (Ne.symm hT) e
  · rintro rfl; exact own_blk_ne h.k h.blk (Ne.symm hT3) e
theorem Env.setSpace {w0 w : World} {S : Nat → Prop} {g : Nat} {F : Fr} (E : Env w0 w S g F) (x : V) :
    Env w0 (((w.setCell ⟨g, 5, none⟩ (.int .i64 x.k)).setCell ⟨g, 6, none⟩ (.int .i64 x.n)).setCell ⟨g, 7, none⟩ (.string x.s)) S g { F with space := x } ∧
    Kept S w S (((w.setCell ⟨g, 5, none⟩ (.int .i64 x.k)).setCell ⟨g, 6, none⟩ (.int .i64 x.n)).setCell ⟨g, 7, none⟩ (.string x.s)) := by
  have hg := E.gin
  have hm : Mod S w (((w.setCell ⟨g, 5, none⟩ (.int .i64 x.k)).setCell ⟨g, 6, none⟩ (.int .i64 x.n)).setCell ⟨g, 7, none⟩ (.string x.s)) := (((Mod.refl S w).setCell (fun _ => hg) _).setCell (fun _ => hg) _).setCell (fun _ => hg) _
  obtain ⟨L, B, C, X, K, h, hS, hSl⟩ := E.fr
  exact E.step ⟨L, B, C, X, K, set_space (by decide) (by decide) (by decide) h x, hS, fun i hi => by have := hSl i hi; have := hm.size; omega⟩ hm fun i hi => .inl hi
theorem Env.setKeep {w0 w : World} {S : Nat → Prop} {g : Nat} {F : Fr} (E : Env w0 w S g F) (x : V) :
    Env w0 (((w.setCell ⟨g, 11, none⟩ (.int .i64 x.k)).setCell ⟨g, 12, none⟩ (.int .i64 x.n)).setCell ⟨g, 13, none⟩ (.string x.s)) S g { F with keep := x } ∧
    Kept S w S (((w.setCell ⟨g, 11, none⟩ (.int .i64 x.k)).setCell ⟨g, 12, none⟩ (.int .i64 x.n)).setCell ⟨g, 13, none⟩ (.string x.s)) := by
  have hg := E.gin
  have hm : Mod S w (((w.setCell ⟨g, 11, none⟩ (.int .i64 x.k)).setCell ⟨g, 12, none⟩ (.int .i64 x.n)).setCell ⟨g, 13, none⟩ (.string x.s)) := (((Mod.refl S w).setCell (fun _ => hg) _).setCell (fun _ => hg) _).setCell (fun _ => hg) _
  obtain ⟨L, B, C, X, K, h, hS, hSl⟩ := E.fr
  exact E.step ⟨L, B, C, X, K, set_keep (by decide) (by decide) (by decide) h x, hS, fun i hi => by have := hSl i hi; have := hm.size; omega⟩ hm fun i hi => .inl hi
theorem Env.row53 {w0 w : World} {S : Nat → Prop} {g : Nat} {F : Fr} (E : Env w0 w S g F) : ∃ L B C X K, Blk w g 53 (F.row L B C X K) := by
  obtain ⟨L, B, C, X, K, h, _⟩ := E.fr
  exact ⟨L, B, C, X, K, h.blk⟩
theorem new_env (Ap : Option Addr) (np cp k : Nat) (LL CC : List ByteArray) (nf : Nat) (A : Option Addr) (m c : Nat) (xs : List V) (A' : Option Addr) (m' c' : Nat) (ys : List V) (w : World)
    (hk : k < np) (hnp : np ≤ 9223372036854775807) (hC : CodeAt w Ap k m LL CC nf) (hx : RdV w A m c xs) (hy : RdV w A' m' c' ys) (hm : m ≤ LL.length) (hm' : m' = CC.length + nf) (hL : LL.length ≤ 1000000) (hCl : CC.length + nf ≤ 1000000) :
    Calls Try.prog 16 #[.slice Ap np cp, .int .i64 k, .slice A m c, .slice A' m' c'] w fun e w' => ∃ S g, e = .returned (.tuple #[.pointer (some ⟨g, 0, none⟩), .bool true]) ∧ Env w w' S g (Fr.new k LL CC xs ys) :=
  (new_yes Ap np cp k LL CC nf A m c xs A' m' c' ys w hk hnp hC hx hy hm hm' hL hCl).mono fun _ _ ⟨g, he, hF, hb⟩ => ⟨_, g, he, ⟨hF, fun _ hi => hi.elim (fun h => h.elim) fun h => h.1, hb⟩⟩

def zS (n : Nat) : Array Value := (scs (List.replicate n ⟨#[]⟩)).toArray
theorem info_S : (Try.prog.info? 9).map (fun i => (i.zero, i.size, i.bytes)) = some (some (.string ⟨#[]⟩), 1, 16) := by kernel_rfl
theorem make_S (n : Nat) (hn : n ≤ 1000000) (w : World) : (Instr.makeSlice 28 (.int .i64 (n : Int)) (.int .i64 (n : Int))).run Try.prog w = .ok (.slice (some ⟨w.heap.size, 0, none⟩) n n) (w.alloc (.cells (zS n) 9)) := by
  obtain ⟨i0, hi, hz0, hz1, hz2⟩ := info_parts info_S
  have := run_make_rowN (P := Try.prog) 28 9 i0 _ Try.underlying28 hi hz0 .i64 .i64 n n (Nat.le_refl _) (by rw [hz2]; omega) (by omega) w
  rw [hz1, Nat.mul_one] at this
  rw [this]
  have e : madeCells (Value.string ⟨#[]⟩).cells n = zS n := by
    apply Array.toList_inj.1
    show (madeCells #[Value.string ⟨#[]⟩] n).toList = _
    rw [toList_madeCells_one]
    simp [zS, scs]
  rw [e]
end Go.Proofs.Ythdkloojhenlkaa
