/- Rows that a statement writes into, beside its frame. -/
import Derived.Test.YthdkloojhenlkaaHel
namespace Go.Proofs.Ythdkloojhenlkaa
open Go.RowKit

theorem OwnV.new' {w w' : World} {v : Value} {xs : List V} (h : OwnV w v xs) (hb : Below w.heap.size w w') : OwnV w' v xs := Own.new h hb
/-- a row that the statement owns, outside the frame's blocks, whatever it holds -/
def Wr (w : World) (S : Nat → Prop) (v : Value) (n : Nat) : Prop := ∃ l : List V, l.length = n ∧ OwnV w v l ∧ ∀ b, v.ownBlock = some b → ¬ S b
section
variable {w0 w w' : World} {S S' : Nat → Prop} {g : Nat} {F : Fr} {v : Value} {n b : Nat}
theorem Wr.below (h : Wr w S v n) (hb : Below w.heap.size w w') : Wr w' S v n := by
  obtain ⟨l, h1, h2, h3⟩ := h
  exact ⟨l, h1, Own.new h2 hb, h3⟩
theorem Wr.kept (h : Wr w S v n) (k : Kept S w S' w') : Wr w' S' v n := by
  obtain ⟨l, h1, h2, h3⟩ := h
  exact ⟨l, h1, Own.mod h2 k.mod h3, fun b e => k.out (Own.lt h2 e) (h3 b e)⟩
theorem Wr.touch (h : Wr w S v n) (hm : Mod (fun i => i = b) w w') (hb : v.ownBlock ≠ some b) : Wr w' S v n := by
  obtain ⟨l, h1, h2, h3⟩ := h
  exact ⟨l, h1, Own.mod h2 hm (fun i e (e' : i = b) => hb (by rw [← e']; exact e)), h3⟩
theorem Env.touch (E : Env w0 w S g F) (hm : Mod (fun i => i = b) w w') (hS : ¬ S b) (hw : w0.heap.size ≤ b) : Env w0 w' S g F :=
  ⟨E.fr.mod hm (fun i hs (e : i = b) => hS (by rw [← e]; exact hs)), E.own, E.bel.trans (hm.below E.bel.size fun i hi (e : i = b) => by omega)⟩
theorem RowR.touch {A : Option Addr} {m c : Nat} {xs : List V} (h : RowR w S A m c xs) (hm : Mod (fun i => i = b) w w') (hA : ∀ i o, A = some ⟨i, o, none⟩ → 0 < m → i ≠ b) : RowR w' S A m c xs := by
  refine ⟨⟨h.rd.1, h.rd.2.1, h.rd.2.2.1, h.rd.2.2.2.1, fun hn => ?_⟩, fun i o e hn => ⟨Nat.lt_of_lt_of_le (h.out i o e hn).1 hm.size, (h.out i o e hn).2⟩⟩
  obtain ⟨i, o, e, hb, hc⟩ := h.rd.2.2.2.2 hn
  exact ⟨i, o, e, Nat.lt_of_lt_of_le hb hm.size, fun j u hu => (hm.cell (p := ⟨i, o + j, none⟩) hb (hA i o e hn)).trans (hc j u hu)⟩
theorem Env.rebase (E : Env w0 w S g F) (hb : Below w'.heap.size w' w0) : Env w' w S g F :=
  ⟨E.fr, fun i hi => Nat.le_trans hb.size (E.own i hi), hb.trans (E.bel.mono hb.size)⟩
/-- element i of a row that one owns is stored -/
theorem Wr.at_ (h : Wr w S v n) {i : Nat} (hi : i < n) : ∃ b c, v = .slice (some ⟨b, 0, none⟩) n c ∧ b < w.heap.size ∧ ¬ S b ∧ (∃ x : V, w.cell? ⟨b, i * 3, none⟩ = some (.int .i64 x.k) ∧ w.cell? ⟨b, i * 3 + 1, none⟩ = some (.int .i64 x.n) ∧ w.cell? ⟨b, i * 3 + 2, none⟩ = some (.string x.s)) ∧ ∀ o, w.frozen? ⟨b, o, none⟩ = false := by
  obtain ⟨l, h1, h2, h3⟩ := h
  obtain ⟨A, m, c, rfl, hr, _⟩ := h2.rd
  obtain rfl : l.length = m := hr.1
  obtain ⟨b, rfl, hb, c0, c1, c2, hf⟩ := OwnV.at_ h2 (i := i) (by omega)
  exact ⟨b, c, by rw [h1], hb, h3 b rfl, ⟨_, c0, c1, c2⟩, hf⟩
theorem Wr.store {c : Nat} (h : Wr w S (.slice (some ⟨b, 0, none⟩) n c) n) {i : Nat} (hi : i < n) (x : V) :
    Wr (((w.setCell ⟨b, i * 3, none⟩ (.int .i64 x.k)).setCell ⟨b, i * 3 + 1, none⟩ (.int .i64 x.n)).setCell ⟨b, i * 3 + 2, none⟩ (.string x.s)) S (.slice (some ⟨b, 0, none⟩) n c) n := by
  obtain ⟨l, h1, h2, h3⟩ := h
  exact ⟨l.set i x, by rw [List.length_set]; exact h1, h2.store (by omega) x, h3⟩
theorem mod3 (w : World) (b i j k : Nat) (u1 u2 u3 : Value) : Mod (fun q => q = b) w (((w.setCell ⟨b, i, none⟩ u1).setCell ⟨b, j, none⟩ u2).setCell ⟨b, k, none⟩ u3) :=
  (((Mod.refl (fun q => q = b) w).setCell (p := ⟨b, i, none⟩) (fun _ => rfl) _).setCell (p := ⟨b, j, none⟩) (fun _ => rfl) _).setCell (p := ⟨b, k, none⟩) (fun _ => rfl) _
end
theorem Wr.len {w : World} {S : Nat → Prop} {A : Option Addr} {m c n : Nat} (h : Wr w S (.slice A m c) n) : m = n := by
  obtain ⟨l, h1, h2, _⟩ := h
  obtain ⟨_, _, _, e, hr, _⟩ := h2.rd
  injection e with _ e _
  rw [e, ← hr.1, h1]
theorem row_wr {w : World} {A : Option Addr} {n c : Nat} {xs : List V} (hA : RdV w A n c xs) :
    Calls Try.prog 14 #[.slice A n c] w fun e w' => ∃ A' c', e = .returned (.slice A' (cutRow xs).length c') ∧ OwnV w' (.slice A' (cutRow xs).length c') (cutRow xs) ∧ (∀ b, (Value.slice A' (cutRow xs).length c').ownBlock = some b → w.heap.size ≤ b ∧ b < w'.heap.size) ∧ Below w.heap.size w w' :=
  (row_any A n c xs w hA).mono fun _ w' ⟨v, he, hv, hn, hb⟩ => by
    obtain ⟨A', m, c', rfl, hr, _⟩ := hv.rd
    obtain rfl : (cutRow xs).length = m := hr.1
    exact ⟨A', c', he, hv, fun b e => ⟨hn b e, Own.lt hv e⟩, hb⟩
theorem held_wr {w0 w : World} {S : Nat → Prop} {g : Nat} {F : Fr} (E : Env w0 w S g F) (hlen : F.locals.length + F.cells.length + F.values.length ≤ 1000000) :
    Calls Try.prog 27 #[.pointer (some ⟨g, 0, none⟩)] w fun e w' => ∃ A n c, e = .returned (.slice A n c) ∧ OwnV w' (.slice A n c) F.held ∧ F.held.length = n ∧ (∀ b, (Value.slice A n c).ownBlock = some b → w.heap.size ≤ b ∧ b < w'.heap.size) ∧ Env w0 w' S g F ∧ Below w.heap.size w w' :=
  (held_any g F S w E.fr hlen).mono fun _ w' ⟨v, he, hv⟩ => by
    obtain ⟨A, n, c, rfl, hr, _⟩ := hv.own.rd
    exact ⟨A, n, c, he, hv.own, hr.1, fun b e => ⟨hv.new b e, Own.lt hv.own e⟩, E.new hv.bel, hv.bel⟩
/-- all that FrameOwn keeps while it writes -/
structure OwnSt (w : World) (x : V) (S : Nat → Prop) (g : Nat) (F : Fr) (vA vC vV vH : Value) (n m : Nat) (AW : Option Addr) (nW cW : Nat) (lW : List V) (wr : World) : Prop where
  env : Env w wr S g F
  a : Wr wr S vA n
  c : Wr wr S vC n
  v : Wr wr S vV n
  h : Wr wr S vH m
  wnt : RowR wr S AW nW cW lW
  bx : Blk wr w.heap.size 44 #[.int .i64 x.k, .int .i64 x.n, .string x.s]
/-- blocks that differ -/
structure OwnNe (w : World) (vA vC vV vH : Value) (AW : Option Addr) (nW : Nat) : Prop where
  ac : ∀ b, vA.ownBlock = some b → vC.ownBlock ≠ some b
  av : ∀ b, vA.ownBlock = some b → vV.ownBlock ≠ some b
  ah : ∀ b, vA.ownBlock = some b → vH.ownBlock ≠ some b
  cv : ∀ b, vC.ownBlock = some b → vV.ownBlock ≠ some b
  ch : ∀ b, vC.ownBlock = some b → vH.ownBlock ≠ some b
  vh : ∀ b, vV.ownBlock = some b → vH.ownBlock ≠ some b
  aw : ∀ b o, AW = some ⟨b, o, none⟩ → 0 < nW → vA.ownBlock ≠ some b
  cw : ∀ b o, AW = some ⟨b, o, none⟩ → 0 < nW → vC.ownBlock ≠ some b
  vw : ∀ b o, AW = some ⟨b, o, none⟩ → 0 < nW → vV.ownBlock ≠ some b
  hw : ∀ b o, AW = some ⟨b, o, none⟩ → 0 < nW → vH.ownBlock ≠ some b
  lo : ∀ b, vA.ownBlock = some b ∨ vC.ownBlock = some b ∨ vV.ownBlock = some b ∨ vH.ownBlock = some b → w.heap.size < b
section
variable {w wr : World} {x : V} {S : Nat → Prop} {g : Nat} {F : Fr} {vA vC vV vH : Value} {n m : Nat} {AW : Option Addr} {nW cW : Nat} {lW : List V} {b c i : Nat}
theorem OwnSt.storeA (s : OwnSt w x S g F (.slice (some ⟨b, 0, none⟩) n c) vC vV vH n m AW nW cW lW wr) (d : OwnNe w (.slice (some ⟨b, 0, none⟩) n c) vC vV vH AW nW) (hb : ¬ S b) (hi : i < n) (y : V) :
    OwnSt w x S g F (.slice (some ⟨b, 0, none⟩) n c) vC vV vH n m AW nW cW lW (((wr.setCell ⟨b, i * 3, none⟩ (.int .i64 y.k)).setCell ⟨b, i * 3 + 1, none⟩ (.int .i64 y.n)).setCell ⟨b, i * 3 + 2, none⟩ (.string y.s)) := by
  have hm := mod3 wr b (i * 3) (i * 3 + 1) (i * 3 + 2) (.int .i64 y.k) (.int .i64 y.n) (.string y.s)
  have hl := d.lo b (.inl rfl)
  exact ⟨s.env.touch hm hb (by omega), s.a.store hi y, s.c.touch hm (d.ac b rfl), s.v.touch hm (d.av b rfl), s.h.touch hm (d.ah b rfl), s.wnt.touch hm (fun j o e hn e' => d.aw j o e hn (by rw [e']; rfl)), s.bx.mod hm (by omega)⟩
theorem OwnSt.storeC (s : OwnSt w x S g F vA (.slice (some ⟨b, 0, none⟩) n c) vV vH n m AW nW cW lW wr) (d : OwnNe w vA (.slice (some ⟨b, 0, none⟩) n c) vV vH AW nW) (hb : ¬ S b) (hi : i < n) (y : V) :
    OwnSt w x S g F vA (.slice (some ⟨b, 0, none⟩) n c) vV vH n m AW nW cW lW (((wr.setCell ⟨b, i * 3, none⟩ (.int .i64 y.k)).setCell ⟨b, i * 3 + 1, none⟩ (.int .i64 y.n)).setCell ⟨b, i * 3 + 2, none⟩ (.string y.s)) := by
  have hm := mod3 wr b (i * 3) (i * 3 + 1) (i * 3 + 2) (.int .i64 y.k) (.int .i64 y.n) (.string y.s)
  have hl := d.lo b (.inr (.inl rfl))
  exact ⟨s.env.touch hm hb (by omega), s.a.touch hm (fun e => d.ac b e rfl), s.c.store hi y, s.v.touch hm (d.cv b rfl), s.h.touch hm (d.ch b rfl), s.wnt.touch hm (fun j o e hn e' => d.cw j o e hn (by rw [e']; rfl)), s.bx.mod hm (by omega)⟩
theorem OwnSt.storeV (s : OwnSt w x S g F vA vC (.slice (some ⟨b, 0, none⟩) n c) vH n m AW nW cW lW wr) (d : OwnNe w vA vC (.slice (some ⟨b, 0, none⟩) n c) vH AW nW) (hb : ¬ S b) (hi : i < n) (y : V) :
    OwnSt w x S g F vA vC (.slice (some ⟨b, 0, none⟩) n c) vH n m AW nW cW lW (((wr.setCell ⟨b, i * 3, none⟩ (.int .i64 y.k)).setCell ⟨b, i * 3 + 1, none⟩ (.int .i64 y.n)).setCell ⟨b, i * 3 + 2, none⟩ (.string y.s)) := by
  have hm := mod3 wr b (i * 3) (i * 3 + 1) (i * 3 + 2) (.int .i64 y.k) (.int .i64 y.n) (.string y.s)
  have hl := d.lo b (.inr (.inr (.inl rfl)))
  exact ⟨s.env.touch hm hb (by omega), s.a.touch hm (fun e => d.av b e rfl), s.c.touch hm (fun e => d.cv b e rfl), s.v.store hi y, s.h.touch hm (d.vh b rfl), s.wnt.touch hm (fun j o e hn e' => d.vw j o e hn (by rw [e']; rfl)), s.bx.mod hm (by omega)⟩
theorem OwnSt.storeH (s : OwnSt w x S g F vA vC vV (.slice (some ⟨b, 0, none⟩) m c) n m AW nW cW lW wr) (d : OwnNe w vA vC vV (.slice (some ⟨b, 0, none⟩) m c) AW nW) (hb : ¬ S b) (hi : i < m) (y : V) :
    OwnSt w x S g F vA vC vV (.slice (some ⟨b, 0, none⟩) m c) n m AW nW cW lW (((wr.setCell ⟨b, i * 3, none⟩ (.int .i64 y.k)).setCell ⟨b, i * 3 + 1, none⟩ (.int .i64 y.n)).setCell ⟨b, i * 3 + 2, none⟩ (.string y.s)) := by
  have hm := mod3 wr b (i * 3) (i * 3 + 1) (i * 3 + 2) (.int .i64 y.k) (.int .i64 y.n) (.string y.s)
  have hl := d.lo b (.inr (.inr (.inr rfl)))
  exact ⟨s.env.touch hm hb (by omega), s.a.touch hm (fun e => d.ah b e rfl), s.c.touch hm (fun e => d.ch b e rfl), s.v.touch hm (fun e => d.vh b e rfl), s.h.store hi y, s.wnt.touch hm (fun j o e hn e' => d.hw j o e hn (by rw [e']; rfl)), s.bx.mod hm (by omega)⟩
end
end Go.Proofs.Ythdkloojhenlkaa
