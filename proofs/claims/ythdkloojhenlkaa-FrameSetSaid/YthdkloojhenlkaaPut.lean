/- Fields of both frames, set by others. -/
import Derived.Test.YthdkloojhenlkaaPly
namespace Go.Proofs.Ythdkloojhenlkaa
open Go.RowKit


theorem set_locals_new {T TB : TypeId} {w w1 : World} {g : Nat} {F : Fr} {L B C X K X' : Value} {xs : List V} (hT : T ≠ 44) (hT2 : T ≠ 4) (hT3 : T ≠ TB) (h : FrAt T TB w g F L B C X K) (hn : NewRow w w1 X' xs) :
    FrAt T TB (w1.setCell ⟨g, 2, none⟩ X') g { F with locals := xs } X' B C X K := by
  have hg := h.blk.lt
  have hk : ∀ i, i ≠ g → i < w.heap.size → (w1.setCell ⟨g, 2, none⟩ X').heap[i]? = w.heap[i]? := fun i h1 h2 => (Below.heap_setCell w1 _ _ _ h1).trans (hn.bel.block i h2)
  have hX : ∀ i, X'.ownBlock = some i → w.heap.size ≤ i := hn.new
  refine ⟨(h.blk.below hn.bel hg).set_ 2 X', hn.own.keep fun i e => Below.heap_setCell _ _ _ _ ?_, h.b.keep fun i e => hk i ?_ (h.b.lt e), h.c.keep fun i e => hk i ?_ (h.c.lt e), h.x.keep fun i e => hk i ?_ (h.x.lt e), h.k.keep fun i e => hk i ?_ (h.k.lt e), fun i e e' => by have := hX _ e; have := h.c.lt e'; omega, fun i e e' => by have := hX _ e; have := h.x.lt e'; omega, h.cx⟩
  · rintro rfl; have := hX _ e; omega
  · rintro rfl; exact own_blk_ne h.b h.blk (Ne.symm hT2) e
  · rintro rfl; exact own_blk_ne h.c h.blk (Ne.symm hT) e
  · rintro rfl; exact own_blk_ne h.x h.blk (Ne.symm hT) e
  · rintro rfl; exact own_blk_ne h.k h.blk (Ne.symm hT3) e
theorem set_cells_new {T TB : TypeId} {w w1 : World} {g : Nat} {F : Fr} {L B C X K X' : Value} {xs : List V} (hT : T ≠ 44) (hT2 : T ≠ 4) (hT3 : T ≠ TB) (h : FrAt T TB w g F L B C X K) (hn : NewRow w w1 X' xs) :
    FrAt T TB (w1.setCell ⟨g, 4, none⟩ X') g { F with cells := xs } L B X' X K := by
  have hg := h.blk.lt
  have hk : ∀ i, i ≠ g → i < w.heap.size → (w1.setCell ⟨g, 4, none⟩ X').heap[i]? = w.heap[i]? := fun i h1 h2 => (Below.heap_setCell w1 _ _ _ h1).trans (hn.bel.block i h2)
  have hX : ∀ i, X'.ownBlock = some i → w.heap.size ≤ i := hn.new
  refine ⟨(h.blk.below hn.bel hg).set_ 4 X', h.l.keep fun i e => hk i ?_ (h.l.lt e), h.b.keep fun i e => hk i ?_ (h.b.lt e), hn.own.keep fun i e => Below.heap_setCell _ _ _ _ ?_, h.x.keep fun i e => hk i ?_ (h.x.lt e), h.k.keep fun i e => hk i ?_ (h.k.lt e), fun i e e' => by have := hX _ e'; have := h.l.lt e; omega, h.lx, fun i e e' => by have := hX _ e; have := h.x.lt e'; omega⟩
  · rintro rfl; exact own_blk_ne h.l h.blk (Ne.symm hT) e
  · rintro rfl; exact own_blk_ne h.b h.blk (Ne.symm hT2) e
  · rintro rfl; have := hX _ e; omega
  · rintro rfl; exact own_blk_ne h.x h.blk (Ne.symm hT) e
  · rintro rfl; exact own_blk_ne h.k h.blk (Ne.symm hT3) e
theorem set_bound_new {T TB : TypeId} {w w1 : World} {g : Nat} {F : Fr} {L B C X K X' : Value} {xs : List Bool} (hT : T ≠ 44) (_hT2 : T ≠ 4) (hT3 : T ≠ TB) (h : FrAt T TB w g F L B C X K) (hn : OwnB w1 X' xs) (hX : ∀ i, X'.ownBlock = some i → w.heap.size ≤ i) (hb : Below w.heap.size w w1) :
    FrAt T TB (w1.setCell ⟨g, 3, none⟩ X') g { F with bound := xs } L X' C X K := by
  have hg := h.blk.lt
  have hk : ∀ i, i ≠ g → i < w.heap.size → (w1.setCell ⟨g, 3, none⟩ X').heap[i]? = w.heap[i]? := fun i h1 h2 => (Below.heap_setCell w1 _ _ _ h1).trans (hb.block i h2)
  refine ⟨(h.blk.below hb hg).set_ 3 X', h.l.keep fun i e => hk i ?_ (h.l.lt e), hn.keep fun i e => Below.heap_setCell _ _ _ _ ?_, h.c.keep fun i e => hk i ?_ (h.c.lt e), h.x.keep fun i e => hk i ?_ (h.x.lt e), h.k.keep fun i e => hk i ?_ (h.k.lt e), h.lc, h.lx, h.cx⟩
  · rintro rfl; exact own_blk_ne h.l h.blk (Ne.symm hT) e
  · rintro rfl; have := hX _ e; omega
  · rintro rfl; exact own_blk_ne h.c h.blk (Ne.symm hT) e
  · rintro rfl; exact own_blk_ne h.x h.blk (Ne.symm hT) e
  · rintro rfl; exact own_blk_ne h.k h.blk (Ne.symm hT3) e
theorem foot_l2 {S : Nat → Prop} {w : World} {g : Nat} {L B C X K X' : Value} (h : ∀ i, foot g L B C X K i → S i) (hb : ∀ i, X'.ownBlock = some i → w.heap.size ≤ i) : ∀ i, foot g X' B C X K i → S i ∨ w.heap.size ≤ i := by
  rintro i (e | e | e | e | e | e)
  · exact .inl (h i (.inl e))
  · exact .inr (hb i e)
  · exact .inl (h i (.inr (.inr (.inl e))))
  · exact .inl (h i (.inr (.inr (.inr (.inl e)))))
  · exact .inl (h i (.inr (.inr (.inr (.inr (.inl e))))))
  · exact .inl (h i (.inr (.inr (.inr (.inr (.inr e))))))
theorem foot_b2 {S : Nat → Prop} {w : World} {g : Nat} {L B C X K X' : Value} (h : ∀ i, foot g L B C X K i → S i) (hb : ∀ i, X'.ownBlock = some i → w.heap.size ≤ i) : ∀ i, foot g L X' C X K i → S i ∨ w.heap.size ≤ i := by
  rintro i (e | e | e | e | e | e)
  · exact .inl (h i (.inl e))
  · exact .inl (h i (.inr (.inl e)))
  · exact .inr (hb i e)
  · exact .inl (h i (.inr (.inr (.inr (.inl e)))))
  · exact .inl (h i (.inr (.inr (.inr (.inr (.inl e))))))
  · exact .inl (h i (.inr (.inr (.inr (.inr (.inr e))))))
theorem foot_c2 {S : Nat → Prop} {w : World} {g : Nat} {L B C X K X' : Value} (h : ∀ i, foot g L B C X K i → S i) (hb : ∀ i, X'.ownBlock = some i → w.heap.size ≤ i) : ∀ i, foot g L B X' X K i → S i ∨ w.heap.size ≤ i := by
  rintro i (e | e | e | e | e | e)
  · exact .inl (h i (.inl e))
  · exact .inl (h i (.inr (.inl e)))
  · exact .inl (h i (.inr (.inr (.inl e))))
  · exact .inr (hb i e)
  · exact .inl (h i (.inr (.inr (.inr (.inr (.inl e))))))
  · exact .inl (h i (.inr (.inr (.inr (.inr (.inr e))))))

section
variable {w0 w w1 : World} {S S' : Nat → Prop} {g y : Nat} {F F' : Fr} {X : Value} {xs : List V} {bs : List Bool}
theorem Two.localsF (t : Two w0 w S S' g y F F') (hn : NewRow w w1 X xs) : Next w0 w S S' g y { F with locals := xs } F' (w1.setCell ⟨g, 2, none⟩ X) := by
  obtain ⟨L, B, C, X0, K, h, hS, hSl⟩ := t.f
  have hm : Mod S w (w1.setCell ⟨g, 2, none⟩ X) := (Mod.new hn.bel).setCell (fun _ => hS g (.inl rfl)) _
  exact t.nextF (IsFr.of (set_locals_new (by decide) (by decide) (by decide) h hn) hm.size hSl (foot_l2 hS hn.new)) hm
theorem Two.cellsF (t : Two w0 w S S' g y F F') (hn : NewRow w w1 X xs) : Next w0 w S S' g y { F with cells := xs } F' (w1.setCell ⟨g, 4, none⟩ X) := by
  obtain ⟨L, B, C, X0, K, h, hS, hSl⟩ := t.f
  have hm : Mod S w (w1.setCell ⟨g, 4, none⟩ X) := (Mod.new hn.bel).setCell (fun _ => hS g (.inl rfl)) _
  exact t.nextF (IsFr.of (set_cells_new (by decide) (by decide) (by decide) h hn) hm.size hSl (foot_c2 hS hn.new)) hm
theorem Two.valuesF (t : Two w0 w S S' g y F F') (hn : NewRow w w1 X xs) : Next w0 w S S' g y { F with values := xs } F' (w1.setCell ⟨g, 8, none⟩ X) := by
  obtain ⟨L, B, C, X0, K, h, hS, hSl⟩ := t.f
  have hm : Mod S w (w1.setCell ⟨g, 8, none⟩ X) := (Mod.new hn.bel).setCell (fun _ => hS g (.inl rfl)) _
  exact t.nextF (IsFr.of (set_values_new (by decide) (by decide) (by decide) h hn) hm.size hSl (foot_new hS hn.new)) hm
theorem Two.boundF (t : Two w0 w S S' g y F F') (hn : OwnB w1 X bs) (hX : ∀ i, X.ownBlock = some i → w.heap.size ≤ i) (hb : Below w.heap.size w w1) : Next w0 w S S' g y { F with bound := bs } F' (w1.setCell ⟨g, 3, none⟩ X) := by
  obtain ⟨L, B, C, X0, K, h, hS, hSl⟩ := t.f
  have hm : Mod S w (w1.setCell ⟨g, 3, none⟩ X) := (Mod.new hb).setCell (fun _ => hS g (.inl rfl)) _
  exact t.nextF (IsFr.of (set_bound_new (by decide) (by decide) (by decide) h hn hX hb) hm.size hSl (foot_b2 hS hX)) hm
theorem Two.spaceF (t : Two w0 w S S' g y F F') (x : V) : Next w0 w S S' g y { F with space := x } F' (((w.setCell ⟨g, 5, none⟩ (.int .i64 x.k)).setCell ⟨g, 6, none⟩ (.int .i64 x.n)).setCell ⟨g, 7, none⟩ (.string x.s)) := by
  obtain ⟨L, B, C, X0, K, h, hS, hSl⟩ := t.f
  have hg := hS g (.inl rfl)
  have hm : Mod S w (((w.setCell ⟨g, 5, none⟩ (.int .i64 x.k)).setCell ⟨g, 6, none⟩ (.int .i64 x.n)).setCell ⟨g, 7, none⟩ (.string x.s)) := (((Mod.refl _ w).setCell (fun _ => hg) _).setCell (fun _ => hg) _).setCell (fun _ => hg) _
  exact t.nextF (IsFr.of (set_space (by decide) (by decide) (by decide) h x) hm.size hSl fun i hi => .inl (hS i hi)) hm
theorem Two.keepF (t : Two w0 w S S' g y F F') (x : V) : Next w0 w S S' g y { F with keep := x } F' (((w.setCell ⟨g, 11, none⟩ (.int .i64 x.k)).setCell ⟨g, 12, none⟩ (.int .i64 x.n)).setCell ⟨g, 13, none⟩ (.string x.s)) := by
  obtain ⟨L, B, C, X0, K, h, hS, hSl⟩ := t.f
  have hg := hS g (.inl rfl)
  have hm : Mod S w (((w.setCell ⟨g, 11, none⟩ (.int .i64 x.k)).setCell ⟨g, 12, none⟩ (.int .i64 x.n)).setCell ⟨g, 13, none⟩ (.string x.s)) := (((Mod.refl _ w).setCell (fun _ => hg) _).setCell (fun _ => hg) _).setCell (fun _ => hg) _
  exact t.nextF (IsFr.of (set_keep (by decide) (by decide) (by decide) h x) hm.size hSl fun i hi => .inl (hS i hi)) hm
/-- the mark of one local is stored -/
theorem Two.markF (t : Two w0 w S S' g y F F') {j : Nat} (hj : j < F.bound.length) (v : Bool) : ∃ b n c, w.cell? ⟨g, 3, none⟩ = some (.slice (some ⟨b, 0, none⟩) n c) ∧ F.bound.length = n ∧ n ≤ c ∧ S b ∧ b ≠ g ∧ b < w.heap.size ∧ w.cell? ⟨b, j, none⟩ = some (.bool F.bound[j]) ∧ w.frozen? ⟨b, j, none⟩ = false ∧ Next w0 w S S' g y { F with bound := F.bound.set j v } F' ((w.setCell ⟨b, j, none⟩ (.bool v)).drew) := by
  obtain ⟨L, B, C, X0, K, h, hS, hSl⟩ := t.f
  obtain ⟨A, n, c, rfl, hr, _⟩ := h.b.rd
  obtain ⟨b, rfl, hb, hc, hz⟩ := h.b.at_ hj
  have hsb := hS b (.inr (.inr (.inl rfl)))
  have hm : Mod S w ((w.setCell ⟨b, j, none⟩ (.bool v)).drew) := ((Mod.refl _ w).setCell (fun _ => hsb) _).drew
  have h2 := store_bound (by decide) (by decide) h hj v
  exact ⟨b, n, c, h.blk.cell 3, hr.1, hr.2.1, hsb, fun e => own_blk_ne h.b h.blk (by decide) (by rw [← e]; rfl), hb, hc, hz j, t.nextF (IsFr.of (h2.keep (w' := (w.setCell ⟨b, j, none⟩ (.bool v)).drew) fun _ _ => rfl) hm.size hSl fun i hi => .inl (hS i hi)) hm⟩
/-- the row of blocks, and what an append onto it leaves -/
theorem Two.blkF (t : Two w0 w S S' g y F F') : ∃ A n c, w.cell? ⟨g, 9, none⟩ = some (.slice A n c) ∧ w.frozen? ⟨g, 9, none⟩ = false ∧ OwnK 85 w (.slice A n c) F.blocks ∧
    (∀ w1 w2, Below w.heap.size w w1 → w1.grownBy w2 (Value.slice A n c).ownBlock → w2.cell? ⟨g, 9, none⟩ = some (.slice A n c) ∧ w2.frozen? ⟨g, 9, none⟩ = false ∧ ∀ p : Addr, p.block < w0.heap.size → w2.cell? p = w.cell? p) ∧
    (∀ w1 w2 K' bs, Below w.heap.size w w1 → OwnK 85 w2 K' bs → w1.grownBy w2 (Value.slice A n c).ownBlock → (K'.ownBlock = (Value.slice A n c).ownBlock ∨ K'.ownBlock = some w1.heap.size) → Next w0 w S S' g y { F with blocks := bs } F' (w2.setCell ⟨g, 9, none⟩ K')) := by
  obtain ⟨L, B, C, X0, K, h, hS, hSl⟩ := t.f
  obtain ⟨A, n, c, rfl, _, _⟩ := h.k.rd
  have hgk : (Value.slice A n c).ownBlock ≠ some g := own_blk_ne h.k h.blk (by decide)
  refine ⟨A, n, c, h.blk.cell 9, h.blk.frozen 9, h.k, fun w1 w2 hb hg => ?_, fun w1 w2 K' bs hb hK hg ha => ?_⟩
  · have hb2 := (h.blk.below hb h.blk.lt).grown hg (Ne.symm hgk)
    refine ⟨hb2.cell 9, hb2.frozen 9, fun p hp => ?_⟩
    have hz := t.bel.size
    have hz1 := hb.size
    refine (World.cell?_of_block (hg.block p.block (by omega) fun e => ?_)).trans (World.cell?_of_block (hb.block p.block (by omega)))
    have := t.own p.block (hS p.block (.inr (.inr (.inr (.inr (.inr e.symm))))))
    omega
  · have h1 : FrAt 53 85 w1 g F L B C X0 (.slice A n c) := h.keep fun i hi => hb.block i (h.lt hi)
    have hm : Mod S w (w2.setCell ⟨g, 9, none⟩ K') := ((Mod.new hb).grown hg fun k e _ => hS k (.inr (.inr (.inr (.inr (.inr e)))))).setCell (fun _ => hS g (.inl rfl)) _
    refine t.nextF (IsFr.of (set_blocks (by decide) (by decide) (by decide) (by decide) (by decide) h1 hK hg ha) hm.size hSl (foot_k2 hS fun i e => ?_)) hm
    rcases ha with e' | e' <;> rw [e'] at e
    · exact .inl e
    · have := hb.size
      exact .inr (by simp at e; omega)
/-- the frame's own block -/
theorem Two.ownF (t : Two w0 w S S' g y F F') : ∃ L B C X K, Blk w g 53 (F.row L B C X K) ∧ S g := by
  obtain ⟨L, B, C, X0, K, h, hS, hSl⟩ := t.f
  exact ⟨L, B, C, X0, K, h.blk, hS g (.inl rfl)⟩
theorem Two.rowF (t : Two w0 w S S' g y F F') : ∃ A n c, w.cell? ⟨g, 2, none⟩ = some (.slice A n c) ∧ RdV w A n c F.locals := by
  obtain ⟨L, B, C, X0, K, h, hS, hSl⟩ := t.f
  obtain ⟨A, n, c, rfl, hr, _⟩ := h.l.rd
  exact ⟨A, n, c, h.blk.cell 2, hr⟩
theorem Two.localsR (t : Two w0 w S S' g y F F') (hn : NewRow w w1 X xs) : Next w0 w S S' g y F { F' with locals := xs } (w1.setCell ⟨y, 2, none⟩ X) := by
  obtain ⟨L, B, C, X0, K, h, hS, hSl⟩ := t.r
  have hm : Mod S' w (w1.setCell ⟨y, 2, none⟩ X) := (Mod.new hn.bel).setCell (fun _ => hS y (.inl rfl)) _
  exact t.nextR (IsFr.of (set_locals_new (by decide) (by decide) (by decide) h hn) hm.size hSl (foot_l2 hS hn.new)) hm
theorem Two.cellsR (t : Two w0 w S S' g y F F') (hn : NewRow w w1 X xs) : Next w0 w S S' g y F { F' with cells := xs } (w1.setCell ⟨y, 4, none⟩ X) := by
  obtain ⟨L, B, C, X0, K, h, hS, hSl⟩ := t.r
  have hm : Mod S' w (w1.setCell ⟨y, 4, none⟩ X) := (Mod.new hn.bel).setCell (fun _ => hS y (.inl rfl)) _
  exact t.nextR (IsFr.of (set_cells_new (by decide) (by decide) (by decide) h hn) hm.size hSl (foot_c2 hS hn.new)) hm
theorem Two.valuesR (t : Two w0 w S S' g y F F') (hn : NewRow w w1 X xs) : Next w0 w S S' g y F { F' with values := xs } (w1.setCell ⟨y, 8, none⟩ X) := by
  obtain ⟨L, B, C, X0, K, h, hS, hSl⟩ := t.r
  have hm : Mod S' w (w1.setCell ⟨y, 8, none⟩ X) := (Mod.new hn.bel).setCell (fun _ => hS y (.inl rfl)) _
  exact t.nextR (IsFr.of (set_values_new (by decide) (by decide) (by decide) h hn) hm.size hSl (foot_new hS hn.new)) hm
theorem Two.boundR (t : Two w0 w S S' g y F F') (hn : OwnB w1 X bs) (hX : ∀ i, X.ownBlock = some i → w.heap.size ≤ i) (hb : Below w.heap.size w w1) : Next w0 w S S' g y F { F' with bound := bs } (w1.setCell ⟨y, 3, none⟩ X) := by
  obtain ⟨L, B, C, X0, K, h, hS, hSl⟩ := t.r
  have hm : Mod S' w (w1.setCell ⟨y, 3, none⟩ X) := (Mod.new hb).setCell (fun _ => hS y (.inl rfl)) _
  exact t.nextR (IsFr.of (set_bound_new (by decide) (by decide) (by decide) h hn hX hb) hm.size hSl (foot_b2 hS hX)) hm
theorem Two.spaceR (t : Two w0 w S S' g y F F') (x : V) : Next w0 w S S' g y F { F' with space := x } (((w.setCell ⟨y, 5, none⟩ (.int .i64 x.k)).setCell ⟨y, 6, none⟩ (.int .i64 x.n)).setCell ⟨y, 7, none⟩ (.string x.s)) := by
  obtain ⟨L, B, C, X0, K, h, hS, hSl⟩ := t.r
  have hg := hS y (.inl rfl)
  have hm : Mod S' w (((w.setCell ⟨y, 5, none⟩ (.int .i64 x.k)).setCell ⟨y, 6, none⟩ (.int .i64 x.n)).setCell ⟨y, 7, none⟩ (.string x.s)) := (((Mod.refl _ w).setCell (fun _ => hg) _).setCell (fun _ => hg) _).setCell (fun _ => hg) _
  exact t.nextR (IsFr.of (set_space (by decide) (by decide) (by decide) h x) hm.size hSl fun i hi => .inl (hS i hi)) hm
theorem Two.keepR (t : Two w0 w S S' g y F F') (x : V) : Next w0 w S S' g y F { F' with keep := x } (((w.setCell ⟨y, 11, none⟩ (.int .i64 x.k)).setCell ⟨y, 12, none⟩ (.int .i64 x.n)).setCell ⟨y, 13, none⟩ (.string x.s)) := by
  obtain ⟨L, B, C, X0, K, h, hS, hSl⟩ := t.r
  have hg := hS y (.inl rfl)
  have hm : Mod S' w (((w.setCell ⟨y, 11, none⟩ (.int .i64 x.k)).setCell ⟨y, 12, none⟩ (.int .i64 x.n)).setCell ⟨y, 13, none⟩ (.string x.s)) := (((Mod.refl _ w).setCell (fun _ => hg) _).setCell (fun _ => hg) _).setCell (fun _ => hg) _
  exact t.nextR (IsFr.of (set_keep (by decide) (by decide) (by decide) h x) hm.size hSl fun i hi => .inl (hS i hi)) hm
/-- the mark of one local is stored -/
theorem Two.markR (t : Two w0 w S S' g y F F') {j : Nat} (hj : j < F'.bound.length) (v : Bool) : ∃ b n c, w.cell? ⟨y, 3, none⟩ = some (.slice (some ⟨b, 0, none⟩) n c) ∧ F'.bound.length = n ∧ n ≤ c ∧ S' b ∧ b ≠ y ∧ b < w.heap.size ∧ w.cell? ⟨b, j, none⟩ = some (.bool F'.bound[j]) ∧ w.frozen? ⟨b, j, none⟩ = false ∧ Next w0 w S S' g y F { F' with bound := F'.bound.set j v } ((w.setCell ⟨b, j, none⟩ (.bool v)).drew) := by
  obtain ⟨L, B, C, X0, K, h, hS, hSl⟩ := t.r
  obtain ⟨A, n, c, rfl, hr, _⟩ := h.b.rd
  obtain ⟨b, rfl, hb, hc, hz⟩ := h.b.at_ hj
  have hsb := hS b (.inr (.inr (.inl rfl)))
  have hm : Mod S' w ((w.setCell ⟨b, j, none⟩ (.bool v)).drew) := ((Mod.refl _ w).setCell (fun _ => hsb) _).drew
  have h2 := store_bound (by decide) (by decide) h hj v
  exact ⟨b, n, c, h.blk.cell 3, hr.1, hr.2.1, hsb, fun e => own_blk_ne h.b h.blk (by decide) (by rw [← e]; rfl), hb, hc, hz j, t.nextR (IsFr.of (h2.keep (w' := (w.setCell ⟨b, j, none⟩ (.bool v)).drew) fun _ _ => rfl) hm.size hSl fun i hi => .inl (hS i hi)) hm⟩
/-- the row of blocks, and what an append onto it leaves -/
theorem Two.blkR (t : Two w0 w S S' g y F F') : ∃ A n c, w.cell? ⟨y, 9, none⟩ = some (.slice A n c) ∧ w.frozen? ⟨y, 9, none⟩ = false ∧ OwnK 86 w (.slice A n c) F'.blocks ∧
    (∀ w1 w2, Below w.heap.size w w1 → w1.grownBy w2 (Value.slice A n c).ownBlock → w2.cell? ⟨y, 9, none⟩ = some (.slice A n c) ∧ w2.frozen? ⟨y, 9, none⟩ = false ∧ ∀ p : Addr, p.block < w0.heap.size → w2.cell? p = w.cell? p) ∧
    (∀ w1 w2 K' bs, Below w.heap.size w w1 → OwnK 86 w2 K' bs → w1.grownBy w2 (Value.slice A n c).ownBlock → (K'.ownBlock = (Value.slice A n c).ownBlock ∨ K'.ownBlock = some w1.heap.size) → Next w0 w S S' g y F { F' with blocks := bs } (w2.setCell ⟨y, 9, none⟩ K')) := by
  obtain ⟨L, B, C, X0, K, h, hS, hSl⟩ := t.r
  obtain ⟨A, n, c, rfl, _, _⟩ := h.k.rd
  have hgk : (Value.slice A n c).ownBlock ≠ some y := own_blk_ne h.k h.blk (by decide)
  refine ⟨A, n, c, h.blk.cell 9, h.blk.frozen 9, h.k, fun w1 w2 hb hg => ?_, fun w1 w2 K' bs hb hK hg ha => ?_⟩
  · have hb2 := (h.blk.below hb h.blk.lt).grown hg (Ne.symm hgk)
    refine ⟨hb2.cell 9, hb2.frozen 9, fun p hp => ?_⟩
    have hz := t.bel.size
    have hz1 := hb.size
    refine (World.cell?_of_block (hg.block p.block (by omega) fun e => ?_)).trans (World.cell?_of_block (hb.block p.block (by omega)))
    have := t.own' p.block (hS p.block (.inr (.inr (.inr (.inr (.inr e.symm))))))
    omega
  · have h1 : FrAt 82 86 w1 y F' L B C X0 (.slice A n c) := h.keep fun i hi => hb.block i (h.lt hi)
    have hm : Mod S' w (w2.setCell ⟨y, 9, none⟩ K') := ((Mod.new hb).grown hg fun k e _ => hS k (.inr (.inr (.inr (.inr (.inr e)))))).setCell (fun _ => hS y (.inl rfl)) _
    refine t.nextR (IsFr.of (set_blocks (by decide) (by decide) (by decide) (by decide) (by decide) h1 hK hg ha) hm.size hSl (foot_k2 hS fun i e => ?_)) hm
    rcases ha with e' | e' <;> rw [e'] at e
    · exact .inl e
    · have := hb.size
      exact .inr (by simp at e; omega)
/-- the frame's own block -/
theorem Two.ownR (t : Two w0 w S S' g y F F') : ∃ L B C X K, Blk w y 82 (F'.row L B C X K) ∧ S' y := by
  obtain ⟨L, B, C, X0, K, h, hS, hSl⟩ := t.r
  exact ⟨L, B, C, X0, K, h.blk, hS y (.inl rfl)⟩
theorem Two.rowR (t : Two w0 w S S' g y F F') : ∃ A n c, w.cell? ⟨y, 2, none⟩ = some (.slice A n c) ∧ RdV w A n c F'.locals := by
  obtain ⟨L, B, C, X0, K, h, hS, hSl⟩ := t.r
  obtain ⟨A, n, c, rfl, hr, _⟩ := h.l.rd
  exact ⟨A, n, c, h.blk.cell 2, hr⟩
end
/-- which locals of a row are bound, behind j rounds -/
def bK (xs : List V) (j : Nat) : List Bool := (List.range xs.length).map fun i => decide (i < j) && ((xs.getD i V.zero).k != 0)
theorem bK_length (xs : List V) (j : Nat) : (bK xs j).length = xs.length := by simp [bK]
theorem bK_zero (xs : List V) : bK xs 0 = List.replicate xs.length false := by
  apply List.ext_getElem <;> simp [bK]
theorem bK_set (xs : List V) (j : Nat) : (bK xs j).set j ((xs.getD j V.zero).k != 0) = bK xs (j + 1) := by
  apply List.ext_getElem
  · simp [bK]
  · intro i h1 h2
    rw [List.getElem_set]
    simp only [bK, List.getElem_map, List.getElem_range]
    by_cases hi : j = i
    · subst hi
      simp only [if_true, Nat.lt_succ_self, decide_true, Bool.true_and]
    · rw [if_neg hi]
      have : decide (i < j) = decide (i < j + 1) := by rw [decide_eq_decide]; omega
      rw [this]
end Go.Proofs.Ythdkloojhenlkaa
