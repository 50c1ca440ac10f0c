/- A frame and the reference's, side by side. -/
import Derived.Test.YthdkloojhenlkaaAlk
import Derived.Test.YthdkloojhenlkaaHel
import Derived.Test.YthdkloojhenlkaaRws
namespace Go.Proofs.Ythdkloojhenlkaa
open Go.RowKit

/-- both were made behind w0, and share nothing -/
structure Two (w0 w : World) (S S' : Nat → Prop) (g y : Nat) (F F' : Fr) : Prop where
  f : IsFr 53 85 w S g F
  r : IsFr 82 86 w S' y F'
  far : ∀ i, S i → ¬ S' i
  own : ∀ i, S i → w0.heap.size ≤ i
  own' : ∀ i, S' i → w0.heap.size ≤ i
  bel : Below w0.heap.size w0 w
section
variable {w0 w w' : World} {S S' T : Nat → Prop} {g y : Nat} {F F' G : Fr}
theorem Two.size (h : Two w0 w S S' g y F F') : w0.heap.size ≤ w.heap.size := h.bel.size
theorem Two.lt (h : Two w0 w S S' g y F F') {i : Nat} (hi : S i) : i < w.heap.size := h.f.bound i hi
theorem Two.lt' (h : Two w0 w S S' g y F F') {i : Nat} (hi : S' i) : i < w.heap.size := h.r.bound i hi
theorem Two.new (h : Two w0 w S S' g y F F') (hb : Below w.heap.size w w') : Two w0 w' S S' g y F F' := ⟨h.f.new hb, h.r.new hb, h.far, h.own, h.own', h.bel.trans (hb.mono h.bel.size)⟩
theorem Two.stepF (h : Two w0 w S S' g y F F') (h1 : IsFr 53 85 w' T g G) (hm : Mod S w w') (hT : ∀ i, T i → S i ∨ w.heap.size ≤ i) : Two w0 w' T S' g y G F' := by
  refine ⟨h1, h.r.mod hm fun i hi hs => h.far i hs hi, fun i hi hs => ?_, fun i hi => ?_, h.own', h.bel.trans (hm.below h.bel.size fun i hi hS => by have := h.own i hS; omega)⟩
  · rcases hT i hi with h' | h'
    · exact h.far i h' hs
    · have := h.lt' hs; omega
  · rcases hT i hi with h' | h'
    · exact h.own i h'
    · have := h.size; omega
theorem Two.stepR (h : Two w0 w S S' g y F F') (h1 : IsFr 82 86 w' T y G) (hm : Mod S' w w') (hT : ∀ i, T i → S' i ∨ w.heap.size ≤ i) : Two w0 w' S T g y F G := by
  refine ⟨h.f.mod hm fun i hi hs => h.far i hi hs, h1, fun i hi hs => ?_, h.own, fun i hi => ?_, h.bel.trans (hm.below h.bel.size fun i hi hS => by have := h.own' i hS; omega)⟩
  · rcases hT i hs with h' | h'
    · exact h.far i hi h'
    · have := h.lt hi; omega
  · rcases hT i hi with h' | h'
    · exact h.own' i h'
    · have := h.size; omega
/-- what is in neither frame is as it was -/
structure Side (S S' : Nat → Prop) (w : World) (T T' : Nat → Prop) (w' : World) : Prop where
  size : w.heap.size ≤ w'.heap.size
  block : ∀ i, i < w.heap.size → ¬ S i → ¬ S' i → w'.heap[i]? = w.heap[i]?
  outT : ∀ i, i < w.heap.size → T i → S i
  outT' : ∀ i, i < w.heap.size → T' i → S' i
theorem Side.refl (S S' : Nat → Prop) (w : World) : Side S S' w S S' w := ⟨Nat.le_refl _, fun _ _ _ _ => rfl, fun _ _ h => h, fun _ _ h => h⟩
theorem Side.new (hb : Below w.heap.size w w') : Side S S' w S S' w' := ⟨hb.size, fun i h _ _ => hb.block i h, fun _ _ h => h, fun _ _ h => h⟩
theorem Side.stepF (hm : Mod S w w') (hT : ∀ i, T i → S i ∨ w.heap.size ≤ i) : Side S S' w T S' w' := ⟨hm.size, fun i h h1 _ => hm.block i h h1, fun i hi h => (hT i h).elim id fun h => by omega, fun _ _ h => h⟩
theorem Side.stepR (hm : Mod S' w w') (hT : ∀ i, T i → S' i ∨ w.heap.size ≤ i) : Side S S' w S T w' := ⟨hm.size, fun i h _ h1 => hm.block i h h1, fun _ _ h => h, fun i hi h => (hT i h).elim id fun h => by omega⟩
theorem Side.trans {a b c : World} {S S' T T' U U' : Nat → Prop} (h : Side S S' a T T' b) (k : Side T T' b U U' c) : Side S S' a U U' c :=
  ⟨Nat.le_trans h.size k.size, fun i hi h1 h2 => (k.block i (Nat.lt_of_lt_of_le hi h.size) (fun t => h1 (h.outT i hi t)) (fun t => h2 (h.outT' i hi t))).trans (h.block i hi h1 h2),
    fun i hi u => h.outT i hi (k.outT i (Nat.lt_of_lt_of_le hi h.size) u), fun i hi u => h.outT' i hi (k.outT' i (Nat.lt_of_lt_of_le hi h.size) u)⟩
/-- a block beside both frames -/
structure Bes (w : World) (S S' : Nat → Prop) (b : Nat) (t : TypeId) (cs : Array Value) : Prop where
  blk : Blk w b t cs
  out : ¬ S b
  out' : ¬ S' b
theorem Bes.side {w : World} {S S' T T' : Nat → Prop} {b : Nat} {t : TypeId} {cs : Array Value} (h : Bes w S S' b t cs) (k : Side S S' w T T' w') : Bes w' T T' b t cs :=
  ⟨h.blk.keep (k.block b h.blk.lt h.out h.out'), fun t => h.out (k.outT b h.blk.lt t), fun t => h.out' (k.outT' b h.blk.lt t)⟩
theorem Bes.of (h : Two w0 w S S' g y F F') {t : TypeId} {cs : Array Value} {b : Nat} (hb : b = w.heap.size) : Bes (w.alloc (.cells cs t)) S S' b t cs := by
  subst hb
  exact ⟨Blk.new w t cs, fun hs => by have := h.lt hs; omega, fun hs => by have := h.lt' hs; omega⟩
/-- a row beside both frames -/
structure RowB (w : World) (S S' : Nat → Prop) (A : Option Addr) (n c : Nat) (xs : List V) : Prop where
  rd : RdV w A n c xs
  out : ∀ b o, A = some ⟨b, o, none⟩ → 0 < n → b < w.heap.size ∧ ¬ S b ∧ ¬ S' b
theorem RowB.side {w : World} {S S' T T' : Nat → Prop} {A : Option Addr} {n c : Nat} {xs : List V} (h : RowB w S S' A n c xs) (k : Side S S' w T T' w') : RowB w' T T' A n c xs := by
  refine ⟨⟨h.rd.1, h.rd.2.1, h.rd.2.2.1, h.rd.2.2.2.1, fun hn => ?_⟩, fun b o e hn => ?_⟩
  · obtain ⟨b, o, e, hb, hc⟩ := h.rd.2.2.2.2 hn
    obtain ⟨h1, h2, h3⟩ := h.out b o e hn
    exact ⟨b, o, e, Nat.lt_of_lt_of_le hb k.size, fun j u hu => (World.cell?_of_block (a := ⟨b, o + j, none⟩) (k.block b hb h2 h3)).trans (hc j u hu)⟩
  · obtain ⟨h1, h2, h3⟩ := h.out b o e hn
    exact ⟨Nat.lt_of_lt_of_le h1 k.size, fun t => h2 (k.outT b h1 t), fun t => h3 (k.outT' b h1 t)⟩
theorem RowB.of_own {v : Value} {xs : List V} (h : OwnV w v xs) (hn : ∀ b, v.ownBlock = some b → ¬ S b ∧ ¬ S' b) : ∃ A c, v = .slice A xs.length c ∧ RowB w S S' A xs.length c xs := by
  obtain ⟨A, n, c, e, hr, hA⟩ := h.rd
  obtain rfl : xs.length = n := hr.1
  exact ⟨A, c, e, hr, fun b o e' _ => ⟨Own.lt h (hA b o e'), hn b (hA b o e')⟩⟩
end

/-! the methods of both -/
section
variable {w0 w : World} {S S' : Nat → Prop} {g y : Nat} {F F' : Fr}
def Next (w0 w : World) (S S' : Nat → Prop) (g y : Nat) (F F' : Fr) (w' : World) : Prop := ∃ T T', Two w0 w' T T' g y F F' ∧ Side S S' w T T' w'
theorem Two.nextF {G : Fr} {w' : World} (h : Two w0 w S S' g y F F') (h1 : IsFr 53 85 w' (Grew S w w') g G) (hm : Mod S w w') : Next w0 w S S' g y G F' w' :=
  ⟨_, _, h.stepF h1 hm fun _ hi => hi.imp_right fun h => h.1, Side.stepF hm fun _ hi => hi.imp_right fun h => h.1⟩
theorem Two.nextR {G : Fr} {w' : World} (h : Two w0 w S S' g y F F') (h1 : IsFr 82 86 w' (Grew S' w w') y G) (hm : Mod S' w w') : Next w0 w S S' g y F G w' :=
  ⟨_, _, h.stepR h1 hm fun _ hi => hi.imp_right fun h => h.1, Side.stepR hm fun _ hi => hi.imp_right fun h => h.1⟩
end
end Go.Proofs.Ythdkloojhenlkaa
