/- Words for memory: which blocks a call may change (Mod), a slice that reads as cells (Rd), a slice that owns its row (Own), and append onto such a row. Over any program. -/
import Derived.WalkKit
import Derived.WalkSpells
import Derived.WalkLawsBesides
import Derived.Lib.Hide
import Derived.Deep.Draws
import Derived.Deep.AppendLies
namespace Go.Proofs.YtjdcicopjipmnaaDoor
open Go.RowKit

theorem ret_bool {a b : Bool} (h : a = b) : Ending.returned (.bool a) = .returned (.bool b) := by rw [h]
theorem ret_int {k : IntKind} {a b : Int} (h : a = b) : Ending.returned (.int k a) = .returned (.int k b) := by rw [h]

/-- Only blocks of S, and new ones, have turned. -/
structure Mod (S : Nat → Prop) (w w' : World) : Prop where
  os : w'.os = w.os
  tape : w'.tape = w.tape
  output : w'.output = w.output
  size : w.heap.size ≤ w'.heap.size
  block : ∀ k, k < w.heap.size → ¬ S k → w'.heap[k]? = w.heap[k]?

section
variable {S T : Nat → Prop} {a b w w' : World}
theorem Mod.refl (S : Nat → Prop) (w : World) : Mod S w w := ⟨rfl, rfl, rfl, Nat.le_refl _, fun _ _ _ => rfl⟩
theorem Mod.trans (h : Mod S a b) (k : Mod T b w) (hT : ∀ i, i < a.heap.size → T i → S i) : Mod S a w :=
  ⟨k.os.trans h.os, k.tape.trans h.tape, k.output.trans h.output, Nat.le_trans h.size k.size, fun i hi hS => (k.block i (Nat.lt_of_lt_of_le hi h.size) (fun t => hS (hT i hi t))).trans (h.block i hi hS)⟩
theorem Mod.mono (h : Mod S a w) (hS : ∀ i, i < a.heap.size → S i → T i) : Mod T a w := ⟨h.os, h.tape, h.output, h.size, fun i hi ht => h.block i hi (fun s => ht (hS i hi s))⟩
theorem Mod.alloc (h : Mod S a w) (o : Obj) : Mod S a (w.alloc o) :=
  ⟨h.os, h.tape, h.output, Nat.le_trans h.size (by simp), fun i hi hne => (Below.heap_alloc w o i (Nat.lt_of_lt_of_le hi h.size)).trans (h.block i hi hne)⟩
theorem Mod.drew (h : Mod S a w) : Mod S a w.drew := ⟨h.os, h.tape, h.output, h.size, h.block⟩
theorem Mod.drewN (h : Mod S a w) (n : Nat) : Mod S a (w.drewN n) := ⟨h.os, h.tape, h.output, h.size, h.block⟩
theorem Mod.setCell (h : Mod S a w) {p : Addr} (hp : p.block < a.heap.size → S p.block) (u : Value) : Mod S a (w.setCell p u) :=
  ⟨h.os, h.tape, h.output, by simpa [World.setCell] using h.size, fun i hi hne => (Below.heap_setCell w p u i (by rintro rfl; exact hne (hp hi))).trans (h.block i hi hne)⟩
theorem Mod.grown {row : Option Nat} (h : Mod S a w) (hg : w.grownBy w' row) (hr : ∀ k, row = some k → k < a.heap.size → S k) : Mod S a w' :=
  ⟨hg.os.trans h.os, hg.tape.trans h.tape, hg.output.trans h.output, Nat.le_trans h.size hg.size, fun i hi hne => (hg.block i (Nat.lt_of_lt_of_le hi h.size) (fun e => hne (hr i e.symm hi))).trans (h.block i hi hne)⟩
theorem Mod.of_below {B : Nat} (h : Below B a w) (hS : ∀ i, i < a.heap.size → B ≤ i → S i) : Mod S a w := ⟨h.os, h.tape, h.output, h.size, fun i hi hne => h.block i (Nat.lt_of_not_le fun hB => hne (hS i hi hB))⟩
theorem Mod.new (h : Below a.heap.size a w) : Mod S a w := Mod.of_below h fun i hi hB => absurd hi (by omega)
theorem Mod.below {B : Nat} (h : Mod S a w) (hB : B ≤ a.heap.size) (hS : ∀ i, i < B → ¬ S i) : Below B a w := ⟨h.os, h.tape, h.output, h.size, fun k hk => h.block k (by omega) (hS k hk)⟩
theorem Mod.cell (h : Mod S a w) {p : Addr} (hp : p.block < a.heap.size) (hS : ¬ S p.block) : w.cell? p = a.cell? p := World.cell?_of_block (h.block _ hp hS)
theorem Mod.frozen (h : Mod S a w) {p : Addr} (hp : p.block < a.heap.size) (hS : ¬ S p.block) : w.frozen? p = a.frozen? p := World.frozen?_of_block (h.block _ hp hS)
theorem below_drewN {B : Nat} {a w : World} (h : Below B a w) (n : Nat) : Below B a (w.drewN n) := ⟨h.os, h.tape, h.output, h.size, h.block⟩
theorem bcell {W w1 : World} (hb : Below W.heap.size W w1) : (∀ b o, b < W.heap.size → w1.cell? ⟨b, o, none⟩ = W.cell? ⟨b, o, none⟩) ∧ (∀ b o, b < W.heap.size → w1.frozen? ⟨b, o, none⟩ = W.frozen? ⟨b, o, none⟩) :=
  ⟨fun b o h => hb.cell (p := ⟨b, o, none⟩) h, fun b o h => hb.frozen (p := ⟨b, o, none⟩) h⟩
theorem mcell {S : Nat → Prop} {W w1 : World} (hb : Mod S W w1) : (∀ b o, b < W.heap.size → ¬ S b → w1.cell? ⟨b, o, none⟩ = W.cell? ⟨b, o, none⟩) ∧ (∀ b o, b < W.heap.size → ¬ S b → w1.frozen? ⟨b, o, none⟩ = W.frozen? ⟨b, o, none⟩) :=
  ⟨fun b o h hs => hb.cell (p := ⟨b, o, none⟩) h hs, fun b o h hs => hb.frozen (p := ⟨b, o, none⟩) h hs⟩
end

/-- Block g is just the cells cs of element type t, none frozen. -/
def Blk (w : World) (g : Nat) (t : TypeId) (cs : Array Value) : Prop := w.heap[g]? = some (.cells cs t (0, 0))

section
variable {w w' : World} {g : Nat} {t : TypeId} {cs : Array Value}
theorem Blk.lt (h : Blk w g t cs) : g < w.heap.size := by
  rcases Nat.lt_or_ge g w.heap.size with hlt | hge
  · exact hlt
  · unfold Blk at h; rw [Array.getElem?_eq_none hge] at h; cases h
theorem Blk.cell (h : Blk w g t cs) (i : Nat) : w.cell? ⟨g, i, none⟩ = cs[i]? := cell_of_row w g i cs t (0, 0) h
theorem Blk.frozen (h : Blk w g t cs) (i : Nat) : w.frozen? ⟨g, i, none⟩ = false := by
  unfold Blk at h
  simp [World.frozen?, h]
theorem Blk.new (w : World) (t : TypeId) (cs : Array Value) : Blk (w.alloc (.cells cs t)) w.heap.size t cs := heap_alloc_new w _
theorem Blk.keep (h : Blk w g t cs) (hk : w'.heap[g]? = w.heap[g]?) : Blk w' g t cs := hk.trans h
theorem Blk.alloc (h : Blk w g t cs) (o : Obj) : Blk (w.alloc o) g t cs := (Below.heap_alloc w o g h.lt).trans h
theorem Blk.set_ (h : Blk w g t cs) (i : Nat) (u : Value) : Blk (w.setCell ⟨g, i, none⟩ u) g t (cs.setIfInBounds i u) := by
  unfold Blk at h ⊢
  simp [World.setCell, Array.getElem?_modify, h]
theorem Blk.far (h : Blk w g t cs) {p : Addr} (hp : g ≠ p.block) (u : Value) : Blk (w.setCell p u) g t cs := (Below.heap_setCell w p u g hp).trans h
theorem Blk.mod {S : Nat → Prop} (h : Blk w g t cs) (hb : Mod S w w') (hg : ¬ S g) : Blk w' g t cs := (hb.block g h.lt hg).trans h
theorem Blk.below (h : Blk w g t cs) {B : Nat} (hb : Below B w w') (hg : g < B) : Blk w' g t cs := (hb.block g hg).trans h
theorem Blk.new' (h : Blk w g t cs) (hb : Below w.heap.size w w') : Blk w' g t cs := (hb.block g h.lt).trans h
theorem Blk.grown {row : Option Nat} (h : Blk w g t cs) (hb : w.grownBy w' row) (hg : some g ≠ row) : Blk w' g t cs := (hb.block g h.lt hg).trans h
theorem Blk.ne_ {g' : Nat} {t' : TypeId} {cs' : Array Value} (h : Blk w g t cs) (h' : Blk w g' t' cs') (hne : t ≠ t') : g ≠ g' := by
  rintro rfl
  unfold Blk at h h'
  rw [h] at h'
  injection h' with h'
  injection h' with _ ht
  exact hne ht
end

/-- The slice '.slice A n c' reads as the cells cs, sz an element. -/
def Rd (w : World) (A : Option Addr) (n c : Nat) (sz : Nat) (cs : List Value) : Prop :=
  n ≤ c ∧ c ≤ 9223372036854775807 ∧ cs.length = n * sz ∧ (0 < n → ∃ b o, A = some ⟨b, o, none⟩ ∧ b < w.heap.size ∧ ∀ j u, cs[j]? = some u → w.cell? ⟨b, o + j, none⟩ = some u)

section
variable {w w' : World} {A : Option Addr} {n c sz : Nat} {cs : List Value}
theorem Rd.keep (h : Rd w A n c sz cs) (hs : w.heap.size ≤ w'.heap.size) (hk : ∀ b o, A = some ⟨b, o, none⟩ → b < w.heap.size → w'.heap[b]? = w.heap[b]?) : Rd w' A n c sz cs :=
  ⟨h.1, h.2.1, h.2.2.1, fun hn => by
    obtain ⟨b, o, e, hb, hc⟩ := h.2.2.2 hn
    exact ⟨b, o, e, by omega, fun j u hu => (World.cell?_of_block (hk b o e hb)).trans (hc j u hu)⟩⟩
theorem Rd.new (h : Rd w A n c sz cs) (hb : Below w.heap.size w w') : Rd w' A n c sz cs := h.keep hb.size fun b _ _ h => hb.block b h
theorem Rd.mod {S : Nat → Prop} (h : Rd w A n c sz cs) (hb : Mod S w w') (hA : ∀ b o, A = some ⟨b, o, none⟩ → ¬ S b) : Rd w' A n c sz cs := h.keep hb.size fun b o e h => hb.block b h (hA b o e)
theorem Rd.le (h : Rd w A n c sz cs) : n ≤ 9223372036854775807 := by have := h.1; have := h.2.1; omega
theorem Rd.nil_ : Rd w A 0 c sz [] ↔ c ≤ 9223372036854775807 := ⟨fun h => h.2.1, fun h => ⟨Nat.zero_le _, h, by simp, fun h => absurd h (by omega)⟩⟩
/-- s[:k] -/
theorem Rd.lo (h : Rd w A n c sz cs) {k : Nat} (hk : k ≤ n) : Rd w A k c sz (cs.take (k * sz)) := by
  have hle := Nat.mul_le_mul_right sz hk
  refine ⟨by have := h.1; omega, h.2.1, by rw [List.length_take, h.2.2.1]; omega, fun hk0 => ?_⟩
  obtain ⟨b, o, e, hb, hc⟩ := h.2.2.2 (by omega)
  refine ⟨b, o, e, hb, fun j u hu => hc j u ?_⟩
  rw [List.getElem?_take] at hu
  split at hu
  · exact hu
  · cases hu
theorem Rd.shrink (h : Rd w A n c sz cs) {k c' : Nat} (hk : k ≤ n) (hkc : k ≤ c') (hc : c' ≤ c) : Rd w A k c' sz (cs.take (k * sz)) := by
  obtain ⟨h1, h2, h3, h4⟩ := h.lo hk
  exact ⟨hkc, by omega, h3, h4⟩
/-- s[k:], k below the capacity or the slice empty there -/
theorem Rd.hi (h : Rd w A n c sz cs) {k : Nat} (hk : k ≤ n) {A' : Option Addr} (hA : k < n → A' = A.map (·.add (k * sz))) : Rd w A' (n - k) (c - k) sz (cs.drop (k * sz)) := by
  refine ⟨by have := h.1; omega, by have := h.2.1; omega, by rw [List.length_drop, h.2.2.1, Nat.sub_mul], fun hn => ?_⟩
  obtain ⟨b, o, e, hb, hc⟩ := h.2.2.2 (by omega)
  subst e
  refine ⟨b, o + k * sz, ?_, hb, fun j u hu => ?_⟩
  · rw [hA (by omega)]
    simp only [Option.map_some, Addr.add]
    split
    · simp_all
    · rfl
  · rw [Nat.add_assoc]
    exact hc _ u (by rw [← hu, List.getElem?_drop])
end

/-- v owns a row: its block is whole, of element type t, and nobody else's cells lie in it. -/
def Own (w : World) (t : TypeId) (sz : Nat) (v : Value) (n : Nat) (cs : List Value) : Prop :=
  cs.length = n * sz ∧ ((v = .slice none 0 0 ∧ n = 0) ∨
    ∃ b c cur, v = .slice (some ⟨b, 0, none⟩) n c ∧ w.heap[b]? = some (.cells cur t (0, 0)) ∧ n ≤ c ∧ c ≤ 9223372036854775807 ∧ c * sz ≤ cur.size ∧ cur.toList.take (n * sz) = cs)

section
variable {w w' : World} {t : TypeId} {sz n : Nat} {v : Value} {cs : List Value}
theorem Own.nil_ (w : World) (t : TypeId) (sz : Nat) : Own w t sz (.slice none 0 0) 0 [] := ⟨by simp, .inl ⟨rfl, rfl⟩⟩
theorem Own.lt (h : Own w t sz v n cs) {b : Nat} (hb : v.ownBlock = some b) : b < w.heap.size := by
  rcases h.2 with ⟨rfl, _⟩ | ⟨g, c, cur, rfl, hg, _⟩
  · cases hb
  · obtain rfl : g = b := by simpa [Value.ownBlock] using hb
    exact (Array.getElem?_eq_some_iff.1 hg).1
theorem Own.keep (h : Own w t sz v n cs) (hk : ∀ b, v.ownBlock = some b → w'.heap[b]? = w.heap[b]?) : Own w' t sz v n cs := by
  refine ⟨h.1, ?_⟩
  rcases h.2 with h2 | ⟨g, c, cur, rfl, hg, r⟩
  · exact .inl h2
  · exact .inr ⟨g, c, cur, rfl, (hk g rfl).trans hg, r⟩
theorem Own.new (h : Own w t sz v n cs) (hb : Below w.heap.size w w') : Own w' t sz v n cs := h.keep fun b e => hb.block b (h.lt e)
theorem Own.mod {S : Nat → Prop} (h : Own w t sz v n cs) (hb : Mod S w w') (hS : ∀ b, v.ownBlock = some b → ¬ S b) : Own w' t sz v n cs := h.keep fun b e => hb.block b (h.lt e) (hS b e)
theorem Own.rd (h : Own w t sz v n cs) : ∃ A c, v = .slice A n c ∧ Rd w A n c sz cs ∧ (∀ b o, A = some ⟨b, o, none⟩ → v.ownBlock = some b) := by
  rcases h.2 with ⟨rfl, rfl⟩ | ⟨g, c, cur, rfl, hg, h1, h2, h3, h4⟩
  · exact ⟨none, 0, rfl, ⟨by omega, by omega, h.1, fun h => absurd h (by omega)⟩, fun b o e => by cases e⟩
  · refine ⟨_, c, rfl, ⟨h1, h2, h.1, fun _ => ⟨g, 0, rfl, (Array.getElem?_eq_some_iff.1 hg).1, fun j u hu => ?_⟩⟩, fun b o e => by cases e; rfl⟩
    rw [← h4, List.getElem?_take] at hu
    split at hu
    · rw [cell_of_row w g (0 + j) cur t (0, 0) hg, Nat.zero_add]
      simpa using hu
    · cases hu
theorem Own.cut {A : Option Addr} {c : Nat} (h : Own w t sz (.slice A n c) n cs) {k : Nat} (hk : k ≤ n) : Own w t sz (.slice A k k) k (cs.take (k * sz)) := by
  have hle := Nat.mul_le_mul_right sz hk
  refine ⟨by rw [List.length_take, h.1]; omega, ?_⟩
  rcases h.2 with ⟨e, rfl⟩ | ⟨g, c, cur, e, hg, h1, h2, h3, h4⟩
  · obtain rfl : k = 0 := by omega
    injection e with e1 e2 e3
    subst e1
    exact .inl ⟨rfl, rfl⟩
  · injection e with e1 e2 e3
    subst e1 e3
    refine .inr ⟨g, k, cur, rfl, hg, Nat.le_refl _, by omega, ?_, ?_⟩
    · have := Nat.mul_le_mul_right sz (show k ≤ c by omega)
      omega
    · rw [← h4, List.take_take]
      congr 1
      omega
theorem Own.made (w : World) (cur : Array Value) (n : Nat) (hn : n ≤ 9223372036854775807) (hs : cur.size = n * sz) : Own (w.alloc (.cells cur t)) t sz (.slice (some ⟨w.heap.size, 0, none⟩) n n) n cur.toList :=
  ⟨by simpa using hs, .inr ⟨_, n, cur, rfl, heap_alloc_new w _, Nat.le_refl _, hn, by omega, by rw [← hs, ← Array.length_toList, List.take_length]⟩⟩
/-- one cell of it is stored -/
theorem Own.set_ {b c : Nat} (h : Own w t sz (.slice (some ⟨b, 0, none⟩) n c) n cs) {j : Nat} (hj : j < n * sz) (u : Value) :
    w.cell? ⟨b, j, none⟩ = cs[j]? ∧ w.frozen? ⟨b, j, none⟩ = false ∧ Own (w.setCell ⟨b, j, none⟩ u) t sz (.slice (some ⟨b, 0, none⟩) n c) n (cs.set j u) := by
  obtain ⟨hl, h2⟩ := h
  rcases h2 with ⟨e, rfl⟩ | ⟨g, c', cur, e, hg, h1, h2, h3, h4⟩
  · cases e
  · injection e with e1 e2 e3
    injection e1 with e1
    injection e1 with e1
    subst e1 e3
    have hm := Nat.mul_le_mul_right sz h1
    refine ⟨?_, ?_, ?_, .inr ⟨b, c, cur.setIfInBounds j u, rfl, ?_, h1, h2, by simpa using h3, ?_⟩⟩
    · rw [cell_of_row w b j cur t (0, 0) hg, ← h4, List.getElem?_take, if_pos hj]
      simp
    · simp [World.frozen?, hg]
    · simpa using hl
    · simp [World.setCell, Array.getElem?_modify, hg]
    · rw [← h4, Array.toList_setIfInBounds, List.take_set]
theorem own_blk_ne {g : Nat} {t' : TypeId} {bs : Array Value} (h : Own w t sz v n cs) (hg : Blk w g t' bs) (hne : t ≠ t') : v.ownBlock ≠ some g := by
  rcases h.2 with ⟨rfl, _⟩ | ⟨g', cap, cur, rfl, hh, _⟩
  · simp [Value.ownBlock]
  · intro he
    have : g' = g := by simpa [Value.ownBlock] using he
    subst this
    exact Blk.ne_ (t := t) hh hg hne rfl
theorem own_own_ne {t' : TypeId} {sz' n' : Nat} {v' : Value} {cs' : List Value} (h : Own w t sz v n cs) (h' : Own w t' sz' v' n' cs') (hne : t ≠ t') {b : Nat} (hb : v.ownBlock = some b) : v'.ownBlock ≠ some b := by
  intro hb'
  rcases h.2 with ⟨rfl, _⟩ | ⟨g, c, cur, rfl, hg, _⟩
  · cases hb
  · rcases h'.2 with ⟨rfl, _⟩ | ⟨g', c', cur', rfl, hg', _⟩
    · cases hb'
    · have e1 : g = b := by simpa [Value.ownBlock] using hb
      have e2 : g' = b := by simpa [Value.ownBlock] using hb'
      subst e1 e2
      exact Blk.ne_ (t := t) (t' := t') hg hg' hne rfl
end

section
variable {P : Program} (w : World)
theorem run_append_Own (t ty e : TypeId) (i : TypeInfo) (z : Value) (size bytes : Nat) (ht : P.underlying t = some (.slice e)) (hi : P.info? e = some i) (hz : i.zero = some z)
    (hsize : i.size = size) (hby : i.bytes = bytes) (hzs : z.cells.size = size)
    (v : Value) (n : Nat) (xs : List Value) (hown : Own w e size v n xs)
    (A : Option Addr) (m c : Nat) (news : List Value) (hr : Rd w A m c size news) (h1 : ∀ u ∈ news, u.oneCell' = true)
    (hbytes : (n + m) * bytes ≤ 140737488355328) (h63 : n + m ≤ 9223372036854775807) :
    ∃ v' w', (Builtin.append_ #[t, t] ty #[v, .slice A m c]).run P w = .ok v' w' ∧ Own w' e size v' (n + m) (xs ++ news) ∧ w.grownBy w' v.ownBlock ∧
      (v'.ownBlock = v.ownBlock ∨ v'.ownBlock = some w.heap.size) := by
  subst hsize
  subst hby
  have hlen : (xs ++ news).length = (n + m) * i.size := by rw [List.length_append, hown.1, hr.2.2.1, Nat.add_mul]
  have grown : ∀ (old : Nat), old < n + m → ∀ (row : Option Nat),
      Own (w.drew.alloc (.cells (xs.toArray ++ news.toArray ++ Builtin.zeroCells z.cells (grownCap w (n + m) old e - (n + m))) e)) e i.size
        (.slice (some ⟨w.heap.size, 0, none⟩) (n + m) (grownCap w (n + m) old e)) (n + m) (xs ++ news) ∧
      w.grownBy (w.drew.alloc (.cells (xs.toArray ++ news.toArray ++ Builtin.zeroCells z.cells (grownCap w (n + m) old e - (n + m))) e)) row := by
    intro old ho row
    have hge := grownCap_ge w (n + m) old e
    have hcm : grownCap w (n + m) old e ≤ maxLen := grownCap_le_maxLen w (n + m) old e (by simp only [maxLen]; omega)
    refine ⟨⟨hlen, .inr ⟨w.heap.size, _, _, rfl, heap_alloc_new w.drew _, hge, by simp only [maxLen] at hcm; omega, ?_, ?_⟩⟩, ⟨rfl, rfl, rfl, by simp, fun k hk _ => heap_alloc_old w.drew _ hk⟩⟩
    · simp only [Array.size_append, List.size_toArray, size_zeroCells, hzs, hown.1, hr.2.2.1, ← Nat.add_mul]
      apply Nat.le_of_eq
      congr 1
      omega
    · simp only [Array.toList_append, List.append_assoc]
      rw [← List.append_assoc, ← hlen]
      exact List.take_left
  by_cases hm : m = 0
  · subst hm
    have hn : news = [] := List.eq_nil_of_length_eq_zero (by simpa using hr.2.2.1)
    subst hn
    refine ⟨v, w, ?_, by simpa using hown, World.grownBy.refl w _, .inl rfl⟩
    rcases hown.2 with ⟨rfl, rfl⟩ | ⟨g, cap, cur, rfl, _, hnc, _⟩
    · cases A <;> simp [Builtin.append_, run_underlying ht, sizeOf, typeInfo, hi, Builtin.lenOf, Builtin.firstCells, loadCells, loadCellsFrom]
    · cases A <;> simp [Builtin.append_, run_underlying ht, sizeOf, typeInfo, hi, Builtin.lenOf, Builtin.firstCells, loadCells, loadCellsFrom, hnc, storeCells]
  · obtain ⟨b, o, rfl, hb, hc⟩ := hr.2.2.2 (by omega)
    have hnews : ∀ j u, news[j]? = some u → w.cell? ((⟨b, o, none⟩ : Addr).add j) = some u := by
      intro j u hu
      have := hc j u hu
      unfold Addr.add
      split
      · simp_all
      · exact this
    rcases hown.2 with ⟨rfl, rfl⟩ | ⟨g, cap, cur, rfl, hg, hnc, hcm, hcs, htake⟩
    · have hx : xs = [] := List.eq_nil_of_length_eq_zero (by simpa using hown.1)
      subst hx
      have hrr := run_append_nil (P := P) w t ty e i z ht hi hz ⟨b, o, none⟩ m c news hr.2.2.1 hnews (by omega) (by omega) (by have hb := hbytes; simp only [Nat.zero_add] at hb; omega)
      have hgr := grown 0 (by omega) (Value.ownBlock (.slice none 0 0))
      simp only [Nat.zero_add, List.nil_append, Array.empty_append] at hgr ⊢
      exact ⟨_, _, hrr, hgr.1, hgr.2, .inr rfl⟩
    · by_cases hroom : n + m ≤ cap
      · have hfit : n * i.size + news.length ≤ cur.size := by
          have := Nat.mul_le_mul_right i.size hroom
          rw [hr.2.2.1, ← Nat.add_mul]
          omega
        have hrr := run_append_room (P := P) w t ty e i ht hi g n cap cur hg ⟨b, o, none⟩ m c news hr.2.2.1 hnews h1 hroom hfit
        refine ⟨_, _, hrr, ⟨hlen, .inr ⟨g, cap, _, rfl, setRow_heap w g cur _ e _ hg, hroom, hcm, ?_, ?_⟩⟩, ⟨rfl, rfl, rfl, by simp, fun k _ hk => setRow_other w g k _ (fun e => hk (by simp [Value.ownBlock, e]))⟩, .inl rfl⟩
        · simp only [List.size_toArray, List.length_append, List.length_take, List.length_drop, Array.length_toList]
          omega
        · rw [htake, ← hlen]
          exact List.take_left
      · have holds : ∀ j u, xs[j]? = some u → w.cell? ((⟨g, 0, none⟩ : Addr).add j) = some u := by
          intro j u hu
          rw [← htake, List.getElem?_take] at hu
          split at hu
          · have : w.cell? ⟨g, j, none⟩ = some u := by rw [cell_of_row w g j cur e (0, 0) hg]; simpa using hu
            unfold Addr.add
            split
            · simp_all
            · simpa using this
          · cases hu
        have hrr := run_append_grow (P := P) w t ty e i z ht hi hz ⟨g, 0, none⟩ n cap xs hown.1 holds ⟨b, o, none⟩ m c news hr.2.2.1 hnews (by omega) (by omega) (growslice_fits (by omega) hbytes)
        have hgr := grown cap (by omega) (Value.ownBlock (.slice (some ⟨g, 0, none⟩) n cap))
        exact ⟨_, _, hrr, hgr.1, hgr.2, .inr rfl⟩

theorem wp_append_Own {o : Oper} {a : Act} {K : Act → World → Prop} {Q : Exit → Act → World → Prop} (s x : Operand) (t : TypeId)
    (ho : o.op = .call { callee := .builtin .append, args := #[s, x], argTypes := #[t, t] })
    (e : TypeId) (i : TypeInfo) (z : Value) (size bytes : Nat) (ht : P.underlying t = some (.slice e)) (hi : P.info? e = some i) (hz : i.zero = some z)
    (hsize : i.size = size) (hby : i.bytes = bytes) (hzs : z.cells.size = size)
    (v : Value) (n : Nat) (xs : List Value) (hs : a.eval s = v) (hown : Own w e size v n xs)
    (A : Option Addr) (m c : Nat) (news : List Value) (hx : a.eval x = .slice A m c) (hr : Rd w A m c size news) (h1 : ∀ u ∈ news, u.oneCell' = true)
    (hbytes : (n + m) * bytes ≤ 140737488355328) (h63 : n + m ≤ 9223372036854775807)
    (h : ∀ v' w', Own w' e size v' (n + m) (xs ++ news) → w.grownBy w' v.ownBlock → (v'.ownBlock = v.ownBlock ∨ v'.ownBlock = some w.heap.size) → K (a.put o.dst v') w') : o.wp P a w K Q := by
  obtain ⟨v', w', hrun, h2, h3, h4⟩ := run_append_Own (P := P) w t o.type e i z size bytes ht hi hz hsize hby hzs v n xs hown A m c news hr h1 hbytes h63
  unfold Oper.wp execOp
  simp only [ho, resolve, invoke, builtin, Sem.run_bind, Sem.run_pure, Result.andThen_ok, List.map_toArray, List.map_cons, List.map_nil, hs, hx, hrun]
  exact h v' w' h2 h3 h4

theorem wpList_append_Own {ops : Array Oper} {rest : List Oper} {o : Oper} {a : Act} {Q : Exit → Act → World → Prop} (hgd : o.guard = none) (s x : Operand) (t : TypeId)
    (ho : o.op = .call { callee := .builtin .append, args := #[s, x], argTypes := #[t, t] })
    (e : TypeId) (i : TypeInfo) (z : Value) (size bytes : Nat) (ht : P.underlying t = some (.slice e)) (hi : P.info? e = some i) (hz : i.zero = some z)
    (hsize : i.size = size) (hby : i.bytes = bytes) (hzs : z.cells.size = size)
    (v : Value) (n : Nat) (xs : List Value) (hs : a.eval s = v) (hown : Own w e size v n xs)
    (A : Option Addr) (m c : Nat) (news : List Value) (hx : a.eval x = .slice A m c) (hr : Rd w A m c size news) (h1 : ∀ u ∈ news, u.oneCell' = true)
    (hbytes : (n + m) * bytes ≤ 140737488355328) (h63 : n + m ≤ 9223372036854775807)
    (h : ∀ v' w', Own w' e size v' (n + m) (xs ++ news) → w.grownBy w' v.ownBlock → (v'.ownBlock = v.ownBlock ∨ v'.ownBlock = some w.heap.size) → wpList P ops Q rest (a.put o.dst v') w') : wpList P ops Q (o :: rest) a w :=
  wpList_plain hgd fun _ hK => wp_append_Own w s x t ho e i z size bytes ht hi hz hsize hby hzs v n xs hs hown A m c news hx hr h1 hbytes h63 fun v' w' h2 h3 h4 => hK _ _ (h v' w' h2 h3 h4)

theorem step_append_Own {ops : Array Oper} {o : Oper} {a : Act} {K : Act → World → Prop} {Q : Exit → Act → World → Prop} {E : Prop} (hgd : o.guard = none) (s x : Operand) (t : TypeId)
    (ho : o.op = .call { callee := .builtin .append, args := #[s, x], argTypes := #[t, t] })
    (e : TypeId) (i : TypeInfo) (z : Value) (size bytes : Nat) (ht : P.underlying t = some (.slice e)) (hi : P.info? e = some i) (hz : i.zero = some z)
    (hsize : i.size = size) (hby : i.bytes = bytes) (hzs : z.cells.size = size)
    (v : Value) (n : Nat) (xs : List Value) (hs : a.eval s = v) (hown : Own w e size v n xs)
    (A : Option Addr) (m c : Nat) (news : List Value) (hx : a.eval x = .slice A m c) (hr : Rd w A m c size news) (h1 : ∀ u ∈ news, u.oneCell' = true)
    (hbytes : (n + m) * bytes ≤ 140737488355328) (h63 : n + m ≤ 9223372036854775807)
    (h : ∀ v' w', Own w' e size v' (n + m) (xs ++ news) → w.grownBy w' v.ownBlock → (v'.ownBlock = v.ownBlock ∨ v'.ownBlock = some w.heap.size) → K (a.put o.dst v') w') :
    if Region.wanted o (yielded ops a.tmps) = true then Oper.wp P o a w K Q else E := by
  have hw : Region.wanted o (yielded ops a.tmps) = true := by simp [Region.wanted, hgd]
  rw [if_pos hw]
  exact wp_append_Own w s x t ho e i z size bytes ht hi hz hsize hby hzs v n xs hs hown A m c news hx hr h1 hbytes h63 h
end
end Go.Proofs.YtjdcicopjipmnaaDoor
