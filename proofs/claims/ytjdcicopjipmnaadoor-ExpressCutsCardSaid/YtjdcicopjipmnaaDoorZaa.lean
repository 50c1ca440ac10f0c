/- Words for memory: which blocks a call may change (Mod), a slice that reads as cells (Rd), a slice that owns its row (Own), and append onto such a row. Over any program. What Parse is to be: plain Lean. How the plain parser goes on (1). How the plain parser goes on (2): each part. The plain parser always ends. Places: with other places of the tokens, the same parse with other places of the nodes. What a parse that goes well has made: a right expression, each node but the last one a kid once. Cut tokens: what the parser makes of a beginning of tokens that it parses well. Cut tokens (4): parameters, and the whole expression. -/
import Derived.WalkKit
import Derived.WalkSpells
import Derived.WalkLawsBesides
import Derived.Lib.Hide
import Derived.Deep.Draws
import Derived.Deep.AppendLies
namespace Go.Proofs.YtjdcicopjipmnaaDoor
section
open Go.RowKit
theorem ret_int {k : IntKind} {a b : Int} (h : a = b) : Ending.returned (.int k a) = .returned (.int k b) := by rw [h]
structure Mod (S : Nat → Prop) (w w' : World) : Prop where
 os : w'.os = w.os
 tape : w'.tape = w.tape
 output : w'.output = w.output
 size : w.heap.size ≤ w'.heap.size
 block : ∀ k, k < w.heap.size → ¬ S k → w'.heap[k]? = w.heap[k]?
section
variable {S T : Nat → Prop} {a b w w' : World}
theorem Mod.refl (S : Nat → Prop) (w : World) : Mod S w w := ⟨rfl, rfl, rfl, Nat.le_refl _, fun _ _ _ => rfl⟩
theorem Mod.trans (h : Mod S a b) (k : Mod T b w) (hT : ∀ i, i < a.heap.size → T i → S i) : Mod S a w :=
 ⟨k.os.trans h.os, k.tape.trans h.tape, k.output.trans h.output, Nat.le_trans h.size k.size, fun i hi hS => (k.block i (Nat.lt_of_lt_of_le hi h.size) (fun t => hS (hT i hi t))).trans (h.block i hi hS)⟩
theorem Mod.mono (h : Mod S a w) (hS : ∀ i, i < a.heap.size → S i → T i) : Mod T a w := ⟨h.os, h.tape, h.output, h.size, fun i hi ht => h.block i hi (fun s => ht (hS i hi s))⟩
theorem Mod.alloc (h : Mod S a w) (o : Obj) : Mod S a (w.alloc o) :=
 ⟨h.os, h.tape, h.output, Nat.le_trans h.size (by simp), fun i hi hne => (Below.heap_alloc w o i (Nat.lt_of_lt_of_le hi h.size)).trans (h.block i hi hne)⟩
theorem Mod.drew (h : Mod S a w) : Mod S a w.drew := ⟨h.os, h.tape, h.output, h.size, h.block⟩
theorem Mod.drewN (h : Mod S a w) (n : Nat) : Mod S a (w.drewN n) := ⟨h.os, h.tape, h.output, h.size, h.block⟩
theorem Mod.setCell (h : Mod S a w) {p : Addr} (hp : p.block < a.heap.size → S p.block) (u : Value) : Mod S a (w.setCell p u) :=
 ⟨h.os, h.tape, h.output, by simpa [World.setCell] using h.size, fun i hi hne => (Below.heap_setCell w p u i (by rintro rfl; exact hne (hp hi))).trans (h.block i hi hne)⟩
theorem Mod.of_below {B : Nat} (h : Below B a w) (hS : ∀ i, i < a.heap.size → B ≤ i → S i) : Mod S a w := ⟨h.os, h.tape, h.output, h.size, fun i hi hne => h.block i (Nat.lt_of_not_le fun hB => hne (hS i hi hB))⟩
theorem Mod.new (h : Below a.heap.size a w) : Mod S a w := Mod.of_below h fun i hi hB => absurd hi (by omega)
theorem Mod.below {B : Nat} (h : Mod S a w) (hB : B ≤ a.heap.size) (hS : ∀ i, i < B → ¬ S i) : Below B a w := ⟨h.os, h.tape, h.output, h.size, fun k hk => h.block k (by omega) (hS k hk)⟩
theorem Mod.cell (h : Mod S a w) {p : Addr} (hp : p.block < a.heap.size) (hS : ¬ S p.block) : w.cell? p = a.cell? p := World.cell?_of_block (h.block _ hp hS)
theorem below_drewN {B : Nat} {a w : World} (h : Below B a w) (n : Nat) : Below B a (w.drewN n) := ⟨h.os, h.tape, h.output, h.size, h.block⟩
end
def Blk (w : World) (g : Nat) (t : TypeId) (cs : Array Value) : Prop := w.heap[g]? = some (.cells cs t (0, 0))
section
variable {w w' : World} {g : Nat} {t : TypeId} {cs : Array Value}
theorem Blk.lt (h : Blk w g t cs) : g < w.heap.size := by
 rcases Nat.lt_or_ge g w.heap.size with hlt | hge
 ·exact hlt
 ·unfold Blk at h; rw [Array.getElem?_eq_none hge] at h; cases h
theorem Blk.cell (h : Blk w g t cs) (i : Nat) : w.cell? ⟨g, i, none⟩ = cs[i]? := cell_of_row w g i cs t (0, 0) h
theorem Blk.frozen (h : Blk w g t cs) (i : Nat) : w.frozen? ⟨g, i, none⟩ = false := by
 unfold Blk at h
 simp [World.frozen?, h]
theorem Blk.new (w : World) (t : TypeId) (cs : Array Value) : Blk (w.alloc (.cells cs t)) w.heap.size t cs := heap_alloc_new w _
theorem Blk.alloc (h : Blk w g t cs) (o : Obj) : Blk (w.alloc o) g t cs := (Below.heap_alloc w o g h.lt).trans h
theorem Blk.set_ (h : Blk w g t cs) (i : Nat) (u : Value) : Blk (w.setCell ⟨g, i, none⟩ u) g t (cs.setIfInBounds i u) := by
 unfold Blk at h ⊢
 simp [World.setCell, Array.getElem?_modify, h]
theorem Blk.far (h : Blk w g t cs) {p : Addr} (hp : g ≠ p.block) (u : Value) : Blk (w.setCell p u) g t cs := (Below.heap_setCell w p u g hp).trans h
theorem Blk.mod {S : Nat → Prop} (h : Blk w g t cs) (hb : Mod S w w') (hg : ¬ S g) : Blk w' g t cs := (hb.block g h.lt hg).trans h
theorem Blk.grown {row : Option Nat} (h : Blk w g t cs) (hb : w.grownBy w' row) (hg : some g ≠ row) : Blk w' g t cs := (hb.block g h.lt hg).trans h
theorem Blk.ne_ {g' : Nat} {t' : TypeId} {cs' : Array Value} (h : Blk w g t cs) (h' : Blk w g' t' cs') (hne : t ≠ t') : g ≠ g' := by
 rintro rfl
 unfold Blk at h h'
 rw [h] at h'
 injection h' with h'
 injection h' with _ ht
 exact hne ht
end
def Rd (w : World) (A : Option Addr) (n c : Nat) (sz : Nat) (cs : List Value) : Prop :=
 n ≤ c ∧ c ≤ 9223372036854775807 ∧ cs.length = n * sz ∧ (0 < n → ∃ b o, A = some ⟨b, o, none⟩ ∧ b < w.heap.size ∧ ∀ j u, cs[j]? = some u → w.cell? ⟨b, o + j, none⟩ = some u)
section
variable {w w' : World} {A : Option Addr} {n c sz : Nat} {cs : List Value}
theorem Rd.keep (h : Rd w A n c sz cs) (hs : w.heap.size ≤ w'.heap.size) (hk : ∀ b o, A = some ⟨b, o, none⟩ → b < w.heap.size → w'.heap[b]? = w.heap[b]?) : Rd w' A n c sz cs :=
 ⟨h.1, h.2.1, h.2.2.1, fun hn => by
  obtain ⟨b, o, e, hb, hc⟩ := h.2.2.2 hn
  exact ⟨b, o, e, by omega, fun j u hu => (World.cell?_of_block (hk b o e hb)).trans (hc j u hu)⟩⟩
theorem Rd.mod {S : Nat → Prop} (h : Rd w A n c sz cs) (hb : Mod S w w') (hA : ∀ b o, A = some ⟨b, o, none⟩ → ¬ S b) : Rd w' A n c sz cs := h.keep hb.size fun b o e h => hb.block b h (hA b o e)
theorem Rd.le (h : Rd w A n c sz cs) : n ≤ 9223372036854775807 := by have := h.1; have := h.2.1; omega
theorem Rd.nil_ : Rd w A 0 c sz [] ↔ c ≤ 9223372036854775807 := ⟨fun h => h.2.1, fun h => ⟨Nat.zero_le _, h, by simp, fun h => absurd h (by omega)⟩⟩
end
def Own (w : World) (t : TypeId) (sz : Nat) (v : Value) (n : Nat) (cs : List Value) : Prop :=
 cs.length = n * sz ∧ ((v = .slice none 0 0 ∧ n = 0) ∨
  ∃ b c cur, v = .slice (some ⟨b, 0, none⟩) n c ∧ w.heap[b]? = some (.cells cur t (0, 0)) ∧ n ≤ c ∧ c ≤ 9223372036854775807 ∧ c * sz ≤ cur.size ∧ cur.toList.take (n * sz) = cs)
section
variable {w w' : World} {t : TypeId} {sz n : Nat} {v : Value} {cs : List Value}
theorem Own.nil_ (w : World) (t : TypeId) (sz : Nat) : Own w t sz (.slice none 0 0) 0 [] := ⟨by simp, .inl ⟨rfl, rfl⟩⟩
theorem Own.lt (h : Own w t sz v n cs) {b : Nat} (hb : v.ownBlock = some b) : b < w.heap.size := by
 rcases h.2 with ⟨rfl, _⟩ | ⟨g, c, cur, rfl, hg, _⟩
 ·cases hb
 ·obtain rfl : g = b := by simpa [Value.ownBlock] using hb
  exact (Array.getElem?_eq_some_iff.1 hg).1
theorem Own.keep (h : Own w t sz v n cs) (hk : ∀ b, v.ownBlock = some b → w'.heap[b]? = w.heap[b]?) : Own w' t sz v n cs := by
 refine ⟨h.1, ?_⟩
 rcases h.2 with h2 | ⟨g, c, cur, rfl, hg, r⟩
 ·exact .inl h2
 ·exact .inr ⟨g, c, cur, rfl, (hk g rfl).trans hg, r⟩
theorem Own.new (h : Own w t sz v n cs) (hb : Below w.heap.size w w') : Own w' t sz v n cs := h.keep fun b e => hb.block b (h.lt e)
theorem Own.mod {S : Nat → Prop} (h : Own w t sz v n cs) (hb : Mod S w w') (hS : ∀ b, v.ownBlock = some b → ¬ S b) : Own w' t sz v n cs := h.keep fun b e => hb.block b (h.lt e) (hS b e)
theorem Own.rd (h : Own w t sz v n cs) : ∃ A c, v = .slice A n c ∧ Rd w A n c sz cs ∧ (∀ b o, A = some ⟨b, o, none⟩ → v.ownBlock = some b) := by
 rcases h.2 with ⟨rfl, rfl⟩ | ⟨g, c, cur, rfl, hg, h1, h2, h3, h4⟩
 ·exact ⟨none, 0, rfl, ⟨by omega, by omega, h.1, fun h => absurd h (by omega)⟩, fun b o e => by cases e⟩
 ·refine ⟨_, c, rfl, ⟨h1, h2, h.1, fun _ => ⟨g, 0, rfl, (Array.getElem?_eq_some_iff.1 hg).1, fun j u hu => ?_⟩⟩, fun b o e => by cases e; rfl⟩
  rw [← h4, List.getElem?_take] at hu
  split at hu
  ·rw [cell_of_row w g (0 + j) cur t (0, 0) hg, Nat.zero_add]
   simpa using hu
  ·cases hu
theorem Own.made (w : World) (cur : Array Value) (n : Nat) (hn : n ≤ 9223372036854775807) (hs : cur.size = n * sz) : Own (w.alloc (.cells cur t)) t sz (.slice (some ⟨w.heap.size, 0, none⟩) n n) n cur.toList :=
 ⟨by simpa using hs, .inr ⟨_, n, cur, rfl, heap_alloc_new w _, Nat.le_refl _, hn, by omega, by rw [← hs, ← Array.length_toList, List.take_length]⟩⟩
theorem Own.set_ {b c : Nat} (h : Own w t sz (.slice (some ⟨b, 0, none⟩) n c) n cs) {j : Nat} (hj : j < n * sz) (u : Value) :
  w.cell? ⟨b, j, none⟩ = cs[j]? ∧ w.frozen? ⟨b, j, none⟩ = false ∧ Own (w.setCell ⟨b, j, none⟩ u) t sz (.slice (some ⟨b, 0, none⟩) n c) n (cs.set j u) := by
 obtain ⟨hl, h2⟩ := h
 rcases h2 with ⟨e, rfl⟩ | ⟨g, c', cur, e, hg, h1, h2, h3, h4⟩
 ·cases e
 ·injection e with e1 e2 e3
  injection e1 with e1
  injection e1 with e1
  subst e1 e3
  have hm := Nat.mul_le_mul_right sz h1
  refine ⟨?_, ?_, ?_, .inr ⟨b, c, cur.setIfInBounds j u, rfl, ?_, h1, h2, by simpa using h3, ?_⟩⟩
  ·rw [cell_of_row w b j cur t (0, 0) hg, ← h4, List.getElem?_take, if_pos hj]
   simp
  ·simp [World.frozen?, hg]
  ·simpa using hl
  ·simp [World.setCell, Array.getElem?_modify, hg]
  ·rw [← h4, Array.toList_setIfInBounds, List.take_set]
theorem own_blk_ne {g : Nat} {t' : TypeId} {bs : Array Value} (h : Own w t sz v n cs) (hg : Blk w g t' bs) (hne : t ≠ t') : v.ownBlock ≠ some g := by
 rcases h.2 with ⟨rfl, _⟩ | ⟨g', cap, cur, rfl, hh, _⟩
 ·simp [Value.ownBlock]
 ·intro he
  have : g' = g := by simpa [Value.ownBlock] using he
  subst this
  exact Blk.ne_ (t := t) hh hg hne rfl
theorem own_own_ne {t' : TypeId} {sz' n' : Nat} {v' : Value} {cs' : List Value} (h : Own w t sz v n cs) (h' : Own w t' sz' v' n' cs') (hne : t ≠ t') {b : Nat} (hb : v.ownBlock = some b) : v'.ownBlock ≠ some b := by
 intro hb'
 rcases h.2 with ⟨rfl, _⟩ | ⟨g, c, cur, rfl, hg, _⟩
 ·cases hb
 ·rcases h'.2 with ⟨rfl, _⟩ | ⟨g', c', cur', rfl, hg', _⟩
  ·cases hb'
  ·have e1 : g = b := by simpa [Value.ownBlock] using hb
   have e2 : g' = b := by simpa [Value.ownBlock] using hb'
   subst e1 e2
   exact Blk.ne_ (t := t) (t' := t') hg hg' hne rfl
end
section
variable {P : Program} (w : World)
theorem run_append_Own (t ty e : TypeId) (i : TypeInfo) (z : Value) (size bytes : Nat) (ht : P.underlying t = some (.slice e)) (hi : P.info? e = some i) (hz : i.zero = some z)
  (hsize : i.size = size) (hby : i.bytes = bytes) (hzs : z.cells.size = size)
  (v : Value) (n : Nat) (xs : List Value) (hown : Own w e size v n xs)
  (A : Option Addr) (m c : Nat) (news : List Value) (hr : Rd w A m c size news) (h1 : ∀ u ∈ news, u.oneCell' = true)
  (hbytes : (n + m) * bytes ≤ 140737488355328) (h63 : n + m ≤ 9223372036854775807) :
  ∃ v' w', (Builtin.append_ #[t, t] ty #[v, .slice A m c]).run P w = .ok v' w' ∧ Own w' e size v' (n + m) (xs ++ news) ∧ w.grownBy w' v.ownBlock ∧
   (v'.ownBlock = v.ownBlock ∨ v'.ownBlock = some w.heap.size) := by
 subst hsize
 subst hby
 have hlen : (xs ++ news).length = (n + m) * i.size := by rw [List.length_append, hown.1, hr.2.2.1, Nat.add_mul]
 have grown : ∀ (old : Nat), old < n + m → ∀ (row : Option Nat),
   Own (w.drew.alloc (.cells (xs.toArray ++ news.toArray ++ Builtin.zeroCells z.cells (grownCap w (n + m) old e - (n + m))) e)) e i.size
    (.slice (some ⟨w.heap.size, 0, none⟩) (n + m) (grownCap w (n + m) old e)) (n + m) (xs ++ news) ∧
   w.grownBy (w.drew.alloc (.cells (xs.toArray ++ news.toArray ++ Builtin.zeroCells z.cells (grownCap w (n + m) old e - (n + m))) e)) row := by
  intro old ho row
  have hge := grownCap_ge w (n + m) old e
  have hcm : grownCap w (n + m) old e ≤ maxLen := grownCap_le_maxLen w (n + m) old e (by simp only [maxLen]; omega)
  refine ⟨⟨hlen, .inr ⟨w.heap.size, _, _, rfl, heap_alloc_new w.drew _, hge, by simp only [maxLen] at hcm; omega, ?_, ?_⟩⟩, ⟨rfl, rfl, rfl, by simp, fun k hk _ => heap_alloc_old w.drew _ hk⟩⟩
  ·simp only [Array.size_append, List.size_toArray, size_zeroCells, hzs, hown.1, hr.2.2.1, ← Nat.add_mul]
   apply Nat.le_of_eq
   congr 1
   omega
  ·simp only [Array.toList_append, List.append_assoc]
   rw [← List.append_assoc, ← hlen]
   exact List.take_left
 by_cases hm : m = 0
 ·subst hm
  have hn : news = [] := List.eq_nil_of_length_eq_zero (by simpa using hr.2.2.1)
  subst hn
  refine ⟨v, w, ?_, by simpa using hown, World.grownBy.refl w _, .inl rfl⟩
  rcases hown.2 with ⟨rfl, rfl⟩ | ⟨g, cap, cur, rfl, _, hnc, _⟩
  ·cases A <;> simp [Builtin.append_, run_underlying ht, sizeOf, typeInfo, hi, Builtin.lenOf, Builtin.firstCells, loadCells, loadCellsFrom]
  ·cases A <;> simp [Builtin.append_, run_underlying ht, sizeOf, typeInfo, hi, Builtin.lenOf, Builtin.firstCells, loadCells, loadCellsFrom, hnc, storeCells]
 ·obtain ⟨b, o, rfl, hb, hc⟩ := hr.2.2.2 (by omega)
  have hnews : ∀ j u, news[j]? = some u → w.cell? ((⟨b, o, none⟩ : Addr).add j) = some u := by
   intro j u hu
   have := hc j u hu
   unfold Addr.add
   split
   ·simp_all
   ·exact this
  rcases hown.2 with ⟨rfl, rfl⟩ | ⟨g, cap, cur, rfl, hg, hnc, hcm, hcs, htake⟩
  ·have hx : xs = [] := List.eq_nil_of_length_eq_zero (by simpa using hown.1)
   subst hx
   have hrr := run_append_nil (P := P) w t ty e i z ht hi hz ⟨b, o, none⟩ m c news hr.2.2.1 hnews (by omega) (by omega) (by have hb := hbytes; simp only [Nat.zero_add] at hb; omega)
   have hgr := grown 0 (by omega) (Value.ownBlock (.slice none 0 0))
   simp only [Nat.zero_add, List.nil_append, Array.empty_append] at hgr ⊢
   exact ⟨_, _, hrr, hgr.1, hgr.2, .inr rfl⟩
  ·by_cases hroom : n + m ≤ cap
   ·have hfit : n * i.size + news.length ≤ cur.size := by
     have := Nat.mul_le_mul_right i.size hroom
     rw [hr.2.2.1, ← Nat.add_mul]
     omega
    have hrr := run_append_room (P := P) w t ty e i ht hi g n cap cur hg ⟨b, o, none⟩ m c news hr.2.2.1 hnews h1 hroom hfit
    refine ⟨_, _, hrr, ⟨hlen, .inr ⟨g, cap, _, rfl, setRow_heap w g cur _ e _ hg, hroom, hcm, ?_, ?_⟩⟩, ⟨rfl, rfl, rfl, by simp, fun k _ hk => setRow_other w g k _ (fun e => hk (by simp [Value.ownBlock, e]))⟩, .inl rfl⟩
    ·simp only [List.size_toArray, List.length_append, List.length_take, List.length_drop, Array.length_toList]
     omega
    ·rw [htake, ← hlen]
     exact List.take_left
   ·have holds : ∀ j u, xs[j]? = some u → w.cell? ((⟨g, 0, none⟩ : Addr).add j) = some u := by
     intro j u hu
     rw [← htake, List.getElem?_take] at hu
     split at hu
     ·have : w.cell? ⟨g, j, none⟩ = some u := by rw [cell_of_row w g j cur e (0, 0) hg]; simpa using hu
      unfold Addr.add
      split
      ·simp_all
      ·simpa using this
     ·cases hu
    have hrr := run_append_grow (P := P) w t ty e i z ht hi hz ⟨g, 0, none⟩ n cap xs hown.1 holds ⟨b, o, none⟩ m c news hr.2.2.1 hnews (by omega) (by omega) (growslice_fits (by omega) hbytes)
    have hgr := grown cap (by omega) (Value.ownBlock (.slice (some ⟨g, 0, none⟩) n cap))
    exact ⟨_, _, hrr, hgr.1, hgr.2, .inr rfl⟩
theorem wp_append_Own {o : Oper} {a : Act} {K : Act → World → Prop} {Q : Exit → Act → World → Prop} (s x : Operand) (t : TypeId)
  (ho : o.op = .call { callee := .builtin .append, args := #[s, x], argTypes := #[t, t] })
  (e : TypeId) (i : TypeInfo) (z : Value) (size bytes : Nat) (ht : P.underlying t = some (.slice e)) (hi : P.info? e = some i) (hz : i.zero = some z)
  (hsize : i.size = size) (hby : i.bytes = bytes) (hzs : z.cells.size = size)
  (v : Value) (n : Nat) (xs : List Value) (hs : a.eval s = v) (hown : Own w e size v n xs)
  (A : Option Addr) (m c : Nat) (news : List Value) (hx : a.eval x = .slice A m c) (hr : Rd w A m c size news) (h1 : ∀ u ∈ news, u.oneCell' = true)
  (hbytes : (n + m) * bytes ≤ 140737488355328) (h63 : n + m ≤ 9223372036854775807)
  (h : ∀ v' w', Own w' e size v' (n + m) (xs ++ news) → w.grownBy w' v.ownBlock → (v'.ownBlock = v.ownBlock ∨ v'.ownBlock = some w.heap.size) → K (a.put o.dst v') w') : o.wp P a w K Q := by
 obtain ⟨v', w', hrun, h2, h3, h4⟩ := run_append_Own (P := P) w t o.type e i z size bytes ht hi hz hsize hby hzs v n xs hown A m c news hr h1 hbytes h63
 unfold Oper.wp execOp
 simp only [ho, resolve, invoke, builtin, Sem.run_bind, Sem.run_pure, Result.andThen_ok, List.map_toArray, List.map_cons, List.map_nil, hs, hx, hrun]
 exact h v' w' h2 h3 h4
theorem wpList_append_Own {ops : Array Oper} {rest : List Oper} {o : Oper} {a : Act} {Q : Exit → Act → World → Prop} (hgd : o.guard = none) (s x : Operand) (t : TypeId)
  (ho : o.op = .call { callee := .builtin .append, args := #[s, x], argTypes := #[t, t] })
  (e : TypeId) (i : TypeInfo) (z : Value) (size bytes : Nat) (ht : P.underlying t = some (.slice e)) (hi : P.info? e = some i) (hz : i.zero = some z)
  (hsize : i.size = size) (hby : i.bytes = bytes) (hzs : z.cells.size = size)
  (v : Value) (n : Nat) (xs : List Value) (hs : a.eval s = v) (hown : Own w e size v n xs)
  (A : Option Addr) (m c : Nat) (news : List Value) (hx : a.eval x = .slice A m c) (hr : Rd w A m c size news) (h1 : ∀ u ∈ news, u.oneCell' = true)
  (hbytes : (n + m) * bytes ≤ 140737488355328) (h63 : n + m ≤ 9223372036854775807)
  (h : ∀ v' w', Own w' e size v' (n + m) (xs ++ news) → w.grownBy w' v.ownBlock → (v'.ownBlock = v.ownBlock ∨ v'.ownBlock = some w.heap.size) → wpList P ops Q rest (a.put o.dst v') w') : wpList P ops Q (o :: rest) a w :=
 wpList_plain hgd fun _ hK => wp_append_Own w s x t ho e i z size bytes ht hi hz hsize hby hzs v n xs hs hown A m c news hx hr h1 hbytes h63 fun v' w' h2 h3 h4 => hK _ _ (h v' w' h2 h3 h4)
theorem step_append_Own {ops : Array Oper} {o : Oper} {a : Act} {K : Act → World → Prop} {Q : Exit → Act → World → Prop} {E : Prop} (hgd : o.guard = none) (s x : Operand) (t : TypeId)
  (ho : o.op = .call { callee := .builtin .append, args := #[s, x], argTypes := #[t, t] })
  (e : TypeId) (i : TypeInfo) (z : Value) (size bytes : Nat) (ht : P.underlying t = some (.slice e)) (hi : P.info? e = some i) (hz : i.zero = some z)
  (hsize : i.size = size) (hby : i.bytes = bytes) (hzs : z.cells.size = size)
  (v : Value) (n : Nat) (xs : List Value) (hs : a.eval s = v) (hown : Own w e size v n xs)
  (A : Option Addr) (m c : Nat) (news : List Value) (hx : a.eval x = .slice A m c) (hr : Rd w A m c size news) (h1 : ∀ u ∈ news, u.oneCell' = true)
  (hbytes : (n + m) * bytes ≤ 140737488355328) (h63 : n + m ≤ 9223372036854775807)
  (h : ∀ v' w', Own w' e size v' (n + m) (xs ++ news) → w.grownBy w' v.ownBlock → (v'.ownBlock = v.ownBlock ∨ v'.ownBlock = some w.heap.size) → K (a.put o.dst v') w') :
  if Region.wanted o (yielded ops a.tmps) = true then Oper.wp P o a w K Q else E := by
 have hw : Region.wanted o (yielded ops a.tmps) = true := by simp [Region.wanted, hgd]
 rw [if_pos hw]
 exact wp_append_Own w s x t ho e i z size bytes ht hi hz hsize hby hzs v n xs hs hown A m c news hx hr h1 hbytes h63 h
end
theorem bl0 {B : Nat} {w : World} : Below B w w := Below.refl _ _
theorem bl1 {w : World} {o : Obj} : Below w.heap.size w (w.alloc o) := Below.alloc (Below.refl _ _) (Nat.le_refl _) _
theorem bl2 {w : World} {o o' : Obj} : Below w.heap.size w ((w.alloc o).alloc o') := Below.alloc bl1 (by simp) _
theorem bl5 {w : World} {o o1 o2 o3 o4 : Obj} : Below w.heap.size w (((((w.alloc o).alloc o1).alloc o2).alloc o3).alloc o4) := Below.alloc (Below.alloc (Below.alloc bl2 (by simp; omega) _) (by simp; omega) _) (by simp; omega) _
theorem bld {w : World} : Below w.heap.size w w.drew := Below.drew (Below.refl _ _)
theorem bln {w : World} {n : Nat} : Below w.heap.size w (w.drewN n) := below_drewN (Below.refl _ _) n
theorem bl1d {w : World} {o : Obj} : Below w.heap.size w (w.alloc o).drew := Below.drew bl1
theorem bl1n {w : World} {o : Obj} {n : Nat} : Below w.heap.size w ((w.alloc o).drewN n) := below_drewN bl1 n
theorem qh {p : Prop} (h : p) : Hid p := Lib.hid h
theorem LL : (∀ {α : Type} {a b : List α}, (a ++ b).length = a.length + b.length) ∧ (∀ {α : Type} {a : α} {b : List α}, (a :: b).length = b.length + 1) ∧ (∀ {α : Type}, ([] : List α).length = 0) := ⟨List.length_append, List.length_cons, List.length_nil⟩
theorem GG : (∀ {α : Type} {l : List α} {i : Nat}, l.toArray[i]? = l[i]?) ∧ (∀ {α : Type} {a : α} {l : List α}, (a :: l)[0]? = some a) ∧ (∀ {α : Type} {a : α} {l : List α} {i : Nat}, (a :: l)[i + 1]? = l[i]?) := ⟨List.getElem?_toArray, List.getElem?_cons_zero, List.getElem?_cons_succ⟩
theorem PP : (∀ {α : Type} {l : List α} {i : Nat} {a : α}, l.toArray.setIfInBounds i a = (l.set i a).toArray) ∧ (∀ {α : Type} {x a : α} {l : List α}, (x :: l).set 0 a = a :: l) ∧ (∀ {α : Type} {x a : α} {l : List α} {i : Nat}, (x :: l).set (i + 1) a = x :: l.set i a) := ⟨List.setIfInBounds_toArray .., List.set_cons_zero, List.set_cons_succ⟩
theorem PQ : (∀ {α : Type} {l : Array α} {i : Nat} {a : α}, l.set! i a = l.setIfInBounds i a) ∧ (∀ {α : Type} {l : List α} {i : Nat} {a : α}, l.toArray.setIfInBounds i a = (l.set i a).toArray) ∧ (∀ {α : Type} {x a : α} {l : List α} {i : Nat}, (x :: l).set (i + 1) a = x :: l.set i a) ∧ (∀ {α : Type} {x a : α} {l : List α}, (x :: l).set 0 a = a :: l) := ⟨Array.set!_eq_setIfInBounds, List.setIfInBounds_toArray .., List.set_cons_succ, List.set_cons_zero⟩
end
section
set_option linter.unusedVariables false
set_option linter.unusedSimpArgs false
structure TokD where
 k : Int
 at_ : Int
 s : ByteArray
 n : Int
structure NodeD where
 op : Int
 at_ : Int
 s : ByteArray
 n : Int
 kids : List Int
structure PS where
 at_ : Nat
 bad : Int
 e : Int
 ns : List NodeD
 dp : List Int
abbrev kLambda : ByteArray := ⟨#[108, 97, 109, 98, 100, 97]⟩
abbrev kIf : ByteArray := ⟨#[105, 102]⟩
abbrev kElse : ByteArray := ⟨#[101, 108, 115, 101]⟩
abbrev kOr : ByteArray := ⟨#[111, 114]⟩
abbrev kAnd : ByteArray := ⟨#[97, 110, 100]⟩
abbrev kNot : ByteArray := ⟨#[110, 111, 116]⟩
abbrev kIn : ByteArray := ⟨#[105, 110]⟩
abbrev kIs : ByteArray := ⟨#[105, 115]⟩
abbrev kNone : ByteArray := ⟨#[78, 111, 110, 101]⟩
abbrev kTrue : ByteArray := ⟨#[84, 114, 117, 101]⟩
abbrev kFalse : ByteArray := ⟨#[70, 97, 108, 115, 101]⟩
abbrev gColon : ByteArray := ⟨#[58]⟩
abbrev gEq : ByteArray := ⟨#[61]⟩
abbrev gComma : ByteArray := ⟨#[44]⟩
abbrev gPlus : ByteArray := ⟨#[43]⟩
abbrev gMinus : ByteArray := ⟨#[45]⟩
abbrev gStar : ByteArray := ⟨#[42]⟩
abbrev gDiv : ByteArray := ⟨#[47, 47]⟩
abbrev gMod : ByteArray := ⟨#[37]⟩
abbrev gPow : ByteArray := ⟨#[42, 42]⟩
abbrev gDot : ByteArray := ⟨#[46]⟩
abbrev gLp : ByteArray := ⟨#[40]⟩
abbrev gRp : ByteArray := ⟨#[41]⟩
abbrev gLb : ByteArray := ⟨#[91]⟩
abbrev gRb : ByteArray := ⟨#[93]⟩
abbrev gLc : ByteArray := ⟨#[123]⟩
abbrev gRc : ByteArray := ⟨#[125]⟩
abbrev gEqq : ByteArray := ⟨#[61, 61]⟩
abbrev gNe : ByteArray := ⟨#[33, 61]⟩
abbrev gLt : ByteArray := ⟨#[60]⟩
abbrev gLe : ByteArray := ⟨#[60, 61]⟩
abbrev gGt : ByteArray := ⟨#[62]⟩
abbrev gGe : ByteArray := ⟨#[62, 61]⟩
abbrev tNotIn : ByteArray := ⟨#[110, 111, 116, 32, 105, 110]⟩
abbrev tIsNot : ByteArray := ⟨#[105, 115, 32, 110, 111, 116]⟩
def keywords : List ByteArray := [⟨#[78, 111, 110, 101]⟩, ⟨#[84, 114, 117, 101]⟩, ⟨#[70, 97, 108, 115, 101]⟩, ⟨#[97, 110, 100]⟩, ⟨#[111, 114]⟩, ⟨#[110, 111, 116]⟩, ⟨#[105, 102]⟩, ⟨#[101, 108, 115, 101]⟩, ⟨#[101, 108, 105, 102]⟩, ⟨#[119, 104, 105, 108, 101]⟩, ⟨#[102, 111, 114]⟩, ⟨#[105, 110]⟩, ⟨#[105, 115]⟩, ⟨#[98, 114, 101, 97, 107]⟩, ⟨#[99, 111, 110, 116, 105, 110, 117, 101]⟩, ⟨#[112, 97, 115, 115]⟩, ⟨#[100, 101, 102]⟩, ⟨#[99, 108, 97, 115, 115]⟩, ⟨#[114, 101, 116, 117, 114, 110]⟩, ⟨#[114, 97, 105, 115, 101]⟩, ⟨#[116, 114, 121]⟩, ⟨#[101, 120, 99, 101, 112, 116]⟩, ⟨#[97, 115]⟩, ⟨#[102, 105, 110, 97, 108, 108, 121]⟩, ⟨#[103, 108, 111, 98, 97, 108]⟩, ⟨#[110, 111, 110, 108, 111, 99, 97, 108]⟩, ⟨#[100, 101, 108]⟩, ⟨#[97, 115, 115, 101, 114, 116]⟩, ⟨#[121, 105, 101, 108, 100]⟩, ⟨#[108, 97, 109, 98, 100, 97]⟩]
def kwB (t : ByteArray) : Bool := keywords.any fun k => decide (k = t)
def letterB (c : UInt8) : Bool := (decide (97 ≤ c ||| 32) && decide (c ||| 32 ≤ 122) && decide (65 ≤ c)) || decide (c = 95)
def digitB (c : UInt8) : Bool := decide (48 ≤ c) && decide (c ≤ 57)
def nameB (t : ByteArray) : Bool := match t.data.toList with
 | [] => false
 | c :: r => letterB c && (c :: r).all (fun x => letterB x || digitB x) && !kwB t
def zeroT : TokD := ⟨0, 0, ⟨#[]⟩, 0⟩
section
variable (L : List TokD)
def tokP (s : PS) (by_ : Nat) : TokD := if s.e ≠ 0 then zeroT else (L[s.at_ + by_]?).getD zeroT
def isP (s : PS) (t : ByteArray) (by_ : Nat) : Bool := decide ((tokP L s by_).k = if kwB t then 1 else 4) && decide ((tokP L s by_).s = t)
def stepP (s : PS) (n : Nat) : PS := { s with at_ := s.at_ + n }
def failP (s : PS) (e at_ : Int) : PS := if s.e = 0 then { s with e := e, bad := at_ } else s
def anyP : List ByteArray → PS → PS × ByteArray × Bool
 | [], s => (s, ⟨#[]⟩, false)
 | t :: r, s => if isP L s t 0 then (stepP s 1, t, true) else anyP r s
def takeP (t : ByteArray) (s : PS) : PS × Bool := ((anyP L [t] s).1, (anyP L [t] s).2.2)
def needP (t : ByteArray) (s : PS) : PS := if (takeP L t s).2 then (takeP L t s).1 else failP (takeP L t s).1 30 (takeP L t s).1.at_
def nameP (s : PS) : PS × ByteArray := if (tokP L s 0).k = 1 ∧ nameB (tokP L s 0).s = true then (stepP s 1, (tokP L s 0).s) else (failP s 30 s.at_, ⟨#[]⟩)
end
def deepOf (s : PS) (k : Int) : Int := if k < 0 then 0 else (s.dp[k.toNat]?).getD 0
def placeOf (s : PS) (k : Int) : Int := if k < 0 then 0 else ((s.ns[k.toNat]?).map (·.at_)).getD 0
def deepest (s : PS) (kids : List Int) : Int := kids.foldl (fun m k => max m (deepOf s k)) 0
def addP (s : PS) (op at_ : Int) (t : ByteArray) (n : Int) (kids : List Int) : PS × Int :=
 if s.e ≠ 0 then (s, -1)
 else if 40 ≤ deepest s kids then (failP s 32 s.at_, -1)
 else ({ s with ns := s.ns ++ [⟨op, at_, t, n, kids.filter fun k => decide (0 ≤ k ∧ k < s.ns.length)⟩], dp := s.dp ++ [deepest s kids + 1] }, s.ns.length)
abbrev Ex := PS → Option (PS × Int)
section
variable (ex : Ex) (L : List TokD)
def rowE (fin : ByteArray) : Nat → PS → List Int → Option (PS × List Int)
 | 0, _, _ => none
 | m + 1, s, kids =>
  if s.e ≠ 0 then some (s, kids)
  else if (takeP L fin s).2 then some ((takeP L fin s).1, kids)
  else match ex (takeP L fin s).1 with
   | none => none
   | some (s1, x) =>
    if (takeP L gComma s1).2 then rowE fin m (takeP L gComma s1).1 (kids ++ [x])
    else some (needP L fin (takeP L gComma s1).1, kids ++ [x])
def pairsE : Nat → PS → List Int → Option (PS × List Int)
 | 0, _, _ => none
 | m + 1, s, out =>
  if s.e ≠ 0 then some (s, out)
  else if (takeP L gRc s).2 then some ((takeP L gRc s).1, out)
  else match ex (takeP L gRc s).1 with
   | none => none
   | some (s1, k) =>
    match ex (needP L gColon s1) with
    | none => none
    | some (s2, v) =>
     if (takeP L gComma s2).2 then pairsE m (takeP L gComma s2).1 (out ++ [k, v])
     else some (needP L gRc (takeP L gComma s2).1, out ++ [k, v])
def roundE (m : Nat) (at_ : Int) (s : PS) : Option (PS × Int) :=
 if (takeP L gRp s).2 then some (addP (takeP L gRp s).1 8 at_ ⟨#[]⟩ 0 [])
 else match ex (takeP L gRp s).1 with
  | none => none
  | some (s1, x) =>
   if (takeP L gRp s1).2 then some ((takeP L gRp s1).1, x)
   else match rowE ex L gRp m (needP L gComma (takeP L gRp s1).1) [x] with
    | none => none
    | some (s2, kids) => some (addP s2 8 at_ ⟨#[]⟩ 0 kids)
def wordOp (t : ByteArray) : Option Int := if t = kNone then some 1 else if t = kTrue then some 2 else if t = kFalse then some 3 else none
def noAtom (s : PS) : Option (PS × Int) := some (failP s 30 s.at_, -1)
def atomE (m : Nat) (s : PS) : Option (PS × Int) :=
 let t := tokP L s 0
 let s1 := stepP s 1
 if t.k = 2 then some (addP s1 4 t.at_ ⟨#[]⟩ t.n [])
 else if t.k = 3 then some (addP s1 5 t.at_ t.s 0 [])
 else if t.k = 1 then
  match wordOp t.s with
  | some op => some (addP s1 op t.at_ ⟨#[]⟩ 0 [])
  | none => if nameB t.s then some (addP s1 6 t.at_ t.s 0 []) else noAtom s
 else if t.k = 4 then
  if t.s = gLp then roundE ex L m t.at_ s1
  else if t.s = gLb then match rowE ex L gRb m s1 [] with
   | none => none
   | some (s2, kids) => some (addP s2 7 t.at_ ⟨#[]⟩ 0 kids)
  else if t.s = gLc then match pairsE ex L m s1 [] with
   | none => none
   | some (s2, kids) => some (addP s2 9 t.at_ ⟨#[]⟩ 0 kids)
  else noAtom s
 else noAtom s
def boundE (fin : ByteArray) (s : PS) : Option (PS × Int) := if isP L s fin 0 then some (addP s 1 (tokP L s 0).at_ ⟨#[]⟩ 0 []) else ex s
def indexE (x at_ : Int) (s : PS) : Option (PS × Int) :=
 match boundE ex L gColon s with
 | none => none
 | some (s1, y) =>
  if isP L s gColon 0 = false ∧ (takeP L gRb s1).2 = true then some (addP (takeP L gRb s1).1 19 at_ ⟨#[]⟩ 0 [x, y])
  else
   let s2 := if isP L s gColon 0 then s1 else (takeP L gRb s1).1
   match boundE ex L gRb (needP L gColon s2) with
   | none => none
   | some (s3, z) => some (addP (needP L gRb s3) 20 at_ ⟨#[]⟩ 0 [x, y, z])
def postE (m0 : Nat) (at_ : Int) : Nat → PS → Int → Option (PS × Int)
 | 0, _, _ => none
 | m + 1, s, x =>
  let r := anyP L [gDot, gLp, gLb] s
  if r.2.2 = false then some (s, x)
  else if r.2.1 = gDot then
   let q := nameP L r.1
   postE m0 at_ m (addP q.1 18 at_ q.2 0 [x]).1 (addP q.1 18 at_ q.2 0 [x]).2
  else if r.2.1 = gLp then match rowE ex L gRp m0 r.1 [x] with
   | none => none
   | some (s2, kids) => postE m0 at_ m (addP s2 17 at_ ⟨#[]⟩ 0 kids).1 (addP s2 17 at_ ⟨#[]⟩ 0 kids).2
  else match indexE ex L x at_ r.1 with
   | none => none
   | some (s2, y) => postE m0 at_ m s2 y
def postfixE (m : Nat) (s : PS) : Option (PS × Int) :=
 match atomE ex L m s with
 | none => none
 | some (s1, x) => postE ex L m (placeOf s1 x) m s1 x
def factorE (m0 : Nat) : Nat → PS → Option (PS × Int)
 | 0, _ => none
 | m + 1, s =>
  let at_ := (tokP L s 0).at_
  if (takeP L gMinus s).2 then match factorE m0 m (takeP L gMinus s).1 with
   | none => none
   | some (s1, x) => some (addP s1 10 at_ ⟨#[]⟩ 0 [x])
  else match postfixE ex L m0 (takeP L gMinus s).1 with
   | none => none
   | some (s1, x) =>
    if (takeP L gPow s1).2 then match factorE m0 m (takeP L gPow s1).1 with
     | none => none
     | some (s2, y) => some (addP s2 12 (placeOf s2 x) gPow 0 [x, y])
    else some ((takeP L gPow s1).1, x)
def leftE (part : Ex) (op : Int) (signs : List ByteArray) : Nat → PS → Int → Option (PS × Int)
 | 0, _, _ => none
 | m + 1, s, x =>
  let r := anyP L signs s
  if r.2.2 = false then some (s, x)
  else match part r.1 with
   | none => none
   | some (s1, y) =>
    let q := addP s1 op (placeOf s1 x) (if op = 12 then r.2.1 else ⟨#[]⟩) 0 [x, y]
    leftE part op signs m q.1 q.2
def partsE (part : Ex) (op : Int) (signs : List ByteArray) (m : Nat) (s : PS) : Option (PS × Int) :=
 match part s with
 | none => none
 | some (s1, x) => leftE L part op signs m s1 x
def termE (m : Nat) : Ex := partsE L (factorE ex L m m) 12 [gStar, gDiv, gMod] m
def sumE (m : Nat) : Ex := partsE L (termE ex L m) 12 [gPlus, gMinus] m
def compares (s : PS) : ByteArray × Nat :=
 if isP L s gEqq 0 then (gEqq, 1) else if isP L s gNe 0 then (gNe, 1) else if isP L s gLt 0 then (gLt, 1) else if isP L s gLe 0 then (gLe, 1)
 else if isP L s gGt 0 then (gGt, 1) else if isP L s gGe 0 then (gGe, 1) else if isP L s kIn 0 then (kIn, 1)
 else if isP L s kNot 0 && isP L s kIn 1 then (tNotIn, 2) else if isP L s kIs 0 && isP L s kNot 1 then (tIsNot, 2) else if isP L s kIs 0 then (kIs, 1) else (⟨#[]⟩, 0)
def notE (m0 : Nat) : Nat → PS → Option (PS × Int)
 | 0, _ => none
 | m + 1, s =>
  let at_ := (tokP L s 0).at_
  if (takeP L kNot s).2 then match notE m0 m (takeP L kNot s).1 with
   | none => none
   | some (s1, x) => some (addP s1 11 at_ ⟨#[]⟩ 0 [x])
  else match sumE ex L m0 (takeP L kNot s).1 with
   | none => none
   | some (s1, x) =>
    if (compares L s1).2 = 0 then some (s1, x)
    else match sumE ex L m0 (stepP s1 (compares L s1).2) with
     | none => none
     | some (s2, y) =>
      let q := addP s2 13 (placeOf s2 x) (compares L s1).1 0 [x, y]
      if 0 < (compares L q.1).2 then some (failP q.1 30 q.1.at_, -1) else some q
def andE (m : Nat) : Ex := partsE L (notE ex L m m) 14 [kAnd] m
def orE (m : Nat) : Ex := partsE L (andE ex L m) 15 [kOr] m
def paramsE : Nat → PS → List Int → Bool → Option (PS × List Int)
 | 0, _, _, _ => none
 | m + 1, s, out, late =>
  if s.e ≠ 0 then some (s, out)
  else
   let c := if out = [] then takeP L gColon s else (s, false)
   if c.2 then some (c.1, out)
   else
    let s0 := c.1
    let at_ := (tokP L s0 0).at_
    let q := nameP L s0
    if (takeP L gEq q.1).2 then match ex (takeP L gEq q.1).1 with
     | none => none
     | some (s1, x) =>
      let a := addP s1 22 at_ q.2 0 [x]
      if (takeP L gComma a.1).2 then paramsE m (takeP L gComma a.1).1 (out ++ [a.2]) true
      else some (needP L gColon (takeP L gComma a.1).1, out ++ [a.2])
    else
     let s1 := if late then failP (takeP L gEq q.1).1 30 s0.at_ else (takeP L gEq q.1).1
     let a := addP s1 22 at_ q.2 0 []
     if (takeP L gComma a.1).2 then paramsE m (takeP L gComma a.1).1 (out ++ [a.2]) late
     else some (needP L gColon (takeP L gComma a.1).1, out ++ [a.2])
def exprB (m : Nat) (s : PS) : Option (PS × Int) :=
 let at_ := (tokP L s 0).at_
 if (takeP L kLambda s).2 then match paramsE ex L m (takeP L kLambda s).1 [] false with
  | none => none
  | some (s1, kids) => match ex s1 with
   | none => none
   | some (s2, x) => some (addP s2 21 at_ ⟨#[]⟩ 0 (kids ++ [x]))
 else match orE ex L m (takeP L kLambda s).1 with
  | none => none
  | some (s1, x) =>
   if (takeP L kIf s1).2 then match orE ex L m (takeP L kIf s1).1 with
    | none => none
    | some (s2, y) => match ex (needP L kElse s2) with
     | none => none
     | some (s3, z) => some (addP s3 16 (placeOf s3 x) ⟨#[]⟩ 0 [x, y, z])
   else some ((takeP L kIf s1).1, x)
end
def exprE (L : List TokD) : Nat → Ex
 | 0, _ => none
 | m + 1, s => exprB (exprE L m) L m s
def startS : PS := ⟨0, 0, 0, [], []⟩
end
section
set_option linter.unusedVariables false
set_option linter.unusedSimpArgs false
def KidsOk (ns : List NodeD) : Prop := ∀ (i : Nat) x, ns[i]? = some x → ∀ k ∈ x.kids, 0 ≤ k ∧ k < (i : Int)
structure Gr (n : Nat) (d : Int) (s s' : PS) : Prop where
 up : s.at_ ≤ s'.at_
 le : s.at_ ≤ n → s'.at_ ≤ n
 bad : s.e ≠ 0 → s' = s
 pre : ∃ t, s'.ns = s.ns ++ t
 dpre : ∃ t, s'.dp = s.dp ++ t
 len : s.dp.length = s.ns.length → s'.dp.length = s'.ns.length
 er : s.at_ ≤ n → s.e = 0 → s'.e = 0 ∨ ((s'.e = 30 ∨ s'.e = 32) ∧ ∃ k : Nat, s'.bad = k ∧ k ≤ n)
 kids : KidsOk s.ns → KidsOk s'.ns
 cnt : (s'.ns.length : Int) + 3 * s.at_ ≤ s.ns.length + 3 * s'.at_ + d
section
variable {n : Nat} {d d' : Int} {s s1 s2 : PS}
theorem Gr.refl (n : Nat) (s : PS) : Gr n 0 s s := ⟨Nat.le_refl _, id, fun _ => rfl, ⟨[], by simp⟩, ⟨[], by simp⟩, id, fun _ h => .inl h, id, by omega⟩
theorem Gr.trans (h : Gr n d s s1) (k : Gr n d' s1 s2) : Gr n (d + d') s s2 := by
 refine ⟨Nat.le_trans h.up k.up, fun x => k.le (h.le x), fun e => ?_, ?_, ?_, fun x => k.len (h.len x), fun x e => ?_, fun x => k.kids (h.kids x), ?_⟩
 ·have e1 := h.bad e
  rw [e1] at k
  rw [k.bad e]
 ·obtain ⟨t, ht⟩ := h.pre
  obtain ⟨u, hu⟩ := k.pre
  exact ⟨t ++ u, by rw [hu, ht, List.append_assoc]⟩
 ·obtain ⟨t, ht⟩ := h.dpre
  obtain ⟨u, hu⟩ := k.dpre
  exact ⟨t ++ u, by rw [hu, ht, List.append_assoc]⟩
 ·rcases h.er x e with h1 | h1
  ·exact k.er (h.le x) h1
  ·have e2 : s1.e ≠ 0 := by rcases h1.1 with h2 | h2 <;> rw [h2] <;> decide
   rw [k.bad e2]
   exact .inr h1
 ·have := h.cnt
  have := k.cnt
  omega
theorem Gr.weak (h : Gr n d s s1) (hd : d ≤ d') : Gr n d' s s1 := ⟨h.up, h.le, h.bad, h.pre, h.dpre, h.len, h.er, h.kids, by have := h.cnt; omega⟩
theorem Gr.pos (h : Gr n d s s1) (e : s1.e = 0) : s.e = 0 := Decidable.byContradiction fun h1 => by rw [h.bad h1] at e; exact h1 e
end
section
variable {L : List TokD} {s : PS}
theorem tokP_bad (h : s.e ≠ 0) (b : Nat) : tokP L s b = zeroT := by unfold tokP; rw [if_pos h]
theorem tokP_in {b : Nat} (h : (tokP L s b).k ≠ 0) : s.e = 0 ∧ s.at_ + b < L.length := by
 refine ⟨Decidable.byContradiction fun h1 => h (by rw [tokP_bad h1]; rfl), Nat.lt_of_not_le fun h1 => h ?_⟩
 unfold tokP
 split
 ·rfl
 ·rw [List.getElem?_eq_none h1]; rfl
theorem isP_in {t : ByteArray} {b : Nat} (h : isP L s t b = true) : s.e = 0 ∧ s.at_ + b < L.length := by
 unfold isP at h
 rw [Bool.and_eq_true] at h
 refine tokP_in (b := b) fun e => ?_
 rw [e] at h
 have h1 := of_decide_eq_true h.1
 split at h1 <;> omega
theorem step_gr {k : Nat} (h : s.e = 0) (hn : s.at_ + k ≤ L.length) : Gr L.length (-3 * k) s (stepP s k) := by
 refine ⟨?_, fun _ => hn, fun e => absurd h e, ⟨[], by simp [stepP]⟩, ⟨[], by simp [stepP]⟩, id, fun _ e => .inl e, id, ?_⟩
 ·show s.at_ ≤ s.at_ + k
  omega
 ·show (s.ns.length : Int) + 3 * s.at_ ≤ s.ns.length + 3 * (s.at_ + k : Nat) + (-3 * k)
  omega
theorem any_cases : ∀ (l : List ByteArray), (anyP L l s = (s, ⟨#[]⟩, false) ∧ ∀ t ∈ l, isP L s t 0 = false) ∨ ∃ t ∈ l, isP L s t 0 = true ∧ anyP L l s = (stepP s 1, t, true)
 | [] => .inl ⟨rfl, fun t h => by cases h⟩
 | t :: l => by
  unfold anyP
  cases h : isP L s t 0 with
  | true => exact .inr ⟨t, .head _, h, by rw [if_pos rfl]⟩
  | false =>
   rw [if_neg (by simp)]
   rcases any_cases l with ⟨h1, h2⟩ | ⟨u, hu, h1, h2⟩
   ·exact .inl ⟨h1, fun x hx => by rcases List.mem_cons.1 hx with rfl | hx; exact h; exact h2 x hx⟩
   ·exact .inr ⟨u, .tail _ hu, h1, h2⟩
theorem any_gr (l : List ByteArray) : Gr L.length (if (anyP L l s).2.2 then -3 else 0) s (anyP L l s).1 := by
 rcases any_cases (L := L) (s := s) l with ⟨h, _⟩ | ⟨t, _, h1, h⟩
 ·rw [h]; exact Gr.refl _ _
 ·rw [h]; exact step_gr (k := 1) (isP_in h1).1 (isP_in h1).2
theorem any_yes {l : List ByteArray} (h : (anyP L l s).2.2 = true) : Gr L.length (-3) s (anyP L l s).1 := by have := any_gr (L := L) (s := s) l; rwa [h] at this
theorem any_any_gr (l : List ByteArray) : Gr L.length 0 s (anyP L l s).1 := (any_gr l).weak (by split <;> omega)
theorem take_gr (t : ByteArray) : Gr L.length 0 s (takeP L t s).1 := any_any_gr [t]
theorem take_yes {t : ByteArray} (h : (takeP L t s).2 = true) : Gr L.length (-3) s (takeP L t s).1 := any_yes (l := [t]) h
theorem take_no {t : ByteArray} (h : (takeP L t s).2 = false) : (takeP L t s).1 = s := by
 rcases any_cases (L := L) (s := s) [t] with ⟨h1, _⟩ | ⟨u, _, _, h1⟩
 ·unfold takeP; rw [h1]
 ·unfold takeP at h; rw [h1] at h; cases h
theorem take_is (t : ByteArray) : (takeP L t s).2 = isP L s t 0 := by
 unfold takeP anyP anyP
 cases h : isP L s t 0 <;> simp [h]
theorem take_step {t : ByteArray} (h : (takeP L t s).2 = true) : (takeP L t s).1 = stepP s 1 ∧ s.e = 0 ∧ s.at_ < L.length := by
 rw [take_is] at h
 refine ⟨?_, isP_in h⟩
 unfold takeP anyP
 rw [if_pos h]
theorem fail_gr {e : Int} (he : e = 30 ∨ e = 32) {b : Int} {k : Nat} (hb : b = k) (hk : s.at_ ≤ L.length → k ≤ L.length) : Gr L.length 0 s (failP s e b) := by
 unfold failP
 split
 ·rename_i h
  exact ⟨Nat.le_refl _, id, fun e => absurd h e, ⟨[], by simp⟩, ⟨[], by simp⟩, id, fun hn _ => .inr ⟨he, k, hb, hk hn⟩, id, by show (s.ns.length : Int) + 3 * (s.at_ : Int) ≤ s.ns.length + 3 * (s.at_ : Int) + 0; omega⟩
 ·exact Gr.refl _ _
theorem need_gr (t : ByteArray) : Gr L.length 0 s (needP L t s) := by
 unfold needP
 split
 ·exact take_gr t
 ·rename_i h
  have h1 := take_no (Bool.eq_false_iff.2 h)
  rw [h1]
  exact fail_gr (.inl rfl) rfl id
theorem name_gr : Gr L.length 0 s (nameP L s).1 := by
 unfold nameP
 split
 ·rename_i h
  have h1 := tokP_in (L := L) (s := s) (b := 0) (by rw [h.1]; decide)
  exact (step_gr h1.1 h1.2).weak (by omega)
 ·exact fail_gr (.inl rfl) rfl id
theorem name_then {d : Int} {s2 : PS} (h : Gr L.length d (nameP L s).1 s2) (h3 : d ≤ 3) : Gr L.length 0 s s2 := by
 by_cases hc : (tokP L s 0).k = 1 ∧ nameB (tokP L s 0).s = true
 ·have e : (nameP L s).1 = stepP s 1 := by unfold nameP; rw [if_pos hc]
  have h1 := tokP_in (L := L) (s := s) (b := 0) (by rw [hc.1]; decide)
  rw [e] at h
  exact ((step_gr (k := 1) h1.1 h1.2).trans h).weak (by omega)
 ·have e : (nameP L s).1.e ≠ 0 := by
   unfold nameP
   rw [if_neg hc]
   unfold failP
   split
   ·show (30 : Int) ≠ 0
    decide
   ·assumption
  rw [h.bad e]
  exact name_gr
theorem add_gr (op at_ : Int) (t : ByteArray) (m : Int) (kids : List Int) : Gr L.length 1 s (addP s op at_ t m kids).1 := by
 unfold addP
 split
 ·exact (Gr.refl _ _).weak (by omega)
 ·rename_i h0
  have h0 : s.e = 0 := Decidable.byContradiction h0
  split
  ·exact (fail_gr (.inr rfl) rfl id).weak (by omega)
  ·refine ⟨Nat.le_refl _, id, fun e => absurd h0 e, ⟨[_], rfl⟩, ⟨[_], rfl⟩, fun h => ?_, fun _ e => .inl e, fun hk => ?_, ?_⟩
   ·show (s.dp ++ [_]).length = (s.ns ++ [_]).length
    simp [h]
   ·unfold KidsOk
    intro i x hx k hkx
    simp only at hx
    rcases Nat.lt_trichotomy i s.ns.length with h1 | h1 | h1
    ·rw [List.getElem?_append_left h1] at hx
     exact hk i x hx k hkx
    ·subst h1
     rw [List.getElem?_append_right (Nat.le_refl _), Nat.sub_self] at hx
     obtain rfl := Option.some.inj hx
     simp only [List.mem_filter, decide_eq_true_eq] at hkx
     exact hkx.2
    ·rw [List.getElem?_eq_none (by simp; omega)] at hx
     cases hx
   ·show (((s.ns ++ [_]).length : Nat) : Int) + _ ≤ _
    simp
    omega
def In (s : PS) (x : Int) : Prop := x = -1 ∨ ∃ k : Nat, x = k ∧ k < s.ns.length
theorem In.mono {n : Nat} {d : Int} {s2 : PS} {x : Int} (h : In s x) (g : Gr n d s s2) : In s2 x := by
 rcases h with h | ⟨k, e, h⟩
 ·exact .inl h
 ·obtain ⟨t, ht⟩ := g.pre
  exact .inr ⟨k, e, by rw [ht, List.length_append]; omega⟩
theorem add_in (op at_ : Int) (t : ByteArray) (m : Int) (kids : List Int) : In (addP s op at_ t m kids).1 (addP s op at_ t m kids).2 := by
 unfold addP
 split
 ·exact .inl rfl
 ·split
  ·exact .inl rfl
  ·exact .inr ⟨s.ns.length, rfl, by simp⟩
end
def Gd (n : Nat) (d : Int) (s : PS) (r : PS × Int) : Prop := Gr n d s r.1 ∧ In r.1 r.2
def Gl (n : Nat) (d : Int) (s : PS) (r : PS × List Int) : Prop := Gr n d s r.1 ∧ ∀ k ∈ r.2, In r.1 k
abbrev GdE (n : Nat) (ex : Ex) : Prop := ∀ s r, ex s = some r → Gd n 0 s r
section
variable {L : List TokD} {ex : Ex} {s : PS}
theorem Gd.pre {d d' : Int} {s0 s1 : PS} {r : PS × Int} (h : Gd L.length d s1 r) (g : Gr L.length d' s0 s1) {d2 : Int} (hd : d' + d ≤ d2) : Gd L.length d2 s0 r := ⟨(g.trans h.1).weak hd, h.2⟩
theorem Gl.pre {d d' : Int} {s0 s1 : PS} {r : PS × List Int} (h : Gl L.length d s1 r) (g : Gr L.length d' s0 s1) {d2 : Int} (hd : d' + d ≤ d2) : Gl L.length d2 s0 r := ⟨(g.trans h.1).weak hd, h.2⟩
theorem add_gd (op at_ : Int) (t : ByteArray) (m : Int) (kids : List Int) : Gd L.length 1 s (addP s op at_ t m kids) := ⟨add_gr .., add_in ..⟩
theorem in_all {s1 s2 : PS} {l : List Int} {d : Int} (h : ∀ k ∈ l, In s1 k) (g : Gr L.length d s1 s2) : ∀ k ∈ l, In s2 k := fun k hk => (h k hk).mono g
theorem in_snoc {s1 : PS} {l : List Int} {x : Int} (h : ∀ k ∈ l, In s1 k) (hx : In s1 x) : ∀ k ∈ l ++ [x], In s1 k := fun k hk => by
 rcases List.mem_append.1 hk with h1 | h1
 ·exact h k h1
 ·rw [List.mem_singleton.1 h1]; exact hx
theorem noAtom_gd (s : PS) : Gd L.length 0 s (failP s 30 s.at_, -1) := ⟨fail_gr (.inl rfl) rfl id, .inl rfl⟩
theorem rowE_gl (hex : GdE L.length ex) (fin : ByteArray) : ∀ (m : Nat) (s : PS) (kids : List Int) (r : PS × List Int), (∀ k ∈ kids, In s k) → rowE ex L fin m s kids = some r → Gl L.length 0 s r
 | 0, s, kids, r, hk, h => by cases h
 | m + 1, s, kids, r, hk, h => by
  unfold rowE at h
  split at h
  ·obtain rfl := Option.some.inj h
   exact ⟨Gr.refl _ _, hk⟩
  ·split at h
   ·obtain rfl := Option.some.inj h
    exact ⟨take_gr _, in_all hk (take_gr (L := L) _)⟩
   ·split at h
    ·cases h
    ·rename_i s1 x he
     obtain ⟨g1, i1⟩ := hex _ _ he
     have g0 := (take_gr (L := L) (s := s) fin).trans g1
     have g2 := g0.trans (take_gr (L := L) gComma)
     split at h
     ·exact (rowE_gl hex fin m _ _ _ (in_snoc (in_all hk g2) (i1.mono (take_gr (L := L) gComma))) h).pre g2 (by omega)
     ·obtain rfl := Option.some.inj h
      have g3 := g2.trans (need_gr (L := L) fin)
      exact ⟨g3.weak (by omega), in_snoc (in_all hk g3) ((i1.mono (take_gr (L := L) gComma)).mono (need_gr (L := L) fin))⟩
theorem pairsE_gl (hex : GdE L.length ex) : ∀ (m : Nat) (s : PS) (kids : List Int) (r : PS × List Int), (∀ k ∈ kids, In s k) → pairsE ex L m s kids = some r → Gl L.length 0 s r
 | 0, s, kids, r, hk, h => by cases h
 | m + 1, s, kids, r, hk, h => by
  unfold pairsE at h
  split at h
  ·obtain rfl := Option.some.inj h
   exact ⟨Gr.refl _ _, hk⟩
  ·split at h
   ·obtain rfl := Option.some.inj h
    exact ⟨take_gr _, in_all hk (take_gr (L := L) _)⟩
   ·split at h
    ·cases h
    ·rename_i s1 x he
     obtain ⟨g1, i1⟩ := hex _ _ he
     have g0 := ((take_gr (L := L) (s := s) gRc).trans g1).trans (need_gr (L := L) gColon)
     split at h
     ·cases h
     ·rename_i s2 v hv
      obtain ⟨g2, i2⟩ := hex _ _ hv
      have gx := ((need_gr (L := L) (s := s1) gColon).trans g2).trans (take_gr (L := L) gComma)
      have g3 := (g0.trans g2).trans (take_gr (L := L) gComma)
      have hl : ∀ k ∈ kids ++ [x, v], In (takeP L gComma s2).1 k := by
       have := in_snoc (in_snoc (in_all hk g3) (i1.mono gx)) (i2.mono (take_gr (L := L) gComma))
       rwa [List.append_assoc] at this
      split at h
      ·exact (pairsE_gl hex m _ _ _ hl h).pre g3 (by omega)
      ·obtain rfl := Option.some.inj h
       have g4 := g3.trans (need_gr (L := L) gRc)
       exact ⟨g4.weak (by omega), in_all hl (need_gr (L := L) gRc)⟩
theorem roundE_gd (hex : GdE L.length ex) {m : Nat} {at_ : Int} {r : PS × Int} (h : roundE ex L m at_ s = some r) : Gd L.length 1 s r := by
 unfold roundE at h
 split at h
 ·obtain rfl := Option.some.inj h
  exact (add_gd ..).pre (take_gr (L := L) gRp) (by omega)
 ·split at h
  ·cases h
  ·rename_i s1 x he
   obtain ⟨g1, i1⟩ := hex _ _ he
   have g2 := ((take_gr (L := L) (s := s) gRp).trans g1).trans (take_gr (L := L) gRp)
   split at h
   ·obtain rfl := Option.some.inj h
    exact ⟨g2.weak (by omega), i1.mono (take_gr (L := L) gRp)⟩
   ·split at h
    ·cases h
    ·rename_i s2 kids hr
     obtain rfl := Option.some.inj h
     have g3 := (take_gr (L := L) (s := s1) gRp).trans (need_gr (L := L) gComma)
     have h4 := rowE_gl hex _ _ _ _ _ (in_snoc (l := []) (fun k hk => by cases hk) (i1.mono g3)) hr
     exact (add_gd ..).pre ((g2.trans (need_gr (L := L) gComma)).trans h4.1) (by omega)
theorem tok_kind {k : Int} (h : (tokP L s 0).k = k) (hk : k ≠ 0) : Gr L.length (-3) s (stepP s 1) := by
 have h1 := tokP_in (L := L) (s := s) (b := 0) (by rw [h]; exact hk)
 exact step_gr (k := 1) h1.1 h1.2
theorem atomE_gd (hex : GdE L.length ex) {m : Nat} {r : PS × Int} (h : atomE ex L m s = some r) : Gd L.length 0 s r := by
 unfold atomE at h
 simp only at h
 split at h
 ·rename_i hk
  obtain rfl := Option.some.inj h
  exact (add_gd ..).pre (tok_kind (L := L) hk (by decide)) (by omega)
 split at h
 ·rename_i _ hk
  obtain rfl := Option.some.inj h
  exact (add_gd ..).pre (tok_kind (L := L) hk (by decide)) (by omega)
 split at h
 ·rename_i _ _ hk
  split at h
  ·obtain rfl := Option.some.inj h
   exact (add_gd ..).pre (tok_kind (L := L) hk (by decide)) (by omega)
  ·split at h
   ·obtain rfl := Option.some.inj h
    exact (add_gd ..).pre (tok_kind (L := L) hk (by decide)) (by omega)
   ·obtain rfl := Option.some.inj h
    exact noAtom_gd s
 split at h
 ·rename_i _ _ _ hk
  have g0 := tok_kind (L := L) hk (by decide)
  split at h
  ·exact (roundE_gd hex h).pre g0 (by omega)
  ·split at h
   ·split at h
    ·cases h
    ·rename_i s2 kids hr
     obtain rfl := Option.some.inj h
     exact (add_gd ..).pre (g0.trans (rowE_gl hex _ _ _ _ _ (fun k hk => by cases hk) hr).1) (by omega)
   ·split at h
    ·split at h
     ·cases h
     ·rename_i s2 kids hr
      obtain rfl := Option.some.inj h
      exact (add_gd ..).pre (g0.trans (pairsE_gl hex _ _ _ _ (fun k hk => by cases hk) hr).1) (by omega)
    ·obtain rfl := Option.some.inj h
     exact noAtom_gd s
 ·obtain rfl := Option.some.inj h
  exact noAtom_gd s
theorem boundE_gd (hex : GdE L.length ex) {fin : ByteArray} {r : PS × Int} (h : boundE ex L fin s = some r) : Gd L.length 1 s r := by
 unfold boundE at h
 split at h
 ·obtain rfl := Option.some.inj h
  exact add_gd ..
 ·exact (hex _ _ h).pre (Gr.refl _ _) (by omega)
theorem indexE_gd (hex : GdE L.length ex) {x at_ : Int} {r : PS × Int} (h : indexE ex L x at_ s = some r) : Gd L.length 3 s r := by
 unfold indexE at h
 simp only at h
 split at h
 ·cases h
 ·rename_i s1 y he
  obtain ⟨g1, i1⟩ := boundE_gd hex he
  split at h
  ·obtain rfl := Option.some.inj h
   exact (add_gd ..).pre (g1.trans (take_gr (L := L) gRb)) (by omega)
  ·split at h
   ·cases h
   ·rename_i s3 z hz
    obtain rfl := Option.some.inj h
    have g2 : Gr L.length 0 s1 (if isP L s gColon 0 = true then s1 else (takeP L gRb s1).1) := by
     split
     ·exact Gr.refl _ _
     ·exact take_gr _
    obtain ⟨g3, i3⟩ := boundE_gd hex hz
    exact (add_gd ..).pre ((((g1.trans g2).trans (need_gr (L := L) gColon)).trans g3).trans (need_gr (L := L) gRb)) (by omega)
theorem postE_gd (hex : GdE L.length ex) (m0 : Nat) (at_ : Int) : ∀ (m : Nat) (s : PS) (x : Int) (r : PS × Int), In s x → postE ex L m0 at_ m s x = some r → Gd L.length 0 s r
 | 0, s, x, r, hx, h => by cases h
 | m + 1, s, x, r, hx, h => by
  unfold postE at h
  simp only at h
  split at h
  ·obtain rfl := Option.some.inj h
   exact ⟨Gr.refl _ _, hx⟩
  ·rename_i hy
   have g0 := any_yes (L := L) (s := s) (l := [gDot, gLp, gLb]) (by simpa using hy)
   split at h
   ·have g1 := name_then (L := L) (add_gr (s := (nameP L (anyP L [gDot, gLp, gLb] s).1).1) 18 at_ (nameP L (anyP L [gDot, gLp, gLb] s).1).2 0 [x]) (by omega)
    exact (postE_gd hex m0 at_ m _ _ _ (add_in ..) h).pre (g0.trans g1) (by omega)
   ·split at h
    ·split at h
     ·cases h
     ·rename_i s2 kids hr
      have h4 := rowE_gl hex _ _ _ _ _ (in_snoc (l := []) (fun k hk => by cases hk) (hx.mono g0)) hr
      exact (postE_gd hex m0 at_ m _ _ _ (add_in ..) h).pre ((g0.trans h4.1).trans (add_gr ..)) (by omega)
    ·split at h
     ·cases h
     ·rename_i s2 y hr
      obtain ⟨g1, i1⟩ := indexE_gd hex hr
      exact (postE_gd hex m0 at_ m _ _ _ i1 h).pre (g0.trans g1) (by omega)
theorem postfixE_gd (hex : GdE L.length ex) {m : Nat} {r : PS × Int} (h : postfixE ex L m s = some r) : Gd L.length 0 s r := by
 unfold postfixE at h
 split at h
 ·cases h
 ·rename_i s1 x he
  obtain ⟨g1, i1⟩ := atomE_gd hex he
  exact (postE_gd hex m _ _ _ _ _ i1 h).pre g1 (by omega)
theorem factorE_gd (hex : GdE L.length ex) (m0 : Nat) : ∀ (m : Nat) (s : PS) (r : PS × Int), factorE ex L m0 m s = some r → Gd L.length 0 s r
 | 0, s, r, h => by cases h
 | m + 1, s, r, h => by
  unfold factorE at h
  simp only at h
  split at h
  ·rename_i hy
   split at h
   ·cases h
   ·rename_i s1 x he
    obtain rfl := Option.some.inj h
    obtain ⟨g1, i1⟩ := factorE_gd hex m0 m _ _ he
    exact (add_gd ..).pre ((take_yes hy).trans g1) (by omega)
  ·split at h
   ·cases h
   ·rename_i s1 x he
    obtain ⟨g1, i1⟩ := postfixE_gd hex he
    have g0 := (take_gr (L := L) (s := s) gMinus).trans g1
    split at h
    ·rename_i hy
     split at h
     ·cases h
     ·rename_i s2 y hf
      obtain rfl := Option.some.inj h
      obtain ⟨g2, i2⟩ := factorE_gd hex m0 m _ _ hf
      exact (add_gd ..).pre ((g0.trans (take_yes hy)).trans g2) (by omega)
    ·obtain rfl := Option.some.inj h
     exact ⟨(g0.trans (take_gr _)).weak (by omega), i1.mono (take_gr (L := L) gPow)⟩
theorem leftE_gd {part : Ex} (hp : GdE L.length part) (op : Int) (signs : List ByteArray) : ∀ (m : Nat) (s : PS) (x : Int) (r : PS × Int), In s x → leftE L part op signs m s x = some r → Gd L.length 0 s r
 | 0, s, x, r, hx, h => by cases h
 | m + 1, s, x, r, hx, h => by
  unfold leftE at h
  simp only at h
  split at h
  ·obtain rfl := Option.some.inj h
   exact ⟨Gr.refl _ _, hx⟩
  ·rename_i hy
   have g0 := any_yes (L := L) (s := s) (l := signs) (by simpa using hy)
   split at h
   ·cases h
   ·rename_i s1 y he
    obtain ⟨g1, i1⟩ := hp _ _ he
    exact (leftE_gd hp op signs m _ _ _ (add_in ..) h).pre ((g0.trans g1).trans (add_gr ..)) (by omega)
theorem partsE_gd {part : Ex} (hp : GdE L.length part) {op : Int} {signs : List ByteArray} {m : Nat} : GdE L.length (partsE L part op signs m) := by
 intro s r h
 unfold partsE at h
 split at h
 ·cases h
 ·rename_i s1 x he
  obtain ⟨g1, i1⟩ := hp _ _ he
  exact (leftE_gd hp _ _ _ _ _ _ i1 h).pre g1 (by omega)
theorem termE_gd (hex : GdE L.length ex) (m : Nat) : GdE L.length (termE ex L m) := partsE_gd fun s r h => factorE_gd hex m m s r h
theorem sumE_gd (hex : GdE L.length ex) (m : Nat) : GdE L.length (sumE ex L m) := partsE_gd (termE_gd hex m)
theorem compares_in (h : (compares L s).2 ≠ 0) : s.e = 0 ∧ s.at_ + (compares L s).2 ≤ L.length := by
 have key : ∀ t b, isP L s t b = true → s.e = 0 ∧ s.at_ + b + 1 ≤ L.length := fun t b h => isP_in h
 unfold compares at h ⊢
 repeat' split
 all_goals (first | (rename_i hh; rw [Bool.and_eq_true] at hh; exact key _ _ hh.2) | (rename_i hh; exact key _ 0 hh) | (simp_all))
theorem notE_gd (hex : GdE L.length ex) (m0 : Nat) : ∀ (m : Nat) (s : PS) (r : PS × Int), notE ex L m0 m s = some r → Gd L.length 0 s r
 | 0, s, r, h => by cases h
 | m + 1, s, r, h => by
  unfold notE at h
  simp only at h
  split at h
  ·rename_i hy
   split at h
   ·cases h
   ·rename_i s1 x he
    obtain rfl := Option.some.inj h
    obtain ⟨g1, i1⟩ := notE_gd hex m0 m _ _ he
    exact (add_gd ..).pre ((take_yes hy).trans g1) (by omega)
  ·split at h
   ·cases h
   ·rename_i s1 x he
    obtain ⟨g1, i1⟩ := sumE_gd hex m0 _ _ he
    have g0 := (take_gr (L := L) (s := s) kNot).trans g1
    split at h
    ·obtain rfl := Option.some.inj h
     exact ⟨g0.weak (by omega), i1⟩
    ·rename_i hn
     have hc := compares_in hn
     split at h
     ·cases h
     ·rename_i s2 y hf
      obtain ⟨g2, i2⟩ := sumE_gd hex m0 _ _ hf
      have g3 := (g0.trans (step_gr hc.1 hc.2)).trans g2
      have ga := add_gd (L := L) (s := s2) 13 (placeOf s2 x) (compares L s1).1 0 [x, y]
      split at h
      ·obtain rfl := Option.some.inj h
       exact ⟨((g3.trans ga.1).trans (fail_gr (.inl rfl) rfl id)).weak (by omega), .inl rfl⟩
      ·obtain rfl := Option.some.inj h
       exact ga.pre g3 (by omega)
theorem andE_gd (hex : GdE L.length ex) (m : Nat) : GdE L.length (andE ex L m) := partsE_gd fun s r h => notE_gd hex m m s r h
theorem orE_gd (hex : GdE L.length ex) (m : Nat) : GdE L.length (orE ex L m) := partsE_gd (andE_gd hex m)
theorem paramsE_gl (hex : GdE L.length ex) : ∀ (m : Nat) (s : PS) (out : List Int) (late : Bool) (r : PS × List Int), (∀ k ∈ out, In s k) → paramsE ex L m s out late = some r → Gl L.length 0 s r
 | 0, s, out, late, r, hk, h => by cases h
 | m + 1, s, out, late, r, hk, h => by
  unfold paramsE at h
  simp only at h
  split at h
  ·obtain rfl := Option.some.inj h
   exact ⟨Gr.refl _ _, hk⟩
  ·generalize hC : (if out = [] then takeP L gColon s else (s, false)) = C at h
   have gc : Gr L.length 0 s C.1 := by
    rw [← hC]
    split
    ·exact take_gr _
    ·exact Gr.refl _ _
   split at h
   ·obtain rfl := Option.some.inj h
    exact ⟨gc, in_all hk gc⟩
   ·have gq := (take_gr (L := L) (s := (nameP L C.1).1) gEq)
    split at h
    ·split at h
     ·cases h
     ·rename_i s1 x he
      obtain ⟨g1, i1⟩ := hex _ _ he
      have ga := add_gd (L := L) (s := s1) 22 (tokP L C.1 0).at_ (nameP L C.1).2 0 [x]
      have g2 := gc.trans (name_then (((gq.trans g1).trans ga.1).trans (take_gr (L := L) gComma)) (by omega))
      have hl := in_snoc (in_all hk g2) (ga.2.mono (take_gr (L := L) gComma))
      split at h
      ·exact (paramsE_gl hex m _ _ _ _ hl h).pre g2 (by omega)
      ·obtain rfl := Option.some.inj h
       exact ⟨(g2.trans (need_gr (L := L) gColon)).weak (by omega), in_all hl (need_gr (L := L) gColon)⟩
    ·have gf : Gr L.length 0 (takeP L gEq (nameP L C.1).1).1 (if late = true then failP (takeP L gEq (nameP L C.1).1).1 30 C.1.at_ else (takeP L gEq (nameP L C.1).1).1) := by
      split
      ·refine fail_gr (.inl rfl) rfl fun hh => ?_
       have := name_gr (L := L) (s := C.1)
       have h1 := this.up
       have h2 := gq.up
       omega
      ·exact Gr.refl _ _
     generalize (if late = true then failP (takeP L gEq (nameP L C.1).1).1 30 C.1.at_ else (takeP L gEq (nameP L C.1).1).1) = s1 at h gf
     have ga := add_gd (L := L) (s := s1) 22 (tokP L C.1 0).at_ (nameP L C.1).2 0 []
     have g2 := gc.trans (name_then (((gq.trans gf).trans ga.1).trans (take_gr (L := L) gComma)) (by omega))
     have hl := in_snoc (in_all hk g2) (ga.2.mono (take_gr (L := L) gComma))
     split at h
     ·exact (paramsE_gl hex m _ _ _ _ hl h).pre g2 (by omega)
     ·obtain rfl := Option.some.inj h
      exact ⟨(g2.trans (need_gr (L := L) gColon)).weak (by omega), in_all hl (need_gr (L := L) gColon)⟩
theorem exprB_gd (hex : GdE L.length ex) (m : Nat) : GdE L.length (exprB ex L m) := by
 intro s r h
 unfold exprB at h
 simp only at h
 split at h
 ·rename_i hy
  split at h
  ·cases h
  ·rename_i s1 kids he
   split at h
   ·cases h
   ·rename_i s2 x hx
    obtain rfl := Option.some.inj h
    exact (add_gd ..).pre (((take_yes hy).trans (paramsE_gl hex _ _ _ _ _ (fun k hk => by cases hk) he).1).trans (hex _ _ hx).1) (by omega)
 ·split at h
  ·cases h
  ·rename_i s1 x he
   obtain ⟨g1, i1⟩ := orE_gd hex m _ _ he
   have g0 := (take_gr (L := L) (s := s) kLambda).trans g1
   split at h
   ·rename_i hy
    split at h
    ·cases h
    ·rename_i s2 y hy2
     split at h
     ·cases h
     ·rename_i s3 z hz
      obtain rfl := Option.some.inj h
      exact (add_gd ..).pre ((((g0.trans (take_yes hy)).trans (orE_gd hex m _ _ hy2).1).trans (need_gr (L := L) kElse)).trans (hex _ _ hz).1) (by omega)
   ·obtain rfl := Option.some.inj h
    exact ⟨(g0.trans (take_gr _)).weak (by omega), i1.mono (take_gr (L := L) kIf)⟩
end
theorem exprE_gd (L : List TokD) : ∀ m, GdE L.length (exprE L m)
 | 0 => fun s r h => by cases h
 | m + 1 => exprB_gd (exprE_gd L m) m
def rem (n : Nat) (s : PS) : Nat := if s.e ≠ 0 then 0 else n - s.at_ + 1
theorem rem_gr {n : Nat} {d : Int} {s s' : PS} (g : Gr n d s s') : rem n s' ≤ rem n s := by
 unfold rem
 by_cases h : s.e = 0
 ·rw [if_neg (show ¬ s.e ≠ 0 from fun h1 => h1 h)]
  have := g.up
  split <;> omega
 ·rw [g.bad h]
  exact Nat.le_refl _
section
variable {L : List TokD} {ex : Ex} {k : Nat}
theorem rem_step {s : PS} {j : Nat} (h : s.e = 0) (hj : 1 ≤ j) (hn : s.at_ + j ≤ L.length) : rem L.length (stepP s j) < rem L.length s := by
 unfold rem stepP
 simp only [h, ne_eq, not_true_eq_false, if_false]
 omega
theorem rem_yes {s : PS} {l : List ByteArray} (h : (anyP L l s).2.2 = true) : rem L.length (anyP L l s).1 < rem L.length s := by
 rcases any_cases (L := L) (s := s) l with ⟨h1, _⟩ | ⟨t, _, h1, h2⟩
 ·rw [h1] at h; cases h
 ·rw [h2]; exact rem_step (isP_in h1).1 (Nat.le_refl _) (isP_in h1).2
theorem rem_take {s : PS} {t : ByteArray} (h : (takeP L t s).2 = true) : rem L.length (takeP L t s).1 < rem L.length s := rem_yes (l := [t]) h
structure HT (L : List TokD) (ex : Ex) (k : Nat) : Prop where
 g : GdE L.length ex
 t : ∀ s, s.at_ ≤ L.length → rem L.length s < k → ∃ r, ex s = some r
theorem HT.at_ (H : HT L ex k) {s : PS} (h : s.at_ ≤ L.length) (hr : rem L.length s < k) : ∃ s1 x, ex s = some (s1, x) ∧ Gr L.length 0 s s1 := by
 obtain ⟨⟨s1, x⟩, hr⟩ := H.t s h hr
 exact ⟨s1, x, hr, (H.g _ _ hr).1⟩
theorem rowE_tot (H : HT L ex k) (fin : ByteArray) : ∀ (m : Nat) (s : PS) (kids : List Int), s.at_ ≤ L.length → rem L.length s < k → rem L.length s + 1 ≤ m → ∃ r, rowE ex L fin m s kids = some r
 | 0, s, kids, h, hk, hm => by omega
 | m + 1, s, kids, h, hk, hm => by
  unfold rowE
  split
  ·exact ⟨_, rfl⟩
  ·split
   ·exact ⟨_, rfl⟩
   ·have g0 := take_gr (L := L) (s := s) fin
    have r0 := rem_gr g0
    try simp only at r0
    obtain ⟨s1, x, he, g1⟩ := H.at_ (g0.le h) (by omega)
    rw [he]
    simp only
    have r1 := rem_gr g1
    try simp only at r1
    split
    ·rename_i hy
     have := rem_take hy
     exact rowE_tot H fin m (takeP L gComma s1).1 _ ((take_gr (L := L) _).le (g1.le (g0.le h))) (by omega) (by omega)
    ·exact ⟨_, rfl⟩
theorem pairsE_tot (H : HT L ex k) : ∀ (m : Nat) (s : PS) (kids : List Int), s.at_ ≤ L.length → rem L.length s < k → rem L.length s + 1 ≤ m → ∃ r, pairsE ex L m s kids = some r
 | 0, s, kids, h, hk, hm => by omega
 | m + 1, s, kids, h, hk, hm => by
  unfold pairsE
  split
  ·exact ⟨_, rfl⟩
  ·split
   ·exact ⟨_, rfl⟩
   ·have g0 := take_gr (L := L) (s := s) gRc
    have r0 := rem_gr g0
    try simp only at r0
    obtain ⟨s1, x, he, g1⟩ := H.at_ (g0.le h) (by omega)
    rw [he]
    simp only
    have r1 := rem_gr g1
    try simp only at r1
    have g2 := need_gr (L := L) (s := s1) gColon
    have r2 := rem_gr g2
    try simp only at r2
    obtain ⟨s2, v, hv, g3⟩ := H.at_ (g2.le (g1.le (g0.le h))) (by omega)
    rw [hv]
    simp only
    have r3 := rem_gr g3
    try simp only at r3
    split
    ·rename_i hy
     have := rem_take hy
     exact pairsE_tot H m (takeP L gComma s2).1 _ ((take_gr (L := L) _).le (g3.le (g2.le (g1.le (g0.le h))))) (by omega) (by omega)
    ·exact ⟨_, rfl⟩
theorem roundE_tot (H : HT L ex k) {m : Nat} {at_ : Int} {s : PS} (h : s.at_ ≤ L.length) (hk : rem L.length s < k) (hm : rem L.length s + 1 ≤ m) : ∃ r, roundE ex L m at_ s = some r := by
 unfold roundE
 split
 ·exact ⟨_, rfl⟩
 ·have g0 := take_gr (L := L) (s := s) gRp
  have r0 := rem_gr g0
  try simp only at r0
  obtain ⟨s1, x, he, g1⟩ := H.at_ (g0.le h) (by omega)
  rw [he]
  simp only
  have r1 := rem_gr g1
  try simp only at r1
  split
  ·exact ⟨_, rfl⟩
  ·have g2 := (take_gr (L := L) (s := s1) gRp).trans (need_gr (L := L) gComma)
   have r2 := rem_gr g2
   try simp only at r2
   obtain ⟨⟨s2, kids⟩, hr⟩ := rowE_tot H gRp m _ [x] (g2.le (g1.le (g0.le h))) (by omega) (by omega)
   rw [hr]
   exact ⟨_, rfl⟩
theorem atomE_tot (H : HT L ex k) {m : Nat} {s : PS} (h : s.at_ ≤ L.length) (hk : rem L.length s ≤ k) (hm : rem L.length s + 1 ≤ m) : ∃ r, atomE ex L m s = some r := by
 unfold atomE
 simp only
 split
 ·exact ⟨_, rfl⟩
 split
 ·exact ⟨_, rfl⟩
 split
 ·split
  ·exact ⟨_, rfl⟩
  ·split
   ·exact ⟨_, rfl⟩
   ·exact ⟨_, rfl⟩
 split
 ·rename_i _ _ _ hk4
  have h1 := tokP_in (L := L) (s := s) (b := 0) (by rw [hk4]; decide)
  have r0 := rem_step (L := L) (j := 1) h1.1 (Nat.le_refl _) h1.2
  have hl : (stepP s 1).at_ ≤ L.length := h1.2
  split
  ·exact roundE_tot H hl (by omega) (by omega)
  ·split
   ·obtain ⟨⟨s2, kids⟩, hr⟩ := rowE_tot H gRb m _ [] hl (by omega) (by omega)
    rw [hr]
    exact ⟨_, rfl⟩
   ·split
    ·obtain ⟨⟨s2, kids⟩, hr⟩ := pairsE_tot H m _ [] hl (by omega) (by omega)
     rw [hr]
     exact ⟨_, rfl⟩
    ·exact ⟨_, rfl⟩
 ·exact ⟨_, rfl⟩
theorem boundE_tot (H : HT L ex k) {fin : ByteArray} {s : PS} (h : s.at_ ≤ L.length) (hk : rem L.length s < k) : ∃ r, boundE ex L fin s = some r := by
 unfold boundE
 split
 ·exact ⟨_, rfl⟩
 ·exact H.t s h hk
theorem indexE_tot (H : HT L ex k) {x at_ : Int} {s : PS} (h : s.at_ ≤ L.length) (hk : rem L.length s < k) : ∃ r, indexE ex L x at_ s = some r := by
 unfold indexE
 simp only
 obtain ⟨⟨s1, y⟩, he⟩ := boundE_tot H (fin := gColon) h hk
 rw [he]
 simp only
 obtain ⟨g1, _⟩ := boundE_gd H.g he
 split
 ·exact ⟨_, rfl⟩
 ·have g2 : Gr L.length 0 s1 (if isP L s gColon 0 = true then s1 else (takeP L gRb s1).1) := by
   split
   ·exact Gr.refl _ _
   ·exact take_gr _
  have g3 := (g1.trans g2).trans (need_gr (L := L) gColon)
  have r3 := rem_gr g3
  try simp only at r3
  obtain ⟨⟨s3, z⟩, hz⟩ := boundE_tot H (fin := gRb) (g3.le h) (by omega)
  rw [hz]
  exact ⟨_, rfl⟩
theorem postE_tot (H : HT L ex k) {m0 : Nat} (h0 : k + 1 ≤ m0) (at_ : Int) : ∀ (m : Nat) (s : PS) (x : Int), In s x → s.at_ ≤ L.length → rem L.length s ≤ k → rem L.length s + 1 ≤ m → ∃ r, postE ex L m0 at_ m s x = some r
 | 0, s, x, hx, h, hk, hm => by omega
 | m + 1, s, x, hx, h, hk, hm => by
  unfold postE
  simp only
  split
  ·exact ⟨_, rfl⟩
  ·rename_i hy
   have hy : (anyP L [gDot, gLp, gLb] s).2.2 = true := by simpa using hy
   have g0 := any_yes hy
   have r0 := rem_yes hy
   split
   ·have g1 := name_gr (L := L) (s := (anyP L [gDot, gLp, gLb] s).1)
    have g2 := g1.trans (add_gr 18 at_ (nameP L (anyP L [gDot, gLp, gLb] s).1).2 0 [x])
    have r2 := rem_gr g2
    try simp only at r2
    exact postE_tot H h0 at_ m _ _ (add_in ..) (g2.le (g0.le h)) (by omega) (by omega)
   ·split
    ·obtain ⟨⟨s2, kids⟩, hr⟩ := rowE_tot H gRp m0 _ [x] (g0.le h) (by omega) (by omega)
     rw [hr]
     simp only
     have g1 := (rowE_gl H.g _ _ _ _ _ (in_snoc (l := []) (fun k hk => by cases hk) (hx.mono g0)) hr).1.trans (add_gr (L := L) 17 at_ ⟨#[]⟩ 0 kids)
     have r1 := rem_gr g1
     try simp only at r1
     exact postE_tot H h0 at_ m _ _ (add_in ..) (g1.le (g0.le h)) (by omega) (by omega)
    ·obtain ⟨⟨s2, y⟩, hr⟩ := indexE_tot H (x := x) (at_ := at_) (g0.le h) (by omega)
     rw [hr]
     simp only
     obtain ⟨g1, i1⟩ := indexE_gd H.g hr
     have r1 := rem_gr g1
     try simp only at r1
     exact postE_tot H h0 at_ m _ _ i1 (g1.le (g0.le h)) (by omega) (by omega)
theorem postfixE_tot (H : HT L ex k) {m : Nat} {s : PS} (h : s.at_ ≤ L.length) (hk : rem L.length s ≤ k) (hm : k + 1 ≤ m) : ∃ r, postfixE ex L m s = some r := by
 unfold postfixE
 obtain ⟨⟨s1, x⟩, he⟩ := atomE_tot H (m := m) h hk (by omega)
 rw [he]
 simp only
 obtain ⟨g1, i1⟩ := atomE_gd H.g he
 have r1 := rem_gr g1
 try simp only at r1
 exact postE_tot H hm _ _ _ _ i1 (g1.le h) (by omega) (by omega)
theorem factorE_tot (H : HT L ex k) {m0 : Nat} (h0 : k + 1 ≤ m0) : ∀ (m : Nat) (s : PS), s.at_ ≤ L.length → rem L.length s ≤ k → rem L.length s + 1 ≤ m → ∃ r, factorE ex L m0 m s = some r
 | 0, s, h, hk, hm => by omega
 | m + 1, s, h, hk, hm => by
  unfold factorE
  simp only
  split
  ·rename_i hy
   have r0 := rem_take hy
   obtain ⟨⟨s1, x⟩, he⟩ := factorE_tot H h0 m (takeP L gMinus s).1 ((take_gr (L := L) _).le h) (by omega) (by omega)
   rw [he]
   exact ⟨_, rfl⟩
  ·have g0 := take_gr (L := L) (s := s) gMinus
   have r0 := rem_gr g0
   try simp only at r0
   obtain ⟨⟨s1, x⟩, he⟩ := postfixE_tot H (m := m0) (g0.le h) (by omega) h0
   rw [he]
   simp only
   obtain ⟨g1, i1⟩ := postfixE_gd H.g he
   have r1 := rem_gr g1
   try simp only at r1
   split
   ·rename_i hy
    have r2 := rem_take hy
    obtain ⟨⟨s2, y⟩, hf⟩ := factorE_tot H h0 m (takeP L gPow s1).1 ((take_gr (L := L) _).le (g1.le (g0.le h))) (by omega) (by omega)
    rw [hf]
    exact ⟨_, rfl⟩
   ·exact ⟨_, rfl⟩
structure PT (L : List TokD) (part : Ex) (k : Nat) : Prop where
 g : GdE L.length part
 t : ∀ s, s.at_ ≤ L.length → rem L.length s ≤ k → ∃ r, part s = some r
theorem leftE_tot {part : Ex} (H : PT L part k) (op : Int) (signs : List ByteArray) : ∀ (m : Nat) (s : PS) (x : Int), In s x → s.at_ ≤ L.length → rem L.length s ≤ k → rem L.length s + 1 ≤ m → ∃ r, leftE L part op signs m s x = some r
 | 0, s, x, hx, h, hk, hm => by omega
 | m + 1, s, x, hx, h, hk, hm => by
  unfold leftE
  simp only
  split
  ·exact ⟨_, rfl⟩
  ·rename_i hy
   have hy : (anyP L signs s).2.2 = true := by simpa using hy
   have g0 := any_yes hy
   have r0 := rem_yes hy
   obtain ⟨⟨s1, y⟩, he⟩ := H.t _ (g0.le h) (by omega)
   rw [he]
   simp only
   obtain ⟨g1, i1⟩ := H.g _ _ he
   have g2 := g1.trans (add_gr (L := L) op (placeOf s1 x) (if op = 12 then (anyP L signs s).2.1 else ⟨#[]⟩) 0 [x, y])
   have r2 := rem_gr g2
   try simp only at r2
   exact leftE_tot H op signs m _ _ (add_in ..) (g2.le (g0.le h)) (by omega) (by omega)
theorem partsE_tot {part : Ex} (H : PT L part k) {op : Int} {signs : List ByteArray} {m : Nat} (hm : k + 1 ≤ m) : PT L (partsE L part op signs m) k := by
 refine ⟨partsE_gd H.g, fun s h hk => ?_⟩
 unfold partsE
 obtain ⟨⟨s1, x⟩, he⟩ := H.t s h hk
 rw [he]
 simp only
 obtain ⟨g1, i1⟩ := H.g _ _ he
 have r1 := rem_gr g1
 try simp only at r1
 exact leftE_tot H op signs m _ _ i1 (g1.le h) (by omega) (by omega)
theorem sumE_tot (H : HT L ex k) {m : Nat} (hm : k + 1 ≤ m) : PT L (sumE ex L m) k :=
 partsE_tot (partsE_tot (part := factorE ex L m m) ⟨fun s r h => factorE_gd H.g m m s r h, fun s h hk => factorE_tot H hm m s h hk (by omega)⟩ hm) hm
theorem notE_tot (H : HT L ex k) {m0 : Nat} (h0 : k + 1 ≤ m0) : ∀ (m : Nat) (s : PS), s.at_ ≤ L.length → rem L.length s ≤ k → rem L.length s + 1 ≤ m → ∃ r, notE ex L m0 m s = some r
 | 0, s, h, hk, hm => by omega
 | m + 1, s, h, hk, hm => by
  unfold notE
  simp only
  split
  ·rename_i hy
   have r0 := rem_take hy
   obtain ⟨⟨s1, x⟩, he⟩ := notE_tot H h0 m (takeP L kNot s).1 ((take_gr (L := L) _).le h) (by omega) (by omega)
   rw [he]
   exact ⟨_, rfl⟩
  ·have g0 := take_gr (L := L) (s := s) kNot
   have r0 := rem_gr g0
   try simp only at r0
   obtain ⟨⟨s1, x⟩, he⟩ := (sumE_tot H h0).t _ (g0.le h) (by omega)
   rw [he]
   simp only
   obtain ⟨g1, i1⟩ := sumE_gd H.g m0 _ _ he
   have r1 := rem_gr g1
   try simp only at r1
   split
   ·exact ⟨_, rfl⟩
   ·rename_i hn
    have hc := compares_in hn
    have g2 := step_gr hc.1 hc.2
    have r2 := rem_gr g2
    try simp only at r2
    obtain ⟨⟨s2, y⟩, hf⟩ := (sumE_tot H h0).t _ (g2.le (g1.le (g0.le h))) (by omega)
    rw [hf]
    simp only
    split
    ·exact ⟨_, rfl⟩
    ·exact ⟨_, rfl⟩
theorem orE_tot (H : HT L ex k) {m : Nat} (hm : k + 1 ≤ m) : PT L (orE ex L m) k :=
 partsE_tot (partsE_tot (part := notE ex L m m) ⟨fun s r h => notE_gd H.g m m s r h, fun s h hk => notE_tot H hm m s h hk (by omega)⟩ hm) hm
theorem paramsE_tot (H : HT L ex k) : ∀ (m : Nat) (s : PS) (out : List Int) (late : Bool), (∀ k ∈ out, In s k) → s.at_ ≤ L.length → rem L.length s < k → rem L.length s + 1 ≤ m → ∃ r, paramsE ex L m s out late = some r
 | 0, s, out, late, ho, h, hk, hm => by omega
 | m + 1, s, out, late, ho, h, hk, hm => by
  unfold paramsE
  simp only
  split
  ·exact ⟨_, rfl⟩
  ·generalize hC : (if out = [] then takeP L gColon s else (s, false)) = C
   have gc : Gr L.length 0 s C.1 := by
    rw [← hC]
    split
    ·exact take_gr _
    ·exact Gr.refl _ _
   split
   ·exact ⟨_, rfl⟩
   ·have gq := (take_gr (L := L) (s := (nameP L C.1).1) gEq)
    have g0 := (gc.trans (name_gr (L := L))).trans gq
    have r0 := rem_gr g0
    try simp only at r0
    split
    ·obtain ⟨s1, x, he, g1⟩ := H.at_ (g0.le h) (by omega)
     rw [he]
     simp only
     have ga := add_gd (L := L) (s := s1) 22 (tokP L C.1 0).at_ (nameP L C.1).2 0 [x]
     have g2 := g1.trans ga.1
     have r2 := rem_gr g2
     try simp only at r2
     have i1 := (H.g _ _ he).2
     split
     ·rename_i hy
      have r3 := rem_take hy
      have g3 := (g0.trans g2).trans (take_gr (L := L) gComma)
      exact paramsE_tot H m _ _ _ (in_snoc (in_all ho g3) (ga.2.mono (take_gr (L := L) gComma))) (g3.le h) (by omega) (by omega)
     ·exact ⟨_, rfl⟩
    ·have gf : Gr L.length 0 (takeP L gEq (nameP L C.1).1).1 (if late = true then failP (takeP L gEq (nameP L C.1).1).1 30 C.1.at_ else (takeP L gEq (nameP L C.1).1).1) := by
      split
      ·refine fail_gr (.inl rfl) rfl fun hh => ?_
       have := name_gr (L := L) (s := C.1)
       have h1 := this.up
       have h2 := gq.up
       omega
      ·exact Gr.refl _ _
     generalize (if late = true then failP (takeP L gEq (nameP L C.1).1).1 30 C.1.at_ else (takeP L gEq (nameP L C.1).1).1) = s1 at gf ⊢
     have ga := add_gd (L := L) (s := s1) 22 (tokP L C.1 0).at_ (nameP L C.1).2 0 []
     have g2 := gf.trans ga.1
     have r2 := rem_gr g2
     try simp only at r2
     split
     ·rename_i hy
      have r3 := rem_take hy
      have g3 := (g0.trans g2).trans (take_gr (L := L) gComma)
      exact paramsE_tot H m _ _ _ (in_snoc (in_all ho g3) (ga.2.mono (take_gr (L := L) gComma))) (g3.le h) (by omega) (by omega)
     ·exact ⟨_, rfl⟩
theorem exprB_tot (H : HT L ex k) {m : Nat} (hm : k + 1 ≤ m) {s : PS} (h : s.at_ ≤ L.length) (hk : rem L.length s ≤ k) : ∃ r, exprB ex L m s = some r := by
 unfold exprB
 simp only
 split
 ·rename_i hy
  have r0 := rem_take hy
  have g0 := take_gr (L := L) (s := s) kLambda
  obtain ⟨⟨s1, kids⟩, he⟩ := paramsE_tot H m (takeP L kLambda s).1 [] false (fun k hk => by cases hk) (g0.le h) (by omega) (by omega)
  rw [he]
  simp only
  have g1 := (paramsE_gl H.g _ _ _ _ _ (fun k hk => by cases hk) he).1
  have r1 := rem_gr g1
  try simp only at r1
  obtain ⟨s2, x, hx, g2⟩ := H.at_ (s := s1) (g1.le (g0.le h)) (by omega)
  rw [hx]
  exact ⟨_, rfl⟩
 ·have g0 := take_gr (L := L) (s := s) kLambda
  have r0 := rem_gr g0
  try simp only at r0
  obtain ⟨⟨s1, x⟩, he⟩ := (orE_tot H hm).t _ (g0.le h) (by omega)
  rw [he]
  simp only
  have g1 := (orE_gd H.g m _ _ he).1
  have r1 := rem_gr g1
  try simp only at r1
  split
  ·rename_i hy
   have r2 := rem_take hy
   have g2 := take_gr (L := L) (s := s1) kIf
   obtain ⟨⟨s2, y⟩, hy2⟩ := (orE_tot H hm).t _ (g2.le (g1.le (g0.le h))) (by omega)
   rw [hy2]
   simp only
   have g3 := (orE_gd H.g m _ _ hy2).1.trans (need_gr (L := L) kElse)
   have r3 := rem_gr g3
   try simp only at r3
   obtain ⟨s3, z, hz, g4⟩ := H.at_ (s := needP L kElse s2) (g3.le (g2.le (g1.le (g0.le h)))) (by omega)
   rw [hz]
   exact ⟨_, rfl⟩
  ·exact ⟨_, rfl⟩
end
theorem exprE_tot (L : List TokD) : ∀ (m : Nat) (s : PS), s.at_ ≤ L.length → rem L.length s + 2 ≤ m → ∃ r, exprE L m s = some r
 | 0, s, h, hm => by omega
 | m + 1, s, h, hm => exprB_tot (k := rem L.length s) ⟨exprE_gd L m, fun s1 h1 hr => exprE_tot L m s1 h1 (by omega)⟩ (by omega) h (Nat.le_refl _)
theorem exprE_start (L : List TokD) : ∃ r, exprE L (L.length + 3) startS = some r := exprE_tot L _ _ (Nat.zero_le _) (by unfold rem startS; simp)
end
section
set_option linter.unusedVariables false
set_option linter.unusedSimpArgs false
section
variable {f : Int → Int} {L : List TokD} {s : PS}
theorem fail_bad (e a : Int) (he : e ≠ 0) : (failP s e a).e ≠ 0 := by
 unfold failP
 split
 ·exact he
 ·assumption
end
end
section
set_option linter.unusedVariables false
set_option linter.unusedSimpArgs false
def kidsAll (ns : List NodeD) : List Int := ns.flatMap (·.kids)
def IsX (op : Int) : Prop := 1 ≤ op ∧ op ≤ 21
def OpAt (p : NodeD → Prop) (ns : List NodeD) (x : Int) : Prop := ∃ (k : Nat) (nd : NodeD), x = k ∧ ns[k]? = some nd ∧ p nd
abbrev XAt (ns : List NodeD) (x : Int) : Prop := OpAt (fun nd => IsX nd.op) ns x
inductive ParOk (ns : List NodeD) : List Int → Bool → Prop
 | nil : ParOk ns [] false
 | some_ {out : List Int} {late : Bool} {k : Int} : ParOk ns out late → OpAt (fun nd => nd.op = 22 ∧ nd.kids ≠ []) ns k → ParOk ns (out ++ [k]) true
 | none_ {out : List Int} {k : Int} : ParOk ns out false → OpAt (fun nd => nd.op = 22 ∧ nd.kids = []) ns k → ParOk ns (out ++ [k]) false
def ShapeOk (ns : List NodeD) (op : Int) (kids : List Int) : Prop :=
 (1 ≤ op ∧ op ≤ 6 ∧ kids = []) ∨
 ((op = 7 ∨ op = 8) ∧ ∀ k ∈ kids, XAt ns k) ∨
 (op = 9 ∧ kids.length % 2 = 0 ∧ ∀ k ∈ kids, XAt ns k) ∨
 ((op = 10 ∨ op = 11 ∨ op = 18) ∧ kids.length = 1 ∧ ∀ k ∈ kids, XAt ns k) ∨
 ((op = 12 ∨ op = 13 ∨ op = 14 ∨ op = 15 ∨ op = 19) ∧ kids.length = 2 ∧ ∀ k ∈ kids, XAt ns k) ∨
 ((op = 16 ∨ op = 20) ∧ kids.length = 3 ∧ ∀ k ∈ kids, XAt ns k) ∨
 (op = 17 ∧ 1 ≤ kids.length ∧ ∀ k ∈ kids, XAt ns k) ∨
 (op = 21 ∧ ∃ ps k late, kids = ps ++ [k] ∧ ParOk ns ps late ∧ XAt ns k) ∨
 (op = 22 ∧ kids.length ≤ 1 ∧ ∀ k ∈ kids, XAt ns k)
def binaries : List ByteArray := [gPlus, gMinus, gStar, gDiv, gMod, gPow]
def comparers : List ByteArray := [gEqq, gNe, gLt, gLe, gGt, gGe, kIn, tNotIn, kIs, tIsNot]
def TextOk (L : List TokD) (op : Int) (t : ByteArray) (n : Int) : Prop :=
 (n = 0 ∨ op = 4 ∧ ∃ u ∈ L, n = u.n) ∧
 ((op = 5 ∧ ∃ u ∈ L, t = u.s) ∨ ((op = 6 ∨ op = 18 ∨ op = 22) ∧ nameB t = true ∧ ∃ u ∈ L, t = u.s) ∨ (op = 12 ∧ t ∈ binaries) ∨ (op = 13 ∧ t ∈ comparers) ∨
  (op ≠ 5 ∧ op ≠ 6 ∧ op ≠ 18 ∧ op ≠ 22 ∧ op ≠ 12 ∧ op ≠ 13 ∧ t = ⟨#[]⟩))
def PlaceOk (L : List TokD) (n : Nat) (a : Int) : Prop := ∃ (k : Nat) (t : TokD), k < n ∧ L[k]? = some t ∧ t.at_ = a
structure NdOk (L : List TokD) (n : Nat) (s : PS) (i : Nat) (x : NodeD) : Prop where
 kids : ∀ k ∈ x.kids, 0 ≤ k ∧ k < (i : Int)
 shape : ShapeOk s.ns x.op x.kids
 text : TextOk L x.op x.s x.n
 place : PlaceOk L n x.at_
 deep : s.dp[i]? = some (deepest s x.kids + 1)
 lim : deepest s x.kids < 40
structure BkN (L : List TokD) (n : Nat) (s : PS) (P : List Int) : Prop where
 len : s.dp.length = s.ns.length
 node : ∀ (i : Nat) (x : NodeD), s.ns[i]? = some x → NdOk L n s i x
 use : ∀ i : Nat, (kidsAll s.ns).count (i : Int) + P.count (i : Int) = if i < s.ns.length then 1 else 0
 pos : ∀ k ∈ P, 0 ≤ k
abbrev Bk (L : List TokD) (s : PS) (P : List Int) : Prop := BkN L s.at_ s P
section
variable {L : List TokD} {s s' : PS} {P : List Int}
theorem OpAt.mono {p : NodeD → Prop} {ns t : List NodeD} {x : Int} (h : OpAt p ns x) : OpAt p (ns ++ t) x := by
 obtain ⟨k, nd, e, h1, h2⟩ := h
 exact ⟨k, nd, e, by rw [List.getElem?_append_left (List.getElem?_eq_some_iff.1 h1).1]; exact h1, h2⟩
theorem OpAt.gr {p : NodeD → Prop} {n : Nat} {d : Int} {x : Int} (h : OpAt p s.ns x) (g : Gr n d s s') : OpAt p s'.ns x := by
 obtain ⟨t, ht⟩ := g.pre
 rw [ht]
 exact h.mono
theorem OpAt.in_ {p : NodeD → Prop} {x : Int} (h : OpAt p s.ns x) : In s x := by
 obtain ⟨k, nd, e, h1, _⟩ := h
 exact .inr ⟨k, e, (List.getElem?_eq_some_iff.1 h1).1⟩
theorem ParOk.mono {ns t : List NodeD} {l : List Int} {late : Bool} (h : ParOk ns l late) : ParOk (ns ++ t) l late := by
 induction h with
 | nil => exact .nil
 | some_ _ h2 ih => exact .some_ ih h2.mono
 | none_ _ h2 ih => exact .none_ ih h2.mono
theorem ParOk.gr {n : Nat} {d : Int} {l : List Int} {late : Bool} (h : ParOk s.ns l late) (g : Gr n d s s') : ParOk s'.ns l late := by
 obtain ⟨t, ht⟩ := g.pre
 rw [ht]
 exact h.mono
theorem ParOk.in_ {l : List Int} {late : Bool} (h : ParOk s.ns l late) : ∀ k ∈ l, In s k := by
 induction h with
 | nil => exact fun k hk => by cases hk
 | some_ _ h2 ih => exact in_snoc ih h2.in_
 | none_ _ h2 ih => exact in_snoc ih h2.in_
theorem ShapeOk.mono {ns t : List NodeD} {op : Int} {kids : List Int} (h : ShapeOk ns op kids) : ShapeOk (ns ++ t) op kids := by
 have hx : (∀ k ∈ kids, XAt ns k) → ∀ k ∈ kids, XAt (ns ++ t) k := fun h k hk => (h k hk).mono
 rcases h with h | ⟨h1, h2⟩ | ⟨h1, h2, h3⟩ | ⟨h1, h2, h3⟩ | ⟨h1, h2, h3⟩ | ⟨h1, h2, h3⟩ | ⟨h1, h2, h3⟩ | ⟨h1, ps, k, late, h2, h3, h4⟩ | ⟨h1, h2, h3⟩
 ·exact .inl h
 ·exact .inr (.inl ⟨h1, hx h2⟩)
 ·exact .inr (.inr (.inl ⟨h1, h2, hx h3⟩))
 ·exact .inr (.inr (.inr (.inl ⟨h1, h2, hx h3⟩)))
 ·exact .inr (.inr (.inr (.inr (.inl ⟨h1, h2, hx h3⟩))))
 ·exact .inr (.inr (.inr (.inr (.inr (.inl ⟨h1, h2, hx h3⟩)))))
 ·exact .inr (.inr (.inr (.inr (.inr (.inr (.inl ⟨h1, h2, hx h3⟩))))))
 ·exact .inr (.inr (.inr (.inr (.inr (.inr (.inr (.inl ⟨h1, ps, k, late, h2, h3.mono, h4.mono⟩)))))))
 ·exact .inr (.inr (.inr (.inr (.inr (.inr (.inr (.inr ⟨h1, h2, hx h3⟩)))))))
theorem PlaceOk.up {n m : Nat} {a : Int} (h : PlaceOk L n a) (hm : n ≤ m) : PlaceOk L m a := by
 obtain ⟨k, t, h1, h2⟩ := h
 exact ⟨k, t, by omega, h2⟩
structure Mv (s s' : PS) : Prop where
 ns : s'.ns = s.ns
 dp : s'.dp = s.dp
 up : s.at_ ≤ s'.at_
theorem Mv.refl (s : PS) : Mv s s := ⟨rfl, rfl, Nat.le_refl _⟩
theorem Mv.trans {s2 : PS} (h : Mv s s') (k : Mv s' s2) : Mv s s2 := ⟨k.ns.trans h.ns, k.dp.trans h.dp, Nat.le_trans h.up k.up⟩
theorem deep_eq {s s' : PS} (h : s'.dp = s.dp) (kids : List Int) : deepest s' kids = deepest s kids := by
 unfold deepest deepOf
 rw [h]
theorem BkN.mvn {n n' : Nat} (h : BkN L n s P) (m : Mv s s') (hn : n ≤ n') : BkN L n' s' P := by
 refine ⟨by rw [m.dp, m.ns]; exact h.len, fun i x hx => ?_, fun i => by rw [m.ns]; exact h.use i, h.pos⟩
 rw [m.ns] at hx
 have k := h.node i x hx
 exact ⟨k.kids, by rw [m.ns]; exact k.shape, k.text, k.place.up hn, by rw [m.dp, deep_eq m.dp]; exact k.deep, by rw [deep_eq m.dp]; exact k.lim⟩
theorem BkN.mv (h : Bk L s P) (m : Mv s s') : Bk L s' P := h.mvn m m.up
theorem step_mv (n : Nat) : Mv s (stepP s n) := ⟨rfl, rfl, Nat.le_add_right _ _⟩
theorem fail_mv (e a : Int) : Mv s (failP s e a) := by
 unfold failP
 split
 ·exact ⟨rfl, rfl, Nat.le_refl _⟩
 ·exact Mv.refl _
theorem any_mv (l : List ByteArray) : Mv s (anyP L l s).1 := by
 rcases any_cases (L := L) (s := s) l with ⟨h, _⟩ | ⟨t, _, _, h⟩
 ·rw [h]; exact Mv.refl _
 ·rw [h]; exact step_mv 1
theorem take_mv (t : ByteArray) : Mv s (takeP L t s).1 := any_mv [t]
theorem need_mv (t : ByteArray) : Mv s (needP L t s) := by
 unfold needP
 split
 ·exact take_mv t
 ·exact (take_mv t).trans (fail_mv _ _)
theorem name_mv : Mv s (nameP L s).1 := by
 unfold nameP
 split
 ·exact step_mv 1
 ·exact fail_mv _ _
theorem BkN.ok {n : Nat} (h : BkN L n s P) {k : Int} (hk : k ∈ P) : ∃ i : Nat, k = i ∧ i < s.ns.length := by
 have h0 := h.pos k hk
 refine ⟨k.toNat, by omega, ?_⟩
 have h1 := h.use k.toNat
 rw [Int.toNat_of_nonneg h0] at h1
 have h2 := List.count_pos_iff.2 hk
 split at h1
 ·assumption
 ·omega
theorem deep_le {s s' : PS} (hd : ∃ t, s'.dp = s.dp ++ t) : ∀ (kids : List Int) (m : Int), (∀ k ∈ kids, ∃ i : Nat, k = i ∧ i < s.dp.length) → kids.foldl (fun m k => max m (deepOf s' k)) m = kids.foldl (fun m k => max m (deepOf s k)) m
 | [], m, h => rfl
 | k :: kids, m, h => by
  obtain ⟨i, rfl, hi⟩ := h k (.head _)
  obtain ⟨t, ht⟩ := hd
  have : deepOf s' (i : Int) = deepOf s i := by
   unfold deepOf
   rw [if_neg (by omega), if_neg (by omega), Int.toNat_natCast, ht, List.getElem?_append_left hi]
  simp only [List.foldl_cons, this]
  exact deep_le ⟨t, ht⟩ kids _ fun k hk => h k (.tail _ hk)
theorem add_bkn {N : Nat} {op a n : Int} {t : ByteArray} {kids : List Int} (h : BkN L N s (P ++ kids)) (he : (addP s op a t n kids).1.e = 0) (hs : ShapeOk s.ns op kids) (ht : TextOk L op t n) (hp : PlaceOk L N a) :
  BkN L N (addP s op a t n kids).1 (P ++ [(addP s op a t n kids).2]) ∧ OpAt (fun nd => nd.op = op ∧ nd.kids = kids) (addP s op a t n kids).1.ns (addP s op a t n kids).2 := by
 have hk : ∀ k ∈ kids, ∃ i : Nat, k = i ∧ i < s.ns.length := fun k hk => h.ok (List.mem_append_right _ hk)
 unfold addP at he ⊢
 split at he
 ·rename_i h0; exact absurd he h0
 ·rename_i h0
  rw [if_neg h0]
  split at he
  ·exact absurd he (fail_bad _ _ (by decide))
  ·rename_i h1
   rw [if_neg h1]
   have hf : kids.filter (fun k : Int => decide (0 ≤ k ∧ k < (s.ns.length : Int))) = kids := List.filter_eq_self.2 fun k hkk => by
    obtain ⟨i, rfl, hi⟩ := hk k hkk
    exact decide_eq_true ⟨by omega, by omega⟩
   rw [hf]
   refine ⟨⟨by simp [h.len], fun i x hx => ?_, fun i => ?_, fun k hkk => ?_⟩, s.ns.length, ⟨op, a, t, n, kids⟩, rfl, by simp, rfl, rfl⟩
   ·simp only at hx
    have hdp : ∀ (kids : List Int), (∀ k ∈ kids, ∃ i : Nat, k = i ∧ i < s.ns.length) → deepest { s with ns := s.ns ++ [⟨op, a, t, n, kids⟩], dp := s.dp ++ [deepest s kids + 1] } kids = deepest s kids := fun kids hh => deep_le ⟨_, rfl⟩ kids 0 (by rw [h.len]; exact hh)
    have hdp2 : ∀ (l : List Int), (∀ k ∈ l, ∃ i : Nat, k = i ∧ i < s.ns.length) → deepest { s with ns := s.ns ++ [⟨op, a, t, n, kids⟩], dp := s.dp ++ [deepest s kids + 1] } l = deepest s l := fun l hh => deep_le ⟨_, rfl⟩ l 0 (by rw [h.len]; exact hh)
    rcases Nat.lt_trichotomy i s.ns.length with h2 | h2 | h2
    ·rw [List.getElem?_append_left h2] at hx
     have q := h.node i x hx
     have hq : ∀ k ∈ x.kids, ∃ j : Nat, k = j ∧ j < s.ns.length := fun k hk => ⟨k.toNat, by have := q.kids k hk; omega, by have := q.kids k hk; omega⟩
     exact ⟨q.kids, q.shape.mono, q.text, q.place, by rw [hdp2 _ hq]; show (s.dp ++ _)[i]? = _; rw [List.getElem?_append_left (by rw [h.len]; exact h2)]; exact q.deep, by rw [hdp2 _ hq]; exact q.lim⟩
    ·subst h2
     rw [List.getElem?_append_right (Nat.le_refl _), Nat.sub_self] at hx
     obtain rfl := Option.some.inj hx
     refine ⟨fun k hkk => ?_, hs.mono, ht, hp, ?_, ?_⟩
     ·obtain ⟨j, rfl, hj⟩ := hk k hkk
      omega
     ·rw [hdp2 _ hk]
      show (s.dp ++ [_])[s.ns.length]? = _
      rw [← h.len, List.getElem?_append_right (Nat.le_refl _), Nat.sub_self]
      rfl
     ·rw [hdp2 _ hk]
      omega
    ·rw [List.getElem?_eq_none (by simp; omega)] at hx
     cases hx
   ·have h2 := h.use i
    show (kidsAll (s.ns ++ [_])).count (i : Int) + (P ++ [(s.ns.length : Int)]).count (i : Int) = if i < (s.ns ++ [_]).length then 1 else 0
    unfold kidsAll at h2 ⊢
    rw [List.flatMap_append, List.count_append, List.count_append, List.length_append]
    rw [List.count_append] at h2
    simp only [List.flatMap_cons, List.flatMap_nil, List.append_nil, List.length_cons, List.length_nil]
    by_cases h3 : i = s.ns.length
    ·subst h3
     rw [if_neg (by omega)] at h2
     rw [if_pos (by omega), List.count_cons_self, List.count_nil]
     omega
    ·rw [List.count_cons_of_ne (by omega), List.count_nil]
     split at h2
     ·rw [if_pos (by omega)]
      omega
     ·rw [if_neg (by omega)]
      omega
   ·rcases List.mem_append.1 hkk with h2 | h2
    ·exact h.pos k (List.mem_append_left _ h2)
    ·rw [List.mem_singleton.1 h2]
     omega
theorem add_at (op a : Int) (t : ByteArray) (n : Int) (kids : List Int) : (addP s op a t n kids).1.at_ = s.at_ := by
 unfold addP
 split
 ·rfl
 ·split
  ·unfold failP
   split <;> rfl
  ·rfl
theorem add_bk {op a n : Int} {t : ByteArray} {kids : List Int} (h : Bk L s (P ++ kids)) (he : (addP s op a t n kids).1.e = 0) (hs : ShapeOk s.ns op kids) (ht : TextOk L op t n) (hp : PlaceOk L s.at_ a) :
  Bk L (addP s op a t n kids).1 (P ++ [(addP s op a t n kids).2]) ∧ OpAt (fun nd => nd.op = op ∧ nd.kids = kids) (addP s op a t n kids).1.ns (addP s op a t n kids).2 := by
 unfold Bk
 rw [add_at]
 exact add_bkn h he hs ht hp
theorem OpAt.x {op : Int} {kids : List Int} {ns : List NodeD} {x : Int} (h : OpAt (fun nd => nd.op = op ∧ nd.kids = kids) ns x) (ho : IsX op) : XAt ns x := by
 obtain ⟨k, nd, e, h1, h2, _⟩ := h
 exact ⟨k, nd, e, h1, by show IsX nd.op; rw [h2]; exact ho⟩
theorem is_place {t : ByteArray} {n : Nat} (h : isP L s t 0 = true) (hn : s.at_ + 1 ≤ n) : PlaceOk L n (tokP L s 0).at_ := by
 obtain ⟨h1, h2⟩ := isP_in h
 exact ⟨s.at_, L[s.at_], by omega, List.getElem?_eq_getElem h2, by unfold tokP; rw [if_neg (fun e => e h1)]; simp only [Nat.add_zero] at h2 ⊢; rw [List.getElem?_eq_getElem h2]; rfl⟩
theorem tok_place {n : Nat} (h : (tokP L s 0).k ≠ 0) (hn : s.at_ + 1 ≤ n) : PlaceOk L n (tokP L s 0).at_ := by
 obtain ⟨h1, h2⟩ := tokP_in h
 exact ⟨s.at_, L[s.at_], by omega, List.getElem?_eq_getElem h2, by unfold tokP; rw [if_neg (fun e => e h1)]; simp only [Nat.add_zero] at h2 ⊢; rw [List.getElem?_eq_getElem h2]; rfl⟩
theorem tok_mem (h : (tokP L s 0).k ≠ 0) : tokP L s 0 ∈ L := by
 obtain ⟨h1, h2⟩ := tokP_in h
 unfold tokP
 rw [if_neg (fun e => e h1)]
 simp only [Nat.add_zero] at h2 ⊢
 rw [List.getElem?_eq_getElem h2]
 exact List.getElem_mem h2
theorem BkN.place {n : Nat} (h : BkN L n s P) {p : NodeD → Prop} {x : Int} (hx : OpAt p s.ns x) : PlaceOk L n (placeOf s x) := by
 obtain ⟨k, nd, rfl, h1, _⟩ := hx
 have := (h.node k nd h1).place
 unfold placeOf
 rw [if_neg (by omega), Int.toNat_natCast, h1]
 exact this
theorem all_snoc {ns : List NodeD} {l : List Int} {x : Int} (h : ∀ k ∈ l, XAt ns k) (hx : XAt ns x) : ∀ k ∈ l ++ [x], XAt ns k := fun k hk => by
 rcases List.mem_append.1 hk with h1 | h1
 ·exact h k h1
 ·rw [List.mem_singleton.1 h1]; exact hx
theorem all_gr {n : Nat} {d : Int} {l : List Int} (h : ∀ k ∈ l, XAt s.ns k) (g : Gr n d s s') : ∀ k ∈ l, XAt s'.ns k := fun k hk => (h k hk).gr g
theorem all_in {l : List Int} (h : ∀ k ∈ l, XAt s.ns k) : ∀ k ∈ l, In s k := fun k hk => (h k hk).in_
end
def BkE (L : List TokD) (F : Ex) : Prop := ∀ s P r, F s = some r → r.1.e = 0 → Bk L s P → Bk L r.1 (P ++ [r.2]) ∧ XAt r.1.ns r.2
section
variable {L : List TokD} {ex : Ex} {s : PS}
theorem rowE_bk (hex : BkE L ex) (hg : GdE L.length ex) (fin : ByteArray) : ∀ (m : Nat) (s : PS) (P kids : List Int) (r : PS × List Int), rowE ex L fin m s kids = some r → r.1.e = 0 → Bk L s (P ++ kids) → (∀ k ∈ kids, XAt s.ns k) → Bk L r.1 (P ++ r.2) ∧ (∀ k ∈ r.2, XAt r.1.ns k) ∧ kids.length ≤ r.2.length
 | 0, s, P, kids, r, h, he, hb, hx => by cases h
 | m + 1, s, P, kids, r, h, he, hb, hx => by
  have hgl := (rowE_gl hg fin (m + 1) s kids r (all_in hx) h).1
  unfold rowE at h
  split at h
  ·rename_i hc
   obtain rfl := Option.some.inj h
   exact absurd he hc
  ·split at h
   ·obtain rfl := Option.some.inj h
    exact ⟨hb.mv (take_mv fin), all_gr hx (take_gr (L := L) fin), Nat.le_refl _⟩
   ·split at h
    ·cases h
    ·rename_i s1 x hx1
     have g0 := take_gr (L := L) (s := s) fin
     have g1 := (hg _ _ hx1).1
     have i1 := (hg _ _ hx1).2
     have g2 := take_gr (L := L) (s := s1) gComma
     have hin := in_snoc (in_all (all_in hx) ((g0.trans g1).trans g2)) (i1.mono g2)
     split at h
     ·have e1 : s1.e = 0 := g2.pos ((rowE_gl hg fin m _ _ _ hin h).1.pos he)
      obtain ⟨b1, x1⟩ := hex _ _ _ hx1 e1 (hb.mv (take_mv fin))
      have := rowE_bk hex hg fin m _ P (kids ++ [x]) r h he (by rw [← List.append_assoc]; exact b1.mv (take_mv _)) (all_snoc (all_gr hx ((g0.trans g1).trans g2)) (x1.gr g2))
      refine ⟨this.1, this.2.1, ?_⟩
      have h3 := this.2.2
      simp at h3
      omega
     ·obtain rfl := Option.some.inj h
      have g3 := need_gr (L := L) (s := (takeP L gComma s1).1) fin
      have e1 : s1.e = 0 := g2.pos (g3.pos he)
      obtain ⟨b1, x1⟩ := hex _ _ _ hx1 e1 (hb.mv (take_mv fin))
      exact ⟨by rw [← List.append_assoc]; exact (b1.mv (take_mv _)).mv (need_mv _), all_snoc (all_gr hx (((g0.trans g1).trans g2).trans g3)) (x1.gr (g2.trans g3)), by simp⟩
theorem pairsE_bk (hex : BkE L ex) (hg : GdE L.length ex) : ∀ (m : Nat) (s : PS) (P kids : List Int) (r : PS × List Int), pairsE ex L m s kids = some r → r.1.e = 0 → Bk L s (P ++ kids) → (∀ k ∈ kids, XAt s.ns k) → kids.length % 2 = 0 → Bk L r.1 (P ++ r.2) ∧ (∀ k ∈ r.2, XAt r.1.ns k) ∧ r.2.length % 2 = 0
 | 0, s, P, kids, r, h, he, hb, hx, h2 => by cases h
 | m + 1, s, P, kids, r, h, he, hb, hx, h2 => by
  unfold pairsE at h
  split at h
  ·rename_i hc
   obtain rfl := Option.some.inj h
   exact absurd he hc
  ·split at h
   ·obtain rfl := Option.some.inj h
    exact ⟨hb.mv (take_mv _), all_gr hx (take_gr (L := L) _), h2⟩
   ·split at h
    ·cases h
    ·rename_i s1 x hx1
     split at h
     ·cases h
     ·rename_i s2 v hv
      have g0 := take_gr (L := L) (s := s) gRc
      have g1 := (hg _ _ hx1).1
      have i1 := (hg _ _ hx1).2
      have gn := need_gr (L := L) (s := s1) gColon
      have gv := (hg _ _ hv).1
      have iv := (hg _ _ hv).2
      have g2 := take_gr (L := L) (s := s2) gComma
      have hin : ∀ k ∈ kids ++ [x, v], In (takeP L gComma s2).1 k := by
       have := in_snoc (in_snoc (in_all (all_in hx) ((((g0.trans g1).trans gn).trans gv).trans g2)) (i1.mono ((gn.trans gv).trans g2))) (iv.mono g2)
       rwa [List.append_assoc] at this
      have fin : s2.e = 0 → Bk L s2 (P ++ (kids ++ [x, v])) ∧ (∀ k ∈ kids ++ [x, v], XAt s2.ns k) := fun e2 => by
       obtain ⟨b1, x1⟩ := hex _ _ _ hx1 (gn.pos (gv.pos e2)) (hb.mv (take_mv _))
       obtain ⟨b2, x2⟩ := hex _ _ _ hv e2 (b1.mv (need_mv _))
       have hk := all_snoc (all_snoc (all_gr hx (((g0.trans g1).trans gn).trans gv)) (x1.gr (gn.trans gv))) x2
       rw [List.append_assoc] at hk
       refine ⟨?_, hk⟩
       rw [List.append_assoc, List.append_assoc] at b2
       exact b2
      have hl : (kids ++ [x, v]).length % 2 = 0 := by simp; omega
      split at h
      ·obtain ⟨b3, x3⟩ := fin (g2.pos ((pairsE_gl hg m _ _ _ hin h).1.pos he))
       exact pairsE_bk hex hg m _ P _ r h he (b3.mv (take_mv _)) (all_gr x3 g2) hl
      ·obtain rfl := Option.some.inj h
       have g3 := need_gr (L := L) (s := (takeP L gComma s2).1) gRc
       obtain ⟨b3, x3⟩ := fin (g2.pos (g3.pos he))
       exact ⟨(b3.mv (take_mv _)).mv (need_mv _), all_gr x3 (g2.trans g3), hl⟩
theorem roundE_bk (hex : BkE L ex) (hg : GdE L.length ex) {P : List Int} {m : Nat} {a : Int} {r : PS × Int} (hp : PlaceOk L s.at_ a) (h : roundE ex L m a s = some r) (he : r.1.e = 0) (hb : Bk L s P) : Bk L r.1 (P ++ [r.2]) ∧ XAt r.1.ns r.2 := by
 unfold roundE at h
 have g0 := take_gr (L := L) (s := s) gRp
 split at h
 ·obtain rfl := Option.some.inj h
  have := add_bk (P := P) (kids := []) (by rw [List.append_nil]; exact hb.mv (take_mv (L := L) gRp)) he (.inr (.inl ⟨.inr rfl, fun k hk => by cases hk⟩)) ⟨.inl rfl, by simp⟩ (hp.up g0.up)
  exact ⟨this.1, this.2.x (by constructor <;> decide)⟩
 ·split at h
  ·cases h
  ·rename_i s1 x hx1
   have g1 := (hg _ _ hx1).1
   have g2 := take_gr (L := L) (s := s1) gRp
   split at h
   ·obtain rfl := Option.some.inj h
    obtain ⟨b1, x1⟩ := hex _ _ _ hx1 (g2.pos he) (hb.mv (take_mv (L := L) gRp))
    exact ⟨b1.mv (take_mv _), x1.gr g2⟩
   ·split at h
    ·cases h
    ·rename_i s2 kids hr
     obtain rfl := Option.some.inj h
     have g3 := need_gr (L := L) (s := (takeP L gRp s1).1) gComma
     have hin := in_snoc (l := []) (fun k hk => by cases hk) (((hg _ _ hx1).2.mono g2).mono g3)
     have g4 := (rowE_gl hg _ _ _ _ _ hin hr).1
     have e2 : s2.e = 0 := (add_gr (L := L) ..).pos he
     obtain ⟨b1, x1⟩ := hex _ _ _ hx1 (g2.pos (g3.pos (g4.pos e2))) (hb.mv (take_mv (L := L) gRp))
     obtain ⟨b2, x2, _⟩ := rowE_bk hex hg gRp m _ P [x] _ hr e2 ((b1.mv (take_mv _)).mv (need_mv _)) (all_snoc (l := []) (fun k hk => by cases hk) (x1.gr (g2.trans g3)))
     have := add_bk (P := P) b2 he (.inr (.inl ⟨.inr rfl, x2⟩)) ⟨.inl rfl, by simp⟩ (hp.up ((((g0.trans g1).trans g2).trans g3).trans g4).up)
     exact ⟨this.1, this.2.x (by constructor <;> decide)⟩
theorem atomE_bk (hex : BkE L ex) (hg : GdE L.length ex) {P : List Int} {m : Nat} {r : PS × Int} (h : atomE ex L m s = some r) (he : r.1.e = 0) (hb : Bk L s P) : Bk L r.1 (P ++ [r.2]) ∧ XAt r.1.ns r.2 := by
 unfold atomE at h
 simp only at h
 have hbad : some (failP s 30 s.at_, (-1 : Int)) = some r → False := fun h => by
  obtain rfl := Option.some.inj h
  exact fail_bad _ _ (by decide) he
 have leaf : ∀ op t n, some (addP (stepP s 1) op (tokP L s 0).at_ t n []) = some r → (tokP L s 0).k ≠ 0 → 1 ≤ op → op ≤ 6 → TextOk L op t n → Bk L r.1 (P ++ [r.2]) ∧ XAt r.1.ns r.2 := fun op t n h hk h1 h6 ht => by
  obtain rfl := Option.some.inj h
  have := add_bk (P := P) (kids := []) (by rw [List.append_nil]; exact hb.mv (step_mv 1)) he (.inl ⟨h1, h6, rfl⟩) ht (tok_place hk (Nat.le_refl _))
  exact ⟨this.1, this.2.x ⟨h1, by omega⟩⟩
 split at h
 ·rename_i hk
  have hk0 : (tokP L s 0).k ≠ 0 := by rw [hk]; decide
  exact leaf _ _ _ h hk0 (by decide) (by decide) ⟨.inr ⟨rfl, _, tok_mem hk0, rfl⟩, by simp⟩
 split at h
 ·rename_i _ hk
  have hk0 : (tokP L s 0).k ≠ 0 := by rw [hk]; decide
  exact leaf _ _ _ h hk0 (by decide) (by decide) ⟨.inl rfl, .inl ⟨rfl, _, tok_mem hk0, rfl⟩⟩
 split at h
 ·rename_i _ _ hk
  have hk0 : (tokP L s 0).k ≠ 0 := by rw [hk]; decide
  split at h
  ·rename_i op hop
   have h3 : op = 1 ∨ op = 2 ∨ op = 3 := by
    unfold wordOp at hop
    repeat' split at hop
    all_goals (first | (cases hop; done) | (injection hop with hop; omega))
   exact leaf _ _ _ h hk0 (by omega) (by omega) ⟨.inl rfl, by rcases h3 with rfl | rfl | rfl <;> simp⟩
  ·split at h
   ·rename_i hn
    exact leaf _ _ _ h hk0 (by decide) (by decide) ⟨.inl rfl, .inr (.inl ⟨.inl rfl, hn, _, tok_mem hk0, rfl⟩)⟩
   ·exact (hbad h).elim
 split at h
 ·rename_i _ _ _ hk
  have hk0 : (tokP L s 0).k ≠ 0 := by rw [hk]; decide
  have hpl : PlaceOk L (stepP s 1).at_ (tokP L s 0).at_ := tok_place hk0 (Nat.le_refl _)
  split at h
  ·exact roundE_bk hex hg hpl h he (hb.mv (step_mv 1))
  ·split at h
   ·split at h
    ·cases h
    ·rename_i s2 kids hr
     obtain rfl := Option.some.inj h
     have g4 := (rowE_gl hg _ _ _ _ _ (fun k hk => by cases hk) hr).1
     have e2 : s2.e = 0 := (add_gr (L := L) ..).pos he
     obtain ⟨b2, x2, _⟩ := rowE_bk hex hg gRb m _ P [] _ hr e2 (by rw [List.append_nil]; exact hb.mv (step_mv 1)) (fun k hk => by cases hk)
     have := add_bk (P := P) b2 he (.inr (.inl ⟨.inl rfl, x2⟩)) ⟨.inl rfl, by simp⟩ (hpl.up g4.up)
     exact ⟨this.1, this.2.x (by constructor <;> decide)⟩
   ·split at h
    ·split at h
     ·cases h
     ·rename_i s2 kids hr
      obtain rfl := Option.some.inj h
      have g4 := (pairsE_gl hg _ _ _ _ (fun k hk => by cases hk) hr).1
      have e2 : s2.e = 0 := (add_gr (L := L) ..).pos he
      obtain ⟨b2, x2, x3⟩ := pairsE_bk hex hg m _ P [] _ hr e2 (by rw [List.append_nil]; exact hb.mv (step_mv 1)) (fun k hk => by cases hk) rfl
      have := add_bk (P := P) b2 he (.inr (.inr (.inl ⟨rfl, x3, x2⟩))) ⟨.inl rfl, by simp⟩ (hpl.up g4.up)
      exact ⟨this.1, this.2.x (by constructor <;> decide)⟩
    ·exact (hbad h).elim
 ·exact (hbad h).elim
theorem boundE_bk (hex : BkE L ex) {P : List Int} {fin : ByteArray} {r : PS × Int} (h : boundE ex L fin s = some r) (he : r.1.e = 0) (hb : Bk L s P) : BkN L (r.1.at_ + 1) r.1 (P ++ [r.2]) ∧ XAt r.1.ns r.2 := by
 unfold boundE at h
 split at h
 ·rename_i hi
  obtain rfl := Option.some.inj h
  rw [add_at]
  have := add_bkn (P := P) (N := s.at_ + 1) (kids := []) (by rw [List.append_nil]; exact hb.mvn (Mv.refl s) (Nat.le_succ _)) he (.inl ⟨by decide, by decide, rfl⟩) ⟨.inl rfl, by simp⟩ (is_place hi (Nat.le_refl _))
  exact ⟨this.1, this.2.x (by constructor <;> decide)⟩
 ·have := hex _ _ _ h he hb
  exact ⟨this.1.mvn (Mv.refl _) (Nat.le_succ _), this.2⟩
theorem need_on {t : ByteArray} (he : (needP L t s).e = 0) : (needP L t s).at_ = s.at_ + 1 := by
 unfold needP at he ⊢
 split at he
 ·rename_i h
  rw [if_pos h, (take_step h).1]
  rfl
 ·exact absurd he (fail_bad _ _ (by decide))
theorem indexE_bk (hex : BkE L ex) (hg : GdE L.length ex) {P : List Int} {x a : Int} {r : PS × Int} (hp : PlaceOk L s.at_ a) (h : indexE ex L x a s = some r) (he : r.1.e = 0) (hx : XAt s.ns x) (hb : Bk L s (P ++ [x])) : Bk L r.1 (P ++ [r.2]) ∧ XAt r.1.ns r.2 := by
 unfold indexE at h
 simp only at h
 split at h
 ·cases h
 ·rename_i s1 y hy
  have g1 := (boundE_gd hg hy).1
  split at h
  ·rename_i hc
   obtain rfl := Option.some.inj h
   have g2 := take_gr (L := L) (s := s1) gRb
   have e2 : (takeP L gRb s1).1.e = 0 := (add_gr (L := L) ..).pos he
   have hy2 := hy
   unfold boundE at hy2
   rw [if_neg (by rw [hc.1]; decide)] at hy2
   obtain ⟨b1, x1⟩ := hex _ _ _ hy2 (g2.pos e2) hb
   have := add_bk (P := P) (kids := [x, y]) (by rw [List.append_assoc] at b1; exact b1.mv (take_mv _)) he (.inr (.inr (.inr (.inr (.inl ⟨by simp, rfl, all_snoc (l := [x]) (all_snoc (l := []) (fun k hk => by cases hk) (hx.gr (g1.trans g2))) (x1.gr g2)⟩))))) ⟨.inl rfl, by simp⟩ (hp.up (g1.trans g2).up)
   exact ⟨this.1, this.2.x (by constructor <;> decide)⟩
  ·split at h
   ·cases h
   ·rename_i s3 z hz
    obtain rfl := Option.some.inj h
    have g2 : Gr L.length 0 s1 (if isP L s gColon 0 = true then s1 else (takeP L gRb s1).1) := by
     split
     ·exact Gr.refl _ _
     ·exact take_gr _
    have m2 : Mv s1 (if isP L s gColon 0 = true then s1 else (takeP L gRb s1).1) := by
     split
     ·exact Mv.refl _
     ·exact take_mv _
    generalize (if isP L s gColon 0 = true then s1 else (takeP L gRb s1).1) = s2 at h hz g2 m2
    have g3 := need_gr (L := L) (s := s2) gColon
    have g4 := (boundE_gd hg hz).1
    have g5 := need_gr (L := L) (s := s3) gRb
    have e5 : (needP L gRb s3).e = 0 := (add_gr (L := L) ..).pos he
    have e3 : (needP L gColon s2).e = 0 := g4.pos (g5.pos e5)
    obtain ⟨b1, x1⟩ := boundE_bk hex hy (g2.pos (g3.pos e3)) hb
    have b2 : Bk L (needP L gColon s2) (P ++ [x] ++ [y]) := b1.mvn (m2.trans (need_mv _)) (by rw [need_on e3]; have := m2.up; show s1.at_ + 1 ≤ _; omega)
    obtain ⟨b3, x3⟩ := boundE_bk hex hz (g5.pos e5) b2
    have b4 : Bk L (needP L gRb s3) (P ++ [x] ++ [y] ++ [z]) := b3.mvn (need_mv _) (by rw [need_on e5]; exact Nat.le_refl _)
    have := add_bk (P := P) (kids := [x, y, z]) (by simpa using b4) he (.inr (.inr (.inr (.inr (.inr (.inl ⟨by simp, rfl, all_snoc (l := [x, y]) (all_snoc (l := [x]) (all_snoc (l := []) (fun k hk => by cases hk) (hx.gr ((((g1.trans g2).trans g3).trans g4).trans g5))) (x1.gr (((g2.trans g3).trans g4).trans g5))) (x3.gr g5)⟩)))))) ⟨.inl rfl, by simp⟩ (hp.up ((((g1.trans g2).trans g3).trans g4).trans g5).up)
    exact ⟨this.1, this.2.x (by constructor <;> decide)⟩
theorem name_ok (he : (nameP L s).1.e = 0) : nameB (nameP L s).2 = true ∧ (nameP L s).1 = stepP s 1 ∧ (tokP L s 0).k = 1 := by
 unfold nameP at he ⊢
 split at he
 ·rename_i h
  rw [if_pos h]
  exact ⟨h.2, rfl, h.1⟩
 ·exact absurd he (fail_bad _ _ (by decide))
theorem name_mem (he : (nameP L s).1.e = 0) : ∃ u ∈ L, (nameP L s).2 = u.s := by
 have hk := name_ok he
 refine ⟨_, tok_mem (by rw [hk.2.2]; decide), ?_⟩
 unfold nameP
 have := hk
 unfold nameP at he
 split at he
 ·rename_i h
  rw [if_pos h]
 ·exact absurd he (fail_bad _ _ (by decide))
theorem postE_bk (hex : BkE L ex) (hg : GdE L.length ex) (m0 : Nat) {a : Int} : ∀ (m : Nat) (s : PS) (P : List Int) (x : Int) (r : PS × Int), (s.e = 0 → PlaceOk L s.at_ a) → postE ex L m0 a m s x = some r → r.1.e = 0 → In s x → (s.e = 0 → Bk L s (P ++ [x]) ∧ XAt s.ns x) → Bk L r.1 (P ++ [r.2]) ∧ XAt r.1.ns r.2
 | 0, s, P, x, r, hp, h, he, hi, hb => by cases h
 | m + 1, s, P, x, r, hp, h, he, hi, hb => by
  have hgl := (postE_gd hg m0 a (m + 1) s x r hi h).1
  have e0 := hgl.pos he
  obtain ⟨b0, x0⟩ := hb e0
  have hp := hp e0
  unfold postE at h
  simp only at h
  split at h
  ·obtain rfl := Option.some.inj h
   exact ⟨b0, x0⟩
  ·rename_i hc
   have g0 := any_yes (L := L) (s := s) (l := [gDot, gLp, gLb]) (by simpa using hc)
   have b1 := b0.mv (any_mv (L := L) [gDot, gLp, gLb])
   generalize hq : anyP L [gDot, gLp, gLb] s = q at h g0 b1
   split at h
   ·have gn := name_gr (L := L) (s := q.1)
    refine postE_bk hex hg m0 m _ P _ r (fun e => ?_) h he (add_in ..) (fun e => ?_)
    ·rw [add_at]
     exact hp.up (g0.trans gn).up
    ·have e1 : (nameP L q.1).1.e = 0 := (add_gr (L := L) ..).pos e
     have hn := name_ok e1
     have := add_bk (P := P) (kids := [x]) (b1.mv name_mv) e (.inr (.inr (.inr (.inl ⟨by simp, rfl, all_snoc (l := []) (fun k hk => by cases hk) (x0.gr (g0.trans gn))⟩)))) ⟨.inl rfl, .inr (.inl ⟨by simp, hn.1, name_mem e1⟩)⟩ (hp.up (g0.trans gn).up)
     exact ⟨this.1, this.2.x (by constructor <;> decide)⟩
   ·split at h
    ·split at h
     ·cases h
     ·rename_i s2 kids hr
      have hin := in_snoc (l := []) (fun k hk => by cases hk) (hi.mono g0)
      have g4 := (rowE_gl hg _ _ _ _ _ hin hr).1
      refine postE_bk hex hg m0 m _ P _ r (fun e => ?_) h he (add_in ..) (fun e => ?_)
      ·rw [add_at]
       exact hp.up (g0.trans g4).up
      ·have e2 : s2.e = 0 := (add_gr (L := L) ..).pos e
       obtain ⟨b2, x2, x3⟩ := rowE_bk hex hg gRp m0 _ P [x] _ hr e2 b1 (all_snoc (l := []) (fun k hk => by cases hk) (x0.gr g0))
       have := add_bk (P := P) b2 e (.inr (.inr (.inr (.inr (.inr (.inr (.inl ⟨rfl, x3, x2⟩))))))) ⟨.inl rfl, by simp⟩ (hp.up (g0.trans g4).up)
       exact ⟨this.1, this.2.x (by constructor <;> decide)⟩
    ·split at h
     ·cases h
     ·rename_i s2 y hr
      have g4 := (indexE_gd hg hr).1
      exact postE_bk hex hg m0 m _ P _ r (fun e => hp.up (g0.trans g4).up) h he (indexE_gd hg hr).2 (fun e => indexE_bk hex hg (hp.up g0.up) hr e (x0.gr g0) b1)
theorem postfixE_bk (hex : BkE L ex) (hg : GdE L.length ex) {P : List Int} {m : Nat} {r : PS × Int} (h : postfixE ex L m s = some r) (he : r.1.e = 0) (hb : Bk L s P) : Bk L r.1 (P ++ [r.2]) ∧ XAt r.1.ns r.2 := by
 unfold postfixE at h
 split at h
 ·cases h
 ·rename_i s1 x hx1
  have hb1 : s1.e = 0 → Bk L s1 (P ++ [x]) ∧ XAt s1.ns x := fun e => atomE_bk hex hg hx1 e hb
  exact postE_bk hex hg m m _ P _ r (fun e => (hb1 e).1.place (hb1 e).2) h he (atomE_gd hg hx1).2 hb1
theorem factorE_bk (hex : BkE L ex) (hg : GdE L.length ex) (m0 : Nat) : ∀ (m : Nat) (s : PS) (P : List Int) (r : PS × Int), factorE ex L m0 m s = some r → r.1.e = 0 → Bk L s P → Bk L r.1 (P ++ [r.2]) ∧ XAt r.1.ns r.2
 | 0, s, P, r, h, he, hb => by cases h
 | m + 1, s, P, r, h, he, hb => by
  unfold factorE at h
  simp only at h
  split at h
  ·rename_i hc
   split at h
   ·cases h
   ·rename_i s1 x hx1
    obtain rfl := Option.some.inj h
    have g0 := take_yes hc
    have g1 := (factorE_gd hg m0 m _ _ hx1).1
    have hst := take_step hc
    rw [take_is] at hc
    obtain ⟨b1, x1⟩ := factorE_bk hex hg m0 m _ P _ hx1 ((add_gr (L := L) ..).pos he) (hb.mv (take_mv _))
    have := add_bk (P := P) (kids := [x]) b1 he (.inr (.inr (.inr (.inl ⟨by simp, rfl, all_snoc (l := []) (fun k hk => by cases hk) x1⟩)))) ⟨.inl rfl, by simp⟩ (is_place hc (by have := g1.up; rw [hst.1] at this; exact this))
    exact ⟨this.1, this.2.x (by constructor <;> decide)⟩
  ·split at h
   ·cases h
   ·rename_i s1 x hx1
    have g0 := (take_gr (L := L) (s := s) gMinus).trans (postfixE_gd hg hx1).1
    have g2 := take_gr (L := L) (s := s1) gPow
    split at h
    ·split at h
     ·cases h
     ·rename_i s2 y hf
      obtain rfl := Option.some.inj h
      have g3 := (factorE_gd hg m0 m _ _ hf).1
      have e2 : s2.e = 0 := (add_gr (L := L) ..).pos he
      obtain ⟨b1, x1⟩ := postfixE_bk hex hg hx1 (g2.pos (g3.pos e2)) (hb.mv (take_mv _))
      obtain ⟨b2, x2⟩ := factorE_bk hex hg m0 m _ _ _ hf e2 (b1.mv (take_mv _))
      have x1' := x1.gr (g2.trans g3)
      have hpl := b2.place x1'
      rw [List.append_assoc] at b2
      have := add_bk (P := P) (kids := [x, y]) b2 he (.inr (.inr (.inr (.inr (.inl ⟨by simp, rfl, all_snoc (l := [x]) (all_snoc (l := []) (fun k hk => by cases hk) x1') x2⟩))))) ⟨.inl rfl, .inr (.inr (.inl ⟨rfl, by simp [binaries]⟩))⟩ hpl
      exact ⟨this.1, this.2.x (by constructor <;> decide)⟩
    ·obtain rfl := Option.some.inj h
     obtain ⟨b1, x1⟩ := postfixE_bk hex hg hx1 (g2.pos he) (hb.mv (take_mv _))
     exact ⟨b1.mv (take_mv _), x1.gr g2⟩
theorem leftE_bk {part : Ex} (hp : BkE L part) (hg : GdE L.length part) {op : Int} {signs : List ByteArray} (ho : (op = 12 ∧ ∀ t ∈ signs, t ∈ binaries) ∨ op = 14 ∨ op = 15) : ∀ (m : Nat) (s : PS) (P : List Int) (x : Int) (r : PS × Int), leftE L part op signs m s x = some r → r.1.e = 0 → In s x → (s.e = 0 → Bk L s (P ++ [x]) ∧ XAt s.ns x) → Bk L r.1 (P ++ [r.2]) ∧ XAt r.1.ns r.2
 | 0, s, P, x, r, h, he, hi, hb => by cases h
 | m + 1, s, P, x, r, h, he, hi, hb => by
  have e0 := (leftE_gd hg op signs (m + 1) s x r hi h).1.pos he
  obtain ⟨b0, x0⟩ := hb e0
  unfold leftE at h
  simp only at h
  split at h
  ·obtain rfl := Option.some.inj h
   exact ⟨b0, x0⟩
  ·rename_i hc
   have g0 := any_yes (L := L) (s := s) (l := signs) (by simpa using hc)
   have hs : (anyP L signs s).2.1 ∈ signs := by
    rcases any_cases (L := L) (s := s) signs with ⟨h1, _⟩ | ⟨t, ht, _, h1⟩
    ·rw [h1] at hc; exact absurd rfl hc
    ·rw [h1]; exact ht
   split at h
   ·cases h
   ·rename_i s1 y hy
    have g1 := (hg _ _ hy).1
    refine leftE_bk hp hg ho m _ P _ r h he (add_in ..) (fun e => ?_)
    have e1 : s1.e = 0 := (add_gr (L := L) ..).pos e
    obtain ⟨b1, x1⟩ := hp _ _ _ hy e1 (b0.mv (any_mv _))
    have x0' := x0.gr (g0.trans g1)
    have hpl := b1.place x0'
    rw [List.append_assoc] at b1
    have hx2 := all_snoc (l := [x]) (all_snoc (l := []) (fun k hk => by cases hk) x0') x1
    rcases ho with ⟨rfl, ho⟩ | rfl | rfl
    ·have := add_bk (P := P) (kids := [x, y]) b1 e (.inr (.inr (.inr (.inr (.inl ⟨by simp, rfl, hx2⟩))))) ⟨.inl rfl, .inr (.inr (.inl ⟨rfl, by rw [if_pos rfl]; exact ho _ hs⟩))⟩ hpl
     exact ⟨this.1, this.2.x (by constructor <;> decide)⟩
    ·have := add_bk (P := P) (kids := [x, y]) b1 e (.inr (.inr (.inr (.inr (.inl ⟨by simp, rfl, hx2⟩))))) ⟨.inl rfl, by simp⟩ hpl
     exact ⟨this.1, this.2.x (by constructor <;> decide)⟩
    ·have := add_bk (P := P) (kids := [x, y]) b1 e (.inr (.inr (.inr (.inr (.inl ⟨by simp, rfl, hx2⟩))))) ⟨.inl rfl, by simp⟩ hpl
     exact ⟨this.1, this.2.x (by constructor <;> decide)⟩
theorem partsE_bk {part : Ex} (hp : BkE L part) (hg : GdE L.length part) {op : Int} {signs : List ByteArray} (ho : (op = 12 ∧ ∀ t ∈ signs, t ∈ binaries) ∨ op = 14 ∨ op = 15) {m : Nat} : BkE L (partsE L part op signs m) := by
 intro s P r h he hb
 unfold partsE at h
 split at h
 ·cases h
 ·rename_i s1 x hx1
  exact leftE_bk hp hg ho m _ P _ r h he (hg _ _ hx1).2 (fun e => hp _ _ _ hx1 e hb)
theorem termE_bk (hex : BkE L ex) (hg : GdE L.length ex) (m : Nat) : BkE L (termE ex L m) := partsE_bk (fun s P r h he hb => factorE_bk hex hg m m s P r h he hb) (fun s r h => factorE_gd hg m m s r h) (.inl ⟨rfl, by simp [binaries]⟩)
theorem sumE_bk (hex : BkE L ex) (hg : GdE L.length ex) (m : Nat) : BkE L (sumE ex L m) := partsE_bk (termE_bk hex hg m) (termE_gd hg m) (.inl ⟨rfl, by simp [binaries]⟩)
theorem compares_mem (h : (compares L s).2 ≠ 0) : (compares L s).1 ∈ comparers := by
 unfold compares at h ⊢
 repeat' split
 all_goals first | (simp [comparers]; done) | (simp_all)
theorem notE_bk (hex : BkE L ex) (hg : GdE L.length ex) (m0 : Nat) : ∀ (m : Nat) (s : PS) (P : List Int) (r : PS × Int), notE ex L m0 m s = some r → r.1.e = 0 → Bk L s P → Bk L r.1 (P ++ [r.2]) ∧ XAt r.1.ns r.2
 | 0, s, P, r, h, he, hb => by cases h
 | m + 1, s, P, r, h, he, hb => by
  unfold notE at h
  simp only at h
  split at h
  ·rename_i hc
   split at h
   ·cases h
   ·rename_i s1 x hx1
    obtain rfl := Option.some.inj h
    have g1 := (notE_gd hg m0 m _ _ hx1).1
    have hst := take_step hc
    rw [take_is] at hc
    obtain ⟨b1, x1⟩ := notE_bk hex hg m0 m _ P _ hx1 ((add_gr (L := L) ..).pos he) (hb.mv (take_mv _))
    have := add_bk (P := P) (kids := [x]) b1 he (.inr (.inr (.inr (.inl ⟨by simp, rfl, all_snoc (l := []) (fun k hk => by cases hk) x1⟩)))) ⟨.inl rfl, by simp⟩ (is_place hc (by have := g1.up; rw [hst.1] at this; exact this))
    exact ⟨this.1, this.2.x (by constructor <;> decide)⟩
  ·split at h
   ·cases h
   ·rename_i s1 x hx1
    split at h
    ·obtain rfl := Option.some.inj h
     exact sumE_bk hex hg m0 _ _ _ hx1 he (hb.mv (take_mv _))
    ·rename_i hn
     have hcm := compares_in hn
     have hmem := compares_mem hn
     split at h
     ·cases h
     ·rename_i s2 y hf
      have g2 := step_gr (L := L) hcm.1 hcm.2
      have g3 := (sumE_gd hg m0 _ _ hf).1
      split at h
      ·obtain rfl := Option.some.inj h
       exact absurd he (fail_bad _ _ (by decide))
      ·obtain rfl := Option.some.inj h
       have e2 : s2.e = 0 := (add_gr (L := L) ..).pos he
       obtain ⟨b1, x1⟩ := sumE_bk hex hg m0 _ _ _ hx1 hcm.1 (hb.mv (take_mv _))
       obtain ⟨b2, x2⟩ := sumE_bk hex hg m0 _ _ _ hf e2 (b1.mv (step_mv _))
       have x1' := x1.gr (g2.trans g3)
       have hpl := b2.place x1'
       rw [List.append_assoc] at b2
       have := add_bk (P := P) (kids := [x, y]) b2 he (.inr (.inr (.inr (.inr (.inl ⟨by simp, rfl, all_snoc (l := [x]) (all_snoc (l := []) (fun k hk => by cases hk) x1') x2⟩))))) ⟨.inl rfl, .inr (.inr (.inr (.inl ⟨rfl, hmem⟩)))⟩ hpl
       exact ⟨this.1, this.2.x (by constructor <;> decide)⟩
theorem andE_bk (hex : BkE L ex) (hg : GdE L.length ex) (m : Nat) : BkE L (andE ex L m) := partsE_bk (fun s P r h he hb => notE_bk hex hg m m s P r h he hb) (fun s r h => notE_gd hg m m s r h) (.inr (.inl rfl))
theorem orE_bk (hex : BkE L ex) (hg : GdE L.length ex) (m : Nat) : BkE L (orE ex L m) := partsE_bk (andE_bk hex hg m) (andE_gd hg m) (.inr (.inr rfl))
theorem paramsE_bk (hex : BkE L ex) (hg : GdE L.length ex) : ∀ (m : Nat) (s : PS) (P out : List Int) (late : Bool) (r : PS × List Int), paramsE ex L m s out late = some r → r.1.e = 0 → Bk L s (P ++ out) → ParOk s.ns out late → Bk L r.1 (P ++ r.2) ∧ ∃ late', ParOk r.1.ns r.2 late'
 | 0, s, P, out, late, r, h, he, hb, hx => by cases h
 | m + 1, s, P, out, late, r, h, he, hb, hx => by
  unfold paramsE at h
  simp only at h
  split at h
  ·rename_i hc
   obtain rfl := Option.some.inj h
   exact absurd he hc
  ·generalize hC : (if out = [] then takeP L gColon s else (s, false)) = C at h
   have gc : Gr L.length 0 s C.1 := by
    rw [← hC]
    split
    ·exact take_gr _
    ·exact Gr.refl _ _
   have mc : Mv s C.1 := by
    rw [← hC]
    split
    ·exact take_mv _
    ·exact Mv.refl _
   split at h
   ·obtain rfl := Option.some.inj h
    exact ⟨hb.mv mc, late, hx.gr gc⟩
   ·have gn := name_gr (L := L) (s := C.1)
    have gq := (take_gr (L := L) (s := (nameP L C.1).1) gEq)
    have hpl : ∀ n, (nameP L C.1).1.e = 0 → C.1.at_ + 1 ≤ n → PlaceOk L n (tokP L C.1 0).at_ := fun n e hn => tok_place (by rw [(name_ok e).2.2]; decide) hn
    have hat : (nameP L C.1).1.e = 0 → (nameP L C.1).1.at_ = C.1.at_ + 1 := fun e => by rw [(name_ok e).2.1]; rfl
    split at h
    ·split at h
     ·cases h
     ·rename_i s1 x hx1
      have g1 := (hg _ _ hx1).1
      have ga := add_gd (L := L) (s := s1) 22 (tokP L C.1 0).at_ (nameP L C.1).2 0 [x]
      have g3 := take_gr (L := L) (s := (addP s1 22 (tokP L C.1 0).at_ (nameP L C.1).2 0 [x]).1) gComma
      have fin : (addP s1 22 (tokP L C.1 0).at_ (nameP L C.1).2 0 [x]).1.e = 0 → Bk L (addP s1 22 (tokP L C.1 0).at_ (nameP L C.1).2 0 [x]).1 (P ++ (out ++ [(addP s1 22 (tokP L C.1 0).at_ (nameP L C.1).2 0 [x]).2])) ∧ ParOk (addP s1 22 (tokP L C.1 0).at_ (nameP L C.1).2 0 [x]).1.ns (out ++ [(addP s1 22 (tokP L C.1 0).at_ (nameP L C.1).2 0 [x]).2]) true := fun e => by
       have e1 : s1.e = 0 := (add_gr (L := L) ..).pos e
       have en := gq.pos (g1.pos e1)
       obtain ⟨b1, x1⟩ := hex _ _ _ hx1 e1 ((hb.mv mc).mv (name_mv.trans (take_mv _)))
       have := add_bk (P := P ++ out) (kids := [x]) b1 e (.inr (.inr (.inr (.inr (.inr (.inr (.inr (.inr ⟨rfl, by simp, all_snoc (l := []) (fun k hk => by cases hk) x1⟩)))))))) ⟨.inl rfl, .inr (.inl ⟨by simp, (name_ok en).1, name_mem en⟩)⟩ (hpl _ en (by rw [← hat en]; exact (gq.trans g1).up))
       rw [List.append_assoc] at this
       refine ⟨this.1, .some_ (hx.gr ((((gc.trans gn).trans gq).trans g1).trans ga.1)) ?_⟩
       obtain ⟨k, nd, h1, h2, h3, h4⟩ := this.2
       exact ⟨k, nd, h1, h2, h3, by rw [h4]; simp⟩
      split at h
      ·have hin := in_snoc (in_all hx.in_ (((((gc.trans gn).trans gq).trans g1).trans ga.1).trans g3)) (ga.2.mono g3)
       obtain ⟨b2, p2⟩ := fin (g3.pos ((paramsE_gl hg m _ _ _ _ hin h).1.pos he))
       exact paramsE_bk hex hg m _ P _ _ r h he (b2.mv (take_mv _)) (p2.gr g3)
      ·obtain rfl := Option.some.inj h
       have g4 := need_gr (L := L) (s := (takeP L gComma (addP s1 22 (tokP L C.1 0).at_ (nameP L C.1).2 0 [x]).1).1) gColon
       obtain ⟨b2, p2⟩ := fin (g3.pos (g4.pos he))
       exact ⟨(b2.mv (take_mv _)).mv (need_mv _), true, p2.gr (g3.trans g4)⟩
    ·have gf : Gr L.length 0 (takeP L gEq (nameP L C.1).1).1 (if late = true then failP (takeP L gEq (nameP L C.1).1).1 30 C.1.at_ else (takeP L gEq (nameP L C.1).1).1) := by
      split
      ·refine fail_gr (.inl rfl) rfl fun hh => ?_
       have h1 := gn.up
       have h2 := gq.up
       omega
      ·exact Gr.refl _ _
     have mf : Mv (takeP L gEq (nameP L C.1).1).1 (if late = true then failP (takeP L gEq (nameP L C.1).1).1 30 C.1.at_ else (takeP L gEq (nameP L C.1).1).1) := by
      split
      ·exact fail_mv _ _
      ·exact Mv.refl _
     have hl : (if late = true then failP (takeP L gEq (nameP L C.1).1).1 30 C.1.at_ else (takeP L gEq (nameP L C.1).1).1).e = 0 → late = false := fun e => by
      split at e
      ·exact absurd e (fail_bad _ _ (by decide))
      ·rename_i hh
       exact Bool.eq_false_iff.2 hh
     generalize (if late = true then failP (takeP L gEq (nameP L C.1).1).1 30 C.1.at_ else (takeP L gEq (nameP L C.1).1).1) = s1 at h gf mf hl
     have ga := add_gd (L := L) (s := s1) 22 (tokP L C.1 0).at_ (nameP L C.1).2 0 []
     have g3 := take_gr (L := L) (s := (addP s1 22 (tokP L C.1 0).at_ (nameP L C.1).2 0 []).1) gComma
     have fin : (addP s1 22 (tokP L C.1 0).at_ (nameP L C.1).2 0 []).1.e = 0 → late = false ∧ Bk L (addP s1 22 (tokP L C.1 0).at_ (nameP L C.1).2 0 []).1 (P ++ (out ++ [(addP s1 22 (tokP L C.1 0).at_ (nameP L C.1).2 0 []).2])) ∧ ParOk (addP s1 22 (tokP L C.1 0).at_ (nameP L C.1).2 0 []).1.ns (out ++ [(addP s1 22 (tokP L C.1 0).at_ (nameP L C.1).2 0 []).2]) false := fun e => by
      have e1 : s1.e = 0 := (add_gr (L := L) ..).pos e
      have en := gq.pos (gf.pos e1)
      obtain rfl := hl e1
      have b1 := ((hb.mv mc).mv (name_mv.trans (take_mv _))).mv mf
      have := add_bk (P := P ++ out) (kids := []) (by rw [List.append_nil]; exact b1) e (.inr (.inr (.inr (.inr (.inr (.inr (.inr (.inr ⟨rfl, by simp, fun k hk => by cases hk⟩)))))))) ⟨.inl rfl, .inr (.inl ⟨by simp, (name_ok en).1, name_mem en⟩)⟩ (hpl _ en (by rw [← hat en]; exact (gq.trans gf).up))
      rw [List.append_assoc] at this
      exact ⟨rfl, this.1, .none_ (hx.gr ((((gc.trans gn).trans gq).trans gf).trans ga.1)) this.2⟩
     split at h
     ·have hin := in_snoc (in_all hx.in_ (((((gc.trans gn).trans gq).trans gf).trans ga.1).trans g3)) (ga.2.mono g3)
      obtain ⟨rfl, b2, p2⟩ := fin (g3.pos ((paramsE_gl hg m _ _ _ _ hin h).1.pos he))
      exact paramsE_bk hex hg m _ P _ _ r h he (b2.mv (take_mv _)) (p2.gr g3)
     ·obtain rfl := Option.some.inj h
      have g4 := need_gr (L := L) (s := (takeP L gComma (addP s1 22 (tokP L C.1 0).at_ (nameP L C.1).2 0 []).1).1) gColon
      obtain ⟨rfl, b2, p2⟩ := fin (g3.pos (g4.pos he))
      exact ⟨(b2.mv (take_mv _)).mv (need_mv _), false, p2.gr (g3.trans g4)⟩
theorem exprB_bk (hex : BkE L ex) (hg : GdE L.length ex) (m : Nat) : BkE L (exprB ex L m) := by
 intro s P r h he hb
 unfold exprB at h
 simp only at h
 split at h
 ·rename_i hc
  split at h
  ·cases h
  ·rename_i s1 kids hk
   split at h
   ·cases h
   ·rename_i s2 x hx1
    obtain rfl := Option.some.inj h
    have hst := take_step hc
    rw [take_is] at hc
    have g1 := (paramsE_gl hg _ _ _ _ _ (fun k hk => by cases hk) hk).1
    have g2 := (hg _ _ hx1).1
    have e2 : s2.e = 0 := (add_gr (L := L) ..).pos he
    obtain ⟨b1, late, p1⟩ := paramsE_bk hex hg m _ P [] false _ hk (g2.pos e2) (by rw [List.append_nil]; exact hb.mv (take_mv _)) .nil
    obtain ⟨b2, x2⟩ := hex _ _ _ hx1 e2 b1
    rw [List.append_assoc] at b2
    have := add_bk (P := P) (kids := kids ++ [x]) b2 he (.inr (.inr (.inr (.inr (.inr (.inr (.inr (.inl ⟨rfl, kids, x, late, rfl, p1.gr g2, x2⟩)))))))) ⟨.inl rfl, by simp⟩ (is_place hc (by have := (g1.trans g2).up; rw [hst.1] at this; exact this))
    exact ⟨this.1, this.2.x (by constructor <;> decide)⟩
 ·split at h
  ·cases h
  ·rename_i s1 x hx1
   have g2 := take_gr (L := L) (s := s1) kIf
   split at h
   ·split at h
    ·cases h
    ·rename_i s2 y hy
     split at h
     ·cases h
     ·rename_i s3 z hz
      obtain rfl := Option.some.inj h
      have g3 := (orE_gd hg m _ _ hy).1
      have g4 := need_gr (L := L) (s := s2) kElse
      have g5 := (hg _ _ hz).1
      have e3 : s3.e = 0 := (add_gr (L := L) ..).pos he
      obtain ⟨b1, x1⟩ := orE_bk hex hg m _ _ _ hx1 (g2.pos (g3.pos (g4.pos (g5.pos e3)))) (hb.mv (take_mv _))
      obtain ⟨b2, x2⟩ := orE_bk hex hg m _ _ _ hy (g4.pos (g5.pos e3)) (b1.mv (take_mv _))
      obtain ⟨b3, x3⟩ := hex _ _ _ hz e3 (b2.mv (need_mv _))
      have x1' := x1.gr (((g2.trans g3).trans g4).trans g5)
      have hpl := b3.place x1'
      have := add_bk (P := P) (kids := [x, y, z]) (by simpa using b3) he (.inr (.inr (.inr (.inr (.inr (.inl ⟨by simp, rfl, all_snoc (l := [x, y]) (all_snoc (l := [x]) (all_snoc (l := []) (fun k hk => by cases hk) x1') (x2.gr (g4.trans g5))) x3⟩)))))) ⟨.inl rfl, by simp⟩ hpl
      exact ⟨this.1, this.2.x (by constructor <;> decide)⟩
   ·obtain rfl := Option.some.inj h
    obtain ⟨b1, x1⟩ := orE_bk hex hg m _ _ _ hx1 (g2.pos he) (hb.mv (take_mv _))
    exact ⟨b1.mv (take_mv _), x1.gr g2⟩
end
theorem exprE_bk (L : List TokD) : ∀ m, BkE L (exprE L m)
 | 0 => fun s P r h he hb => by cases h
 | m + 1 => exprB_bk (exprE_bk L m) (exprE_gd L m) m
theorem parsed_bk {L : List TokD} {m : Nat} {r : PS × Int} (h : exprE L m startS = some r) (he : r.1.e = 0) : Bk L r.1 [r.2] ∧ XAt r.1.ns r.2 :=
 exprE_bk L m startS [] r h he (BkN.mk rfl (fun i x hx => by cases hx) (fun i => by simp [kidsAll, startS]) (fun k hk => by cases hk))
end
section
set_option linter.unusedVariables false
set_option linter.unusedSimpArgs false
section
variable {L : List TokD} {n : Nat} {s s1 : PS}
theorem any_none {l : List ByteArray} (h : ∀ t ∈ l, isP L s t 0 = false) : anyP L l s = (s, ⟨#[]⟩, false) := by
 induction l with
 | nil => rfl
 | cons t l ih =>
  unfold anyP
  rw [if_neg (by rw [h t (.head _)]; decide)]
  exact ih fun u hu => h u (.tail _ hu)
theorem take_none {t : ByteArray} (h : isP L s t 0 = false) : takeP L t s = (s, false) := by
 unfold takeP
 rw [any_none (l := [t]) (fun u hu => by rw [List.mem_singleton.1 hu]; exact h)]
theorem cmp_none (h : ∀ t ∈ [gEqq, gNe, gLt, gLe, gGt, gGe, kIn, kIs], isP L s t 0 = false) (h2 : isP L s kNot 0 = true → isP L s kIn 1 = false) : compares L s = (⟨#[]⟩, 0) := by
 unfold compares
 simp only [List.forall_mem_cons] at h
 obtain ⟨a, b, c, d, e, f, g, i, -⟩ := h
 simp only [a, b, c, d, e, f, g, i]
 cases hn : isP L s kNot 0 with
 | false => simp
 | true => simp [h2 hn]
end
end
section
set_option linter.unusedVariables false
set_option linter.unusedSimpArgs false
section
variable {L : List TokD} {n : Nat} {ex ex' : Ex} {s : PS}
def parT (ex : Ex) (L : List TokD) (m : Nat) (out : List Int) (late : Bool) (a : PS × Int) : Option (PS × List Int) :=
 if (takeP L gComma a.1).2 then paramsE ex L m (takeP L gComma a.1).1 (out ++ [a.2]) late
 else some (needP L gColon (takeP L gComma a.1).1, out ++ [a.2])
def parG (ex : Ex) (L : List TokD) (m : Nat) (out : List Int) (late : Bool) (s : PS) : Option (PS × List Int) :=
 if (takeP L gEq (nameP L s).1).2 then match ex (takeP L gEq (nameP L s).1).1 with
  | none => none
  | some (s1, x) => parT ex L m out true (addP s1 22 (tokP L s 0).at_ (nameP L s).2 0 [x])
 else parT ex L m out late (addP (if late then failP (takeP L gEq (nameP L s).1).1 30 s.at_ else (takeP L gEq (nameP L s).1).1) 22 (tokP L s 0).at_ (nameP L s).2 0 [])
theorem paramsE_eq (m : Nat) (out : List Int) (late : Bool) (h0 : s.e = 0) : paramsE ex L (m + 1) s out late = if out = [] ∧ isP L s gColon 0 = true then some (stepP s 1, out) else parG ex L m out late s := by
 unfold paramsE
 rw [if_neg (fun e => e h0)]
 simp only
 generalize hC : (if out = [] then takeP L gColon s else (s, false)) = C
 have hC2 : C = if out = [] ∧ isP L s gColon 0 = true then (stepP s 1, true) else (s, false) := by
  rw [← hC]
  by_cases ho : out = []
  ·rw [if_pos ho]
   cases hi : isP L s gColon 0 with
   | true =>
    rw [if_pos ⟨ho, rfl⟩]
    exact Prod.ext (take_step (t := gColon) (by rw [take_is]; exact hi)).1 (by rw [take_is]; exact hi)
   | false => rw [take_none hi, if_neg (by rintro ⟨_, h⟩; cases h)]
  ·rw [if_neg ho, if_neg (by rintro ⟨h, _⟩; exact ho h)]
 by_cases hc : out = [] ∧ isP L s gColon 0 = true
 ·rw [if_pos hc] at hC2 ⊢
  subst hC2
  rfl
 ·rw [if_neg hc] at hC2 ⊢
  subst hC2
  rfl
end
end
end Go.Proofs.YtjdcicopjipmnaaDoor
