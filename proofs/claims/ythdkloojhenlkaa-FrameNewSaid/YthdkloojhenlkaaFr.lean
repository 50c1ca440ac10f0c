/- A frame as Go's memory holds it: its block, and the rows that it owns. T: the struct's type, TB: its blocks' type. -/
import Derived.Test.YthdkloojhenlkaaVal
namespace Go.Proofs.Ythdkloojhenlkaa
open Go.RowKit

/-- A frame's contents. -/
structure Fr where
  code : Int
  pc : Int
  locals : List V
  bound : List Bool
  cells : List V
  space : V
  values : List V
  blocks : List (Int × Int)
  after : Int
  keep : V
  gen : Int

def bcs (l : List Bool) : List Value := l.map Value.bool
def kcs (l : List (Int × Int)) : List Value := l.flatMap fun p => [.int .i64 p.1, .int .i64 p.2]
theorem bcs_length (l : List Bool) : (bcs l).length = l.length * 1 := by simp [bcs]
theorem bcs_oneCell (l : List Bool) : ∀ u ∈ bcs l, u.oneCell' = true := by
  intro u hu
  simp only [bcs, List.mem_map] at hu
  obtain ⟨x, _, rfl⟩ := hu
  rfl
theorem bcs_set (l : List Bool) (i : Nat) (x : Bool) : (bcs l).set i (.bool x) = bcs (l.set i x) := by simp [bcs, List.map_set]
theorem bcs_at (l : List Bool) (i : Nat) (h : i < l.length) : (bcs l)[i]? = some (.bool l[i]) := by simp [bcs, h]
theorem kcs_length (l : List (Int × Int)) : (kcs l).length = l.length * 2 := by
  induction l with
  | nil => rfl
  | cons x xs ih => simp [kcs] at ih ⊢; omega
theorem kcs_oneCell (l : List (Int × Int)) : ∀ u ∈ kcs l, u.oneCell' = true := by
  intro u hu
  simp only [kcs, List.mem_flatMap] at hu
  obtain ⟨x, _, hx⟩ := hu
  simp only [List.mem_cons, List.not_mem_nil, or_false] at hx
  rcases hx with rfl | rfl <;> rfl
theorem kcs_append (a b : List (Int × Int)) : kcs (a ++ b) = kcs a ++ kcs b := by simp [kcs]
theorem kcs_take (xs : List (Int × Int)) (k : Nat) : (kcs xs).take (k * 2) = kcs (xs.take k) := by
  induction xs generalizing k with
  | nil => simp [kcs]
  | cons x xs ih =>
    cases k with
    | zero => simp [kcs]
    | succ k =>
      have e : (k + 1) * 2 = k * 2 + 1 + 1 := by omega
      rw [List.take_succ_cons, e]
      simp only [kcs, List.flatMap_cons] at ih ⊢
      simp [ih]
theorem kcs_at (xs : List (Int × Int)) (i : Nat) (h : i < xs.length) : (kcs xs)[i * 2]? = some (.int .i64 xs[i].1) ∧ (kcs xs)[i * 2 + 1]? = some (.int .i64 xs[i].2) := by
  induction xs generalizing i with
  | nil => simp at h
  | cons x xs ih =>
    cases i with
    | zero => simp [kcs]
    | succ i =>
      have := ih i (by simpa using h)
      have e : (i + 1) * 2 = i * 2 + 1 + 1 := by omega
      simp only [kcs, List.flatMap_cons] at this ⊢
      simpa [e] using this

def RdB (w : World) (A : Option Addr) (n c : Nat) (xs : List Bool) : Prop := xs.length = n ∧ Rd w A n c 1 (bcs xs)
def RdK (w : World) (A : Option Addr) (n c : Nat) (xs : List (Int × Int)) : Prop := xs.length = n ∧ Rd w A n c 2 (kcs xs)
def OwnB (w : World) (v : Value) (xs : List Bool) : Prop := Own w 4 1 v xs.length (bcs xs)
def OwnK (TB : TypeId) (w : World) (v : Value) (xs : List (Int × Int)) : Prop := Own w TB 2 v xs.length (kcs xs)
theorem OwnB.rd {w : World} {v : Value} {xs : List Bool} (h : OwnB w v xs) : ∃ A n c, v = .slice A n c ∧ RdB w A n c xs ∧ (∀ b o, A = some ⟨b, o, none⟩ → v.ownBlock = some b) := by
  obtain ⟨A, c, e, h1, h2⟩ := Own.rd h
  exact ⟨A, _, c, e, ⟨rfl, h1⟩, h2⟩
theorem OwnK.rd {TB : TypeId} {w : World} {v : Value} {xs : List (Int × Int)} (h : OwnK TB w v xs) : ∃ A n c, v = .slice A n c ∧ RdK w A n c xs ∧ (∀ b o, A = some ⟨b, o, none⟩ → v.ownBlock = some b) := by
  obtain ⟨A, c, e, h1, h2⟩ := Own.rd h
  exact ⟨A, _, c, e, ⟨rfl, h1⟩, h2⟩
theorem RdB.at_ {w : World} {A : Option Addr} {n c : Nat} {xs : List Bool} (h : RdB w A n c xs) {i : Nat} (hi : i < n) :
    ∃ b o, A = some ⟨b, o, none⟩ ∧ b < w.heap.size ∧ w.cell? ⟨b, o + i, none⟩ = some (.bool (xs[i]'(by rw [h.1]; exact hi))) := by
  obtain ⟨hl, _, _, _, hc⟩ := h
  obtain ⟨b, o, rfl, hb, hc⟩ := hc (by omega)
  exact ⟨b, o, rfl, hb, hc _ _ (bcs_at xs i (by omega))⟩
theorem RdK.at_ {w : World} {A : Option Addr} {n c : Nat} {xs : List (Int × Int)} (h : RdK w A n c xs) {i : Nat} (hi : i < n) :
    ∃ b o, A = some ⟨b, o, none⟩ ∧ b < w.heap.size ∧ w.cell? ⟨b, o + i * 2, none⟩ = some (.int .i64 (xs[i]'(by rw [h.1]; exact hi)).1) ∧ w.cell? ⟨b, o + i * 2 + 1, none⟩ = some (.int .i64 (xs[i]'(by rw [h.1]; exact hi)).2) := by
  obtain ⟨hl, _, _, _, hc⟩ := h
  obtain ⟨b, o, rfl, hb, hc⟩ := hc (by omega)
  obtain ⟨h0, h1⟩ := kcs_at xs i (by omega)
  exact ⟨b, o, rfl, hb, hc _ _ h0, hc _ _ h1⟩
theorem OwnV.at_ {w : World} {A : Option Addr} {n c : Nat} {xs : List V} (h : OwnV w (.slice A n c) xs) {i : Nat} (hi : i < xs.length) :
    ∃ b, A = some ⟨b, 0, none⟩ ∧ b < w.heap.size ∧ w.cell? ⟨b, i * 3, none⟩ = some (.int .i64 xs[i].k) ∧ w.cell? ⟨b, i * 3 + 1, none⟩ = some (.int .i64 xs[i].n) ∧ w.cell? ⟨b, i * 3 + 2, none⟩ = some (.string xs[i].s) ∧ ∀ o, w.frozen? ⟨b, o, none⟩ = false := by
  obtain ⟨A', n', c', e, hr, hA⟩ := h.rd
  injection e with e1 e2 e3
  subst e1 e2 e3
  obtain ⟨b, o, rfl, hb, h0, h1, h2⟩ := hr.at_ (i := i) (by rw [← hr.1]; exact hi)
  rcases And.right h with ⟨e, _⟩ | ⟨b', c', cur, e, hh, _⟩
  · cases e
  · injection e with e1 e2 e3
    injection e1 with e1
    injection e1 with e1 e4
    subst e1 e4
    simp only [Nat.zero_add] at h0 h1 h2
    exact ⟨b, rfl, hb, h0, h1, h2, fun o => by simp [World.frozen?, hh]⟩
theorem OwnB.at_ {w : World} {A : Option Addr} {n c : Nat} {xs : List Bool} (h : OwnB w (.slice A n c) xs) {i : Nat} (hi : i < xs.length) :
    ∃ b, A = some ⟨b, 0, none⟩ ∧ b < w.heap.size ∧ w.cell? ⟨b, i, none⟩ = some (.bool xs[i]) ∧ ∀ o, w.frozen? ⟨b, o, none⟩ = false := by
  obtain ⟨A', n', c', e, hr, hA⟩ := h.rd
  injection e with e1 e2 e3
  subst e1 e2 e3
  obtain ⟨b, o, rfl, hb, h0⟩ := hr.at_ (i := i) (by rw [← hr.1]; exact hi)
  rcases And.right h with ⟨e, _⟩ | ⟨b', c', cur, e, hh, _⟩
  · cases e
  · injection e with e1 e2 e3
    injection e1 with e1
    injection e1 with e1 e4
    subst e1 e4
    simp only [Nat.zero_add] at h0
    exact ⟨b, rfl, hb, h0, fun o => by simp [World.frozen?, hh]⟩
theorem OwnB.store {w : World} {b n c : Nat} {xs : List Bool} (h : OwnB w (.slice (some ⟨b, 0, none⟩) n c) xs) {i : Nat} (hi : i < xs.length) (x : Bool) :
    OwnB (w.setCell ⟨b, i, none⟩ (.bool x)) (.slice (some ⟨b, 0, none⟩) n c) (xs.set i x) := by
  obtain ⟨A, n', c', e, hr, _⟩ := h.rd
  obtain rfl : xs.length = n := by injection e with _ e _; rw [e]; exact hr.1
  have h1 := (Own.set_ h (j := i) (by omega) (.bool x)).2.2
  rw [bcs_set] at h1
  unfold OwnB
  rw [List.length_set]
  exact h1
theorem OwnV.cut {w : World} {A : Option Addr} {n c : Nat} {xs : List V} (h : OwnV w (.slice A n c) xs) (hn : xs.length = n) {k : Nat} (hk : k ≤ n) : OwnV w (.slice A k k) (xs.take k) := by
  subst hn
  have := Own.cut h hk
  rw [vcs_take] at this
  unfold OwnV
  rw [List.length_take, Nat.min_eq_left hk]
  exact this
theorem OwnK.cut {TB : TypeId} {w : World} {A : Option Addr} {n c : Nat} {xs : List (Int × Int)} (h : OwnK TB w (.slice A n c) xs) (hn : xs.length = n) {k : Nat} (hk : k ≤ n) : OwnK TB w (.slice A k k) (xs.take k) := by
  subst hn
  have := Own.cut h hk
  rw [kcs_take] at this
  unfold OwnK
  rw [List.length_take, Nat.min_eq_left hk]
  exact this

/-- The cells of a frame's block. -/
def Fr.row (F : Fr) (L B C X K : Value) : Array Value :=
  #[.int .i64 F.code, .int .i64 F.pc, L, B, C, .int .i64 F.space.k, .int .i64 F.space.n, .string F.space.s, X, K, .int .i64 F.after, .int .i64 F.keep.k, .int .i64 F.keep.n, .string F.keep.s, .int .i64 F.gen]

structure FrAt (T TB : TypeId) (w : World) (g : Nat) (F : Fr) (L B C X K : Value) : Prop where
  blk : Blk w g T (F.row L B C X K)
  l : OwnV w L F.locals
  b : OwnB w B F.bound
  c : OwnV w C F.cells
  x : OwnV w X F.values
  k : OwnK TB w K F.blocks
  lc : ∀ i, L.ownBlock = some i → C.ownBlock ≠ some i
  lx : ∀ i, L.ownBlock = some i → X.ownBlock ≠ some i
  cx : ∀ i, C.ownBlock = some i → X.ownBlock ≠ some i

/-- The blocks that a frame's contents lie in. -/
def foot (g : Nat) (L B C X K : Value) (i : Nat) : Prop :=
  i = g ∨ L.ownBlock = some i ∨ B.ownBlock = some i ∨ C.ownBlock = some i ∨ X.ownBlock = some i ∨ K.ownBlock = some i

/-- S, and what is new between w and w' -/
def Grew (S : Nat → Prop) (w w' : World) (i : Nat) : Prop := S i ∨ (w.heap.size ≤ i ∧ i < w'.heap.size)
theorem foot_x {S : Nat → Prop} {w : World} {g : Nat} {L B C X K X' : Value} (h : ∀ i, foot g L B C X K i → S i) (hb : X'.ownBlock = X.ownBlock ∨ X'.ownBlock = some w.heap.size) : ∀ i, foot g L B C X' K i → S i ∨ w.heap.size ≤ i := by
  intro i hi
  rcases hi with e | e | e | e | e | e
  · exact .inl (h i (.inl e))
  · exact .inl (h i (.inr (.inl e)))
  · exact .inl (h i (.inr (.inr (.inl e))))
  · exact .inl (h i (.inr (.inr (.inr (.inl e)))))
  · rcases hb with e' | e' <;> rw [e'] at e
    · exact .inl (h i (.inr (.inr (.inr (.inr (.inl e))))))
    · injection e with e; exact .inr (by omega)
  · exact .inl (h i (.inr (.inr (.inr (.inr (.inr e))))))
theorem foot_k {S : Nat → Prop} {w : World} {g : Nat} {L B C X K K' : Value} (h : ∀ i, foot g L B C X K i → S i) (hb : K'.ownBlock = K.ownBlock ∨ K'.ownBlock = some w.heap.size) : ∀ i, foot g L B C X K' i → S i ∨ w.heap.size ≤ i := by
  intro i hi
  rcases hi with e | e | e | e | e | e
  · exact .inl (h i (.inl e))
  · exact .inl (h i (.inr (.inl e)))
  · exact .inl (h i (.inr (.inr (.inl e))))
  · exact .inl (h i (.inr (.inr (.inr (.inl e)))))
  · exact .inl (h i (.inr (.inr (.inr (.inr (.inl e))))))
  · rcases hb with e' | e' <;> rw [e'] at e
    · exact .inl (h i (.inr (.inr (.inr (.inr (.inr e))))))
    · injection e with e; exact .inr (by omega)
theorem foot_k2 {S : Nat → Prop} {w : World} {g : Nat} {L B C X K K' : Value} (h : ∀ i, foot g L B C X K i → S i) (hb : ∀ i, K'.ownBlock = some i → K.ownBlock = some i ∨ w.heap.size ≤ i) : ∀ i, foot g L B C X K' i → S i ∨ w.heap.size ≤ i := by
  intro i hi
  rcases hi with e | e | e | e | e | e
  · exact .inl (h i (.inl e))
  · exact .inl (h i (.inr (.inl e)))
  · exact .inl (h i (.inr (.inr (.inl e))))
  · exact .inl (h i (.inr (.inr (.inr (.inl e)))))
  · exact .inl (h i (.inr (.inr (.inr (.inr (.inl e))))))
  · exact (hb i e).imp_left fun e => h i (.inr (.inr (.inr (.inr (.inr e)))))
theorem foot_x2 {S : Nat → Prop} {w : World} {g : Nat} {L B C X K X' : Value} (h : ∀ i, foot g L B C X K i → S i) (hb : ∀ i, X'.ownBlock = some i → X.ownBlock = some i ∨ w.heap.size ≤ i) : ∀ i, foot g L B C X' K i → S i ∨ w.heap.size ≤ i := by
  intro i hi
  rcases hi with e | e | e | e | e | e
  · exact .inl (h i (.inl e))
  · exact .inl (h i (.inr (.inl e)))
  · exact .inl (h i (.inr (.inr (.inl e))))
  · exact .inl (h i (.inr (.inr (.inr (.inl e)))))
  · exact (hb i e).imp_left fun e => h i (.inr (.inr (.inr (.inr (.inl e)))))
  · exact .inl (h i (.inr (.inr (.inr (.inr (.inr e))))))
theorem FrAt.keep {T TB : TypeId} {w w' : World} {g : Nat} {F : Fr} {L B C X K : Value} (h : FrAt T TB w g F L B C X K) (hk : ∀ i, foot g L B C X K i → w'.heap[i]? = w.heap[i]?) : FrAt T TB w' g F L B C X K :=
  ⟨h.blk.keep (hk g (.inl rfl)), h.l.keep fun i e => hk i (.inr (.inl e)), h.b.keep fun i e => hk i (.inr (.inr (.inl e))), h.c.keep fun i e => hk i (.inr (.inr (.inr (.inl e)))),
    h.x.keep fun i e => hk i (.inr (.inr (.inr (.inr (.inl e))))), h.k.keep fun i e => hk i (.inr (.inr (.inr (.inr (.inr e))))), h.lc, h.lx, h.cx⟩
theorem FrAt.lt {T TB : TypeId} {w : World} {g : Nat} {F : Fr} {L B C X K : Value} (h : FrAt T TB w g F L B C X K) {i : Nat} (hi : foot g L B C X K i) : i < w.heap.size := by
  rcases hi with rfl | e | e | e | e | e
  · exact h.blk.lt
  · exact h.l.lt e
  · exact h.b.lt e
  · exact h.c.lt e
  · exact h.x.lt e
  · exact h.k.lt e

/-- A frame lies at block g, its blocks all among S, which are blocks that there are. -/
def IsFr (T TB : TypeId) (w : World) (S : Nat → Prop) (g : Nat) (F : Fr) : Prop :=
  ∃ L B C X K, FrAt T TB w g F L B C X K ∧ (∀ i, foot g L B C X K i → S i) ∧ ∀ i, S i → i < w.heap.size

section
variable {T TB : TypeId} {w w' : World} {S S' : Nat → Prop} {g : Nat} {F : Fr}
theorem IsFr.keep (h : IsFr T TB w S g F) (hs : w.heap.size ≤ w'.heap.size) (hk : ∀ i, i < w.heap.size → S i → w'.heap[i]? = w.heap[i]?) : IsFr T TB w' S g F := by
  obtain ⟨L, B, C, X, K, h1, h2, h3⟩ := h
  exact ⟨L, B, C, X, K, h1.keep fun i hi => hk i (h1.lt hi) (h2 i hi), h2, fun i hi => by have := h3 i hi; omega⟩
theorem IsFr.new (h : IsFr T TB w S g F) (hb : Below w.heap.size w w') : IsFr T TB w' S g F := h.keep hb.size fun i hi _ => hb.block i hi
theorem IsFr.mod (h : IsFr T TB w S g F) (hb : Mod S' w w') (hS : ∀ i, S i → ¬ S' i) : IsFr T TB w' S g F := h.keep hb.size fun i hi hs => hb.block i hi (hS i hs)
theorem IsFr.mono (h : IsFr T TB w S g F) (hS : ∀ i, S i → S' i) (hl : ∀ i, S' i → i < w.heap.size) : IsFr T TB w S' g F := by
  obtain ⟨L, B, C, X, K, h1, h2, _⟩ := h
  exact ⟨L, B, C, X, K, h1, fun i hi => hS i (h2 i hi), hl⟩
theorem IsFr.bound (h : IsFr T TB w S g F) : ∀ i, S i → i < w.heap.size := by
  obtain ⟨_, _, _, _, _, _, _, h⟩ := h
  exact h
theorem IsFr.grew {S : Nat → Prop} {w0 : World} (h : IsFr T TB w S g F) (_hs : w0.heap.size ≤ w.heap.size) : IsFr T TB w (Grew S w0 w) g F :=
  h.mono (fun _ h => .inl h) fun i hi => hi.elim (h.bound i) (fun h => h.2)
theorem IsFr.grew2 {S : Nat → Prop} {a b c : World} (h : IsFr T TB c (Grew (Grew S a b) b c) g F) (hab : a.heap.size ≤ b.heap.size) (hbc : b.heap.size ≤ c.heap.size) : IsFr T TB c (Grew S a c) g F := by
  obtain ⟨L, B, C, X, K, h1, h2, h3⟩ := h
  refine ⟨L, B, C, X, K, h1, fun i hi => ?_, fun i hi => ?_⟩
  · rcases h2 i hi with (h | ⟨p, q⟩) | ⟨p, q⟩
    · exact .inl h
    · exact .inr ⟨p, by omega⟩
    · exact .inr ⟨by omega, q⟩
  · rcases hi with h | ⟨p, q⟩
    · exact h3 i (.inl (.inl h))
    · exact q
theorem IsFr.of {w0 : World} {L B C X K : Value} (h : FrAt T TB w g F L B C X K) (hm : w0.heap.size ≤ w.heap.size) (hS : ∀ i, S i → i < w0.heap.size) (hf : ∀ i, foot g L B C X K i → S i ∨ w0.heap.size ≤ i) : IsFr T TB w (Grew S w0 w) g F :=
  ⟨L, B, C, X, K, h, fun i hi => (hf i hi).imp_right fun h' => ⟨h', h.lt hi⟩, fun i hi => hi.elim (fun h => by have := hS i h; omega) fun h => h.2⟩
theorem IsFr.far (h : IsFr T TB w S g F) {p : Addr} (hp : ¬ S p.block) (u : Value) : IsFr T TB (w.setCell p u) S g F :=
  h.keep (by simp [World.setCell]) fun i _ hs => Below.heap_setCell w p u i (by rintro rfl; exact hp hs)
/-- told from an elder world on -/
theorem IsFr.to {S3 : Nat → Prop} {w0 : World} (h : IsFr T TB w S3 g F) (h1 : ∀ i, S3 i → S i ∨ w0.heap.size ≤ i) (h2 : ∀ i, S i → i < w0.heap.size) (h3 : w0.heap.size ≤ w.heap.size) : IsFr T TB w (Grew S w0 w) g F := by
  obtain ⟨L, B, C, X, K, a, b, c⟩ := h
  refine ⟨L, B, C, X, K, a, fun i hi => (h1 i (b i hi)).imp_right fun h => ⟨h, c i (b i hi)⟩, fun i hi => ?_⟩
  rcases hi with h | ⟨p, q⟩
  · have := h2 i h
    omega
  · exact q
/-- S, and what is new between w and w', but for a value's own block -/
def GrewBut (S : Nat → Prop) (w w' : World) (v : Value) (i : Nat) : Prop := S i ∨ (w.heap.size ≤ i ∧ i < w'.heap.size ∧ v.ownBlock ≠ some i)
theorem IsFr.toBut {a b c : World} {v : Value} (h : IsFr T TB c (Grew S b c) g F) (h1 : ∀ k, v.ownBlock = some k → k < b.heap.size) (h2 : ∀ i, S i → i < a.heap.size) (hab : a.heap.size ≤ b.heap.size) (hbc : b.heap.size ≤ c.heap.size) : IsFr T TB c (GrewBut S a c v) g F := by
  refine h.mono (fun i hi => ?_) fun i hi => ?_
  · rcases hi with h | ⟨p, q⟩
    · exact .inl h
    · exact .inr ⟨by omega, q, fun e => by have := h1 i e; omega⟩
  · rcases hi with h | ⟨p, q, _⟩
    · have := h2 i h
      omega
    · exact q
/-- from w0 on: what an operation of a frame leaves -/
theorem grew_far {S2 : Nat → Prop} {w0 : World} (h : ∀ i, S i → ¬ S2 i) (h2 : ∀ i, S2 i → i < w0.heap.size) : ∀ i, Grew S w0 w i → ¬ S2 i := by
  intro i hi hs
  rcases hi with h' | ⟨p, _⟩
  · exact h i h' hs
  · have := h2 i hs
    omega
end

theorem set_values {T TB : TypeId} {w w1 : World} {g : Nat} {F : Fr} {L B C X K X' : Value} {xs : List V} (hT : T ≠ 44) (hT2 : T ≠ 4) (hT3 : T ≠ TB) (hTB : TB ≠ 44) (h : FrAt T TB w g F L B C X K)
    (hX : OwnV w1 X' xs) (hg : w.grownBy w1 X.ownBlock) (hb : X'.ownBlock = X.ownBlock ∨ X'.ownBlock = some w.heap.size) :
    FrAt T TB (w1.setCell ⟨g, 8, none⟩ X') g { F with values := xs } L B C X' K := by
  have hgX : X.ownBlock ≠ some g := own_blk_ne h.x h.blk (Ne.symm hT)
  have hk : ∀ i, i ≠ g → X.ownBlock ≠ some i → i < w.heap.size → (w1.setCell ⟨g, 8, none⟩ X').heap[i]? = w.heap[i]? := fun i h1 h2 h3 =>
    (Below.heap_setCell w1 _ _ _ h1).trans (hg.block i h3 (fun e => h2 e.symm))
  have hX'g : X'.ownBlock ≠ some g := by
    rcases hb with e | e <;> rw [e]
    · exact hgX
    · intro e; injection e with e; have := h.blk.lt; omega
  refine ⟨?_, h.l.keep fun i e => hk i ?_ (h.lx i e) (h.l.lt e), h.b.keep fun i e => hk i ?_ ?_ (h.b.lt e), h.c.keep fun i e => hk i ?_ (h.cx i e) (h.c.lt e), hX.keep fun i e => Below.heap_setCell _ _ _ _ ?_, h.k.keep fun i e => hk i ?_ ?_ (h.k.lt e), h.lc, ?_, ?_⟩
  · exact (h.blk.grown hg (Ne.symm hgX)).set_ 8 X'
  · rintro rfl; exact own_blk_ne h.l h.blk (Ne.symm hT) e
  · rintro rfl; exact own_blk_ne h.b h.blk (Ne.symm hT2) e
  · exact own_own_ne h.b h.x (by decide) e
  · rintro rfl; exact own_blk_ne h.c h.blk (Ne.symm hT) e
  · rintro rfl; exact hX'g e
  · rintro rfl; exact own_blk_ne h.k h.blk (Ne.symm hT3) e
  · exact own_own_ne h.k h.x hTB e
  · intro i e
    rcases hb with e' | e' <;> rw [e']
    · exact h.lx i e
    · intro e2; injection e2 with e2; have := h.l.lt e; omega
  · intro i e
    rcases hb with e' | e' <;> rw [e']
    · exact h.cx i e
    · intro e2; injection e2 with e2; have := h.c.lt e; omega


theorem set_blocks {T TB : TypeId} {w w1 : World} {g : Nat} {F : Fr} {L B C X K K' : Value} {xs : List (Int × Int)} (hT : T ≠ 44) (hT2 : T ≠ 4) (hT3 : T ≠ TB) (hTB : TB ≠ 44) (hTB4 : TB ≠ 4) (h : FrAt T TB w g F L B C X K)
    (hX : OwnK TB w1 K' xs) (hg : w.grownBy w1 K.ownBlock) (hb : K'.ownBlock = K.ownBlock ∨ K'.ownBlock = some w.heap.size) :
    FrAt T TB (w1.setCell ⟨g, 9, none⟩ K') g { F with blocks := xs } L B C X K' := by
  have hgX : K.ownBlock ≠ some g := own_blk_ne h.k h.blk (Ne.symm hT3)
  have hk : ∀ i, i ≠ g → K.ownBlock ≠ some i → i < w.heap.size → (w1.setCell ⟨g, 9, none⟩ K').heap[i]? = w.heap[i]? := fun i h1 h2 h3 =>
    (Below.heap_setCell w1 _ _ _ h1).trans (hg.block i h3 (fun e => h2 e.symm))
  have hX'g : K'.ownBlock ≠ some g := by
    rcases hb with e | e <;> rw [e]
    · exact hgX
    · intro e; injection e with e; have := h.blk.lt; omega
  refine ⟨?_, h.l.keep fun i e => hk i ?_ ?_ (h.l.lt e), h.b.keep fun i e => hk i ?_ ?_ (h.b.lt e), h.c.keep fun i e => hk i ?_ ?_ (h.c.lt e), h.x.keep fun i e => hk i ?_ ?_ (h.x.lt e), hX.keep fun i e => Below.heap_setCell _ _ _ _ ?_, h.lc, h.lx, h.cx⟩
  · exact (h.blk.grown hg (Ne.symm hgX)).set_ 9 K'
  · rintro rfl; exact own_blk_ne h.l h.blk (Ne.symm hT) e
  · exact own_own_ne h.l h.k (Ne.symm hTB) e
  · rintro rfl; exact own_blk_ne h.b h.blk (Ne.symm hT2) e
  · exact own_own_ne h.b h.k (Ne.symm hTB4) e
  · rintro rfl; exact own_blk_ne h.c h.blk (Ne.symm hT) e
  · exact own_own_ne h.c h.k (Ne.symm hTB) e
  · rintro rfl; exact own_blk_ne h.x h.blk (Ne.symm hT) e
  · exact own_own_ne h.x h.k (Ne.symm hTB) e
  · rintro rfl; exact hX'g e
theorem set_pc {T TB : TypeId} {w : World} {g : Nat} {F : Fr} {L B C X K : Value} (hT : T ≠ 44) (hT2 : T ≠ 4) (hT3 : T ≠ TB) (h : FrAt T TB w g F L B C X K) (p : Int) :
    FrAt T TB (w.setCell ⟨g, 1, none⟩ (.int .i64 p)) g { F with pc := p } L B C X K := by
  have hk : ∀ i, i ≠ g → (w.setCell ⟨g, 1, none⟩ (.int .i64 p)).heap[i]? = w.heap[i]? := fun i h1 => Below.heap_setCell w _ _ _ h1
  refine ⟨h.blk.set_ 1 _, h.l.keep fun i e => hk i ?_, h.b.keep fun i e => hk i ?_, h.c.keep fun i e => hk i ?_, h.x.keep fun i e => hk i ?_, h.k.keep fun i e => hk i ?_, h.lc, h.lx, h.cx⟩
  · rintro rfl; exact own_blk_ne h.l h.blk (Ne.symm hT) e
  · rintro rfl; exact own_blk_ne h.b h.blk (Ne.symm hT2) e
  · rintro rfl; exact own_blk_ne h.c h.blk (Ne.symm hT) e
  · rintro rfl; exact own_blk_ne h.x h.blk (Ne.symm hT) e
  · rintro rfl; exact own_blk_ne h.k h.blk (Ne.symm hT3) e
/-- the row of locals has turned, in its own block alone -/
theorem set_locals {T TB : TypeId} {w w1 : World} {g : Nat} {F : Fr} {L B C X K : Value} {xs : List V} (hT : T ≠ 44) (hTB : TB ≠ 44) (h : FrAt T TB w g F L B C X K)
    (hX : OwnV w1 L xs) (hg : w.grownBy w1 L.ownBlock) : FrAt T TB w1 g { F with locals := xs } L B C X K := by
  have hgX : L.ownBlock ≠ some g := own_blk_ne h.l h.blk (Ne.symm hT)
  have hk : ∀ i, L.ownBlock ≠ some i → i < w.heap.size → w1.heap[i]? = w.heap[i]? := fun i h2 h3 => hg.block i h3 (fun e => h2 e.symm)
  refine ⟨h.blk.grown hg (Ne.symm hgX), hX, h.b.keep fun i e => hk i ?_ (h.b.lt e), h.c.keep fun i e => hk i (fun e' => h.lc i e' e) (h.c.lt e), h.x.keep fun i e => hk i (fun e' => h.lx i e' e) (h.x.lt e), h.k.keep fun i e => hk i ?_ (h.k.lt e), h.lc, h.lx, h.cx⟩
  · exact own_own_ne h.b h.l (by decide) e
  · exact own_own_ne h.k h.l hTB e
theorem set_bound {T TB : TypeId} {w w1 : World} {g : Nat} {F : Fr} {L B C X K : Value} {xs : List Bool} (hT2 : T ≠ 4) (hTB4 : TB ≠ 4) (h : FrAt T TB w g F L B C X K)
    (hX : OwnB w1 B xs) (hg : w.grownBy w1 B.ownBlock) : FrAt T TB w1 g { F with bound := xs } L B C X K := by
  have hgX : B.ownBlock ≠ some g := own_blk_ne h.b h.blk (Ne.symm hT2)
  have hk : ∀ i, B.ownBlock ≠ some i → i < w.heap.size → w1.heap[i]? = w.heap[i]? := fun i h2 h3 => hg.block i h3 (fun e => h2 e.symm)
  refine ⟨h.blk.grown hg (Ne.symm hgX), h.l.keep fun i e => hk i ?_ (h.l.lt e), hX, h.c.keep fun i e => hk i ?_ (h.c.lt e), h.x.keep fun i e => hk i ?_ (h.x.lt e), h.k.keep fun i e => hk i ?_ (h.k.lt e), h.lc, h.lx, h.cx⟩
  · exact own_own_ne h.l h.b (by decide) e
  · exact own_own_ne h.c h.b (by decide) e
  · exact own_own_ne h.x h.b (by decide) e
  · exact own_own_ne h.k h.b hTB4 e
theorem grown_setCell {w w1 : World} {row : Option Nat} (h : w.grownBy w1 row) {p : Addr} (hp : row = some p.block) (u : Value) : w.grownBy (w1.setCell p u) row :=
  ⟨h.os, h.tape, h.output, by simpa [World.setCell] using h.size, fun i hi hne => (Below.heap_setCell w1 p u i (by rintro rfl; exact hne hp.symm)).trans (h.block i hi hne)⟩
/-- element i of a row of values that one owns is stored -/
theorem OwnV.store {w : World} {b n c : Nat} {xs : List V} (h : OwnV w (.slice (some ⟨b, 0, none⟩) n c) xs) {i : Nat} (hi : i < xs.length) (x : V) :
    OwnV (((w.setCell ⟨b, i * 3, none⟩ (.int .i64 x.k)).setCell ⟨b, i * 3 + 1, none⟩ (.int .i64 x.n)).setCell ⟨b, i * 3 + 2, none⟩ (.string x.s)) (.slice (some ⟨b, 0, none⟩) n c) (xs.set i x) := by
  obtain ⟨A, n', c', e, hr, _⟩ := h.rd
  obtain rfl : xs.length = n := by injection e with _ e _; rw [e]; exact hr.1
  have h1 := (Own.set_ h (j := i * 3) (by omega) (.int .i64 x.k)).2.2
  have h2 := (Own.set_ h1 (j := i * 3 + 1) (by omega) (.int .i64 x.n)).2.2
  have h3 := (Own.set_ h2 (j := i * 3 + 2) (by omega) (.string x.s)).2.2
  rw [vcs_set xs i hi x] at h3
  unfold OwnV
  rw [List.length_set]
  exact h3

theorem store_local {T TB : TypeId} {w : World} {g b n c : Nat} {F : Fr} {B C X K : Value} (hT : T ≠ 44) (hTB : TB ≠ 44) (h : FrAt T TB w g F (.slice (some ⟨b, 0, none⟩) n c) B C X K) {i : Nat} (hi : i < F.locals.length) (x : V) :
    FrAt T TB (((w.setCell ⟨b, i * 3, none⟩ (.int .i64 x.k)).setCell ⟨b, i * 3 + 1, none⟩ (.int .i64 x.n)).setCell ⟨b, i * 3 + 2, none⟩ (.string x.s)) g { F with locals := F.locals.set i x } (.slice (some ⟨b, 0, none⟩) n c) B C X K := by
  have h1 := h.l.store hi x
  have g1 : w.grownBy (w.setCell ⟨b, i * 3, none⟩ (.int .i64 x.k)) (some b) := grown_setCell (World.grownBy.refl w _) rfl _
  have g2 : w.grownBy ((w.setCell ⟨b, i * 3, none⟩ (.int .i64 x.k)).setCell ⟨b, i * 3 + 1, none⟩ (.int .i64 x.n)) (some b) := grown_setCell g1 rfl _
  have g3 : w.grownBy (((w.setCell ⟨b, i * 3, none⟩ (.int .i64 x.k)).setCell ⟨b, i * 3 + 1, none⟩ (.int .i64 x.n)).setCell ⟨b, i * 3 + 2, none⟩ (.string x.s)) (some b) := grown_setCell g2 rfl _
  exact set_locals hT hTB h h1 g3
theorem store_bound {T TB : TypeId} {w : World} {g b n c : Nat} {F : Fr} {L C X K : Value} (hT2 : T ≠ 4) (hTB4 : TB ≠ 4) (h : FrAt T TB w g F L (.slice (some ⟨b, 0, none⟩) n c) C X K) {i : Nat} (hi : i < F.bound.length) (x : Bool) :
    FrAt T TB (w.setCell ⟨b, i, none⟩ (.bool x)) g { F with bound := F.bound.set i x } L (.slice (some ⟨b, 0, none⟩) n c) C X K := by
  have h1 := h.b.store hi x
  have g1 : w.grownBy (w.setCell ⟨b, i, none⟩ (.bool x)) (some b) := grown_setCell (World.grownBy.refl w _) rfl _
  exact set_bound hT2 hTB4 h h1 g1

end Go.Proofs.Ythdkloojhenlkaa
