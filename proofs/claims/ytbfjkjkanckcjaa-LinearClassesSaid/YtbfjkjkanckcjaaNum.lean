/- Rows of numbers, and rows of such rows, as Go's memory holds them. -/
import Derived.Test.YtbfjkjkanckcjaaMem
import Derived.Test.YtbfjkjkanckcjaaRows
namespace Go.Proofs.Ytbfjkjkanckcjaa
open Go.RowKit

def ics (l : List Int) : List Value := l.map (Value.int .i64)
theorem ics_length (l : List Int) : (ics l).length = l.length * 1 := by simp [ics]
theorem ics_oneCell (l : List Int) : ∀ u ∈ ics l, u.oneCell' = true := by
  intro u hu
  simp only [ics, List.mem_map] at hu
  obtain ⟨x, _, rfl⟩ := hu
  rfl
theorem ics_append (a b : List Int) : ics (a ++ b) = ics a ++ ics b := by simp [ics]
theorem ics_take (l : List Int) (k : Nat) : (ics l).take (k * 1) = ics (l.take k) := by simp [ics, List.map_take]
theorem ics_drop (l : List Int) (k : Nat) : (ics l).drop (k * 1) = ics (l.drop k) := by simp [ics, List.map_drop]
/-- The slice reads as numbers. -/
def RdI (w : World) (A : Option Addr) (n c : Nat) (xs : List Int) : Prop := xs.length = n ∧ Rd w A n c 1 (ics xs)
/-- The slice value owns a row of numbers of type t. -/
def OwnI (t : TypeId) (w : World) (v : Value) (xs : List Int) : Prop := Own w t 1 v xs.length (ics xs)
section
variable {t : TypeId} {w w' : World} {A : Option Addr} {n c : Nat} {v : Value} {xs : List Int}
theorem OwnI.rd (h : OwnI t w v xs) : ∃ A n c, v = .slice A n c ∧ RdI w A n c xs ∧ (∀ b o, A = some ⟨b, o, none⟩ → v.ownBlock = some b) := by
  obtain ⟨A, c, e, h1, h2⟩ := Own.rd h
  exact ⟨A, _, c, e, ⟨rfl, h1⟩, h2⟩
theorem OwnI.rdL (h : OwnI t w v xs) : ∃ A c, v = .slice A xs.length c ∧ RdI w A xs.length c xs ∧ (∀ b o, A = some ⟨b, o, none⟩ → v.ownBlock = some b) := by
  obtain ⟨A, c, e, h1, h2⟩ := Own.rd h
  exact ⟨A, c, e, ⟨rfl, h1⟩, h2⟩
theorem OwnI.nil_ (t : TypeId) (w : World) : OwnI t w (.slice none 0 0) [] := Own.nil_ _ _ _
theorem emptyI (t : TypeId) (w : World) : OwnI t (w.alloc (.cells #[] t)) (.slice (some ⟨w.heap.size, 0, none⟩) 0 0) [] := Own.made w #[] 0 (by omega) rfl
theorem RdI.new (h : RdI w A n c xs) (hb : Below w.heap.size w w') : RdI w' A n c xs := ⟨h.1, h.2.new hb⟩
theorem RdI.mod {S : Nat → Prop} (h : RdI w A n c xs) (hb : Mod S w w') (hA : ∀ b o, A = some ⟨b, o, none⟩ → ¬ S b) : RdI w' A n c xs := ⟨h.1, h.2.mod hb hA⟩
theorem RdI.le (h : RdI w A n c xs) : n ≤ 9223372036854775807 := h.2.le
theorem RdI.at_ (h : RdI w A n c xs) {i : Nat} (hi : i < n) : ∃ b o, A = some ⟨b, o, none⟩ ∧ b < w.heap.size ∧ w.cell? ⟨b, o + i, none⟩ = some (.int .i64 (xs[i]'(by rw [h.1]; exact hi))) := by
  obtain ⟨hl, _, _, _, hc⟩ := h
  obtain ⟨b, o, rfl, hb, hc⟩ := hc (by omega)
  exact ⟨b, o, rfl, hb, hc _ _ (by simp [ics, hl, hi])⟩
theorem RdI.lo (h : RdI w A n c xs) {k : Nat} (hk : k ≤ n) : RdI w A k c (xs.take k) := ⟨by rw [List.length_take, h.1]; omega, by rw [← ics_take]; exact h.2.lo hk⟩
theorem RdI.hi (h : RdI w A n c xs) {k : Nat} (hk : k ≤ n) {A' : Option Addr} (hA : k < n → A' = A.map (·.add (k * 1))) : RdI w A' (n - k) (c - k) (xs.drop k) :=
  ⟨by rw [List.length_drop, h.1], by rw [← ics_drop]; exact h.2.hi hk hA⟩
theorem RdI.nil_ {w : World} {A : Option Addr} {c : Nat} (hc : c ≤ 9223372036854775807) : RdI w A 0 c [] := ⟨rfl, Rd.nil_.2 hc⟩
end

/-- A slice in memory, and the numbers that it reads as. -/
structure SlI where
  A : Option Addr
  n : Nat
  c : Nat
  xs : List Int
def SlI.v (s : SlI) : Value := .slice s.A s.n s.c
def SlI.Ok (w : World) (s : SlI) : Prop := RdI w s.A s.n s.c s.xs
theorem SlI.Ok.new {w w' : World} {s : SlI} (h : s.Ok w) (hb : Below w.heap.size w w') : s.Ok w' := RdI.new h hb
def rcs (rs : List SlI) : List Value := rs.map SlI.v
def nums (rs : List SlI) : List (List Int) := rs.map SlI.xs
theorem rcs_length (rs : List SlI) : (rcs rs).length = rs.length * 1 := by simp [rcs]
theorem rcs_oneCell (rs : List SlI) : ∀ u ∈ rcs rs, u.oneCell' = true := by
  intro u hu
  simp only [rcs, List.mem_map] at hu
  obtain ⟨x, _, rfl⟩ := hu
  rfl
theorem rcs_append (a b : List SlI) : rcs (a ++ b) = rcs a ++ rcs b := by simp [rcs]
theorem rcs_take (l : List SlI) (k : Nat) : (rcs l).take (k * 1) = rcs (l.take k) := by simp [rcs, List.map_take]
theorem rcs_drop (l : List SlI) (k : Nat) : (rcs l).drop (k * 1) = rcs (l.drop k) := by simp [rcs, List.map_drop]
theorem rcs_set (l : List SlI) (i : Nat) (x : SlI) : (rcs l).set i x.v = rcs (l.set i x) := by simp [rcs, List.map_set]
theorem nums_length (rs : List SlI) : (nums rs).length = rs.length := by simp [nums]
theorem nums_append (a b : List SlI) : nums (a ++ b) = nums a ++ nums b := by simp [nums]
/-- The slice reads as slices. -/
def RdR (w : World) (A : Option Addr) (n c : Nat) (rs : List SlI) : Prop := rs.length = n ∧ Rd w A n c 1 (rcs rs)
/-- The slice value owns a row of slices of type t. -/
def OwnR (t : TypeId) (w : World) (v : Value) (rs : List SlI) : Prop := Own w t 1 v rs.length (rcs rs)
/-- all of them read as what they say -/
def AllOk (w : World) (rs : List SlI) : Prop := ∀ s ∈ rs, s.Ok w
section
variable {t : TypeId} {w w' : World} {A : Option Addr} {n c : Nat} {v : Value} {rs : List SlI}
theorem AllOk.new (h : AllOk w rs) (hb : Below w.heap.size w w') : AllOk w' rs := fun s hs => (h s hs).new hb
theorem OwnR.rd (h : OwnR t w v rs) : ∃ A n c, v = .slice A n c ∧ RdR w A n c rs ∧ (∀ b o, A = some ⟨b, o, none⟩ → v.ownBlock = some b) := by
  obtain ⟨A, c, e, h1, h2⟩ := Own.rd h
  exact ⟨A, _, c, e, ⟨rfl, h1⟩, h2⟩
theorem OwnR.rdL (h : OwnR t w v rs) : ∃ A c, v = .slice A rs.length c ∧ RdR w A rs.length c rs ∧ (∀ b o, A = some ⟨b, o, none⟩ → v.ownBlock = some b) := by
  obtain ⟨A, c, e, h1, h2⟩ := Own.rd h
  exact ⟨A, c, e, ⟨rfl, h1⟩, h2⟩
theorem RdR.new (h : RdR w A n c rs) (hb : Below w.heap.size w w') : RdR w' A n c rs := ⟨h.1, h.2.new hb⟩
theorem RdR.le (h : RdR w A n c rs) : n ≤ 9223372036854775807 := h.2.le
theorem RdR.at_ (h : RdR w A n c rs) {i : Nat} (hi : i < n) : ∃ b o, A = some ⟨b, o, none⟩ ∧ b < w.heap.size ∧ w.cell? ⟨b, o + i, none⟩ = some (.slice (rs[i]'(by rw [h.1]; exact hi)).A (rs[i]'(by rw [h.1]; exact hi)).n (rs[i]'(by rw [h.1]; exact hi)).c) := by
  obtain ⟨hl, _, _, _, hc⟩ := h
  obtain ⟨b, o, rfl, hb, hc⟩ := hc (by omega)
  exact ⟨b, o, rfl, hb, hc _ _ (by simp [rcs, hl, hi, SlI.v])⟩
theorem RdR.lo (h : RdR w A n c rs) {k : Nat} (hk : k ≤ n) : RdR w A k c (rs.take k) := ⟨by rw [List.length_take, h.1]; omega, by rw [← rcs_take]; exact h.2.lo hk⟩
theorem RdR.hi (h : RdR w A n c rs) {k : Nat} (hk : k ≤ n) {A' : Option Addr} (hA : k < n → A' = A.map (·.add (k * 1))) : RdR w A' (n - k) (c - k) (rs.drop k) :=
  ⟨by rw [List.length_drop, h.1], by rw [← rcs_drop]; exact h.2.hi hk hA⟩
end
theorem info_I64 : (Try.prog.info? 2).map (fun i => (i.zero, i.size, i.bytes)) = some (some (.int .i64 0), 1, 8) := by kernel_rfl
theorem info_Int : (Try.prog.info? 3).map (fun i => (i.zero, i.size, i.bytes)) = some (some (.int .i64 0), 1, 8) := by kernel_rfl
theorem info_Row : (Try.prog.info? 25).map (fun i => (i.zero, i.size, i.bytes)) = some (some (.slice none 0 0), 1, 24) := by kernel_rfl
theorem info_RowI : (Try.prog.info? 40).map (fun i => (i.zero, i.size, i.bytes)) = some (some (.slice none 0 0), 1, 24) := by kernel_rfl
section
variable {ops : Array Oper} {rest : List Oper} {o : Oper} {a : Act} {Q : Exit → Act → World → Prop}
/-- append onto one's own row of numbers (int64) -/
theorem wpList_appendI (w : World) (hgd : o.guard = none) (s x : Operand) (ho : o.op = .call { callee := .builtin .append, args := #[s, x], argTypes := #[25, 25] })
    (v : Value) (xs : List Int) (hs : a.eval s = v) (hown : OwnI 2 w v xs) (A : Option Addr) (m c : Nat) (ys : List Int) (hx : a.eval x = .slice A m c) (hr : RdI w A m c ys) (hbound : xs.length + m ≤ 4398046511104)
    (h : ∀ v' w', OwnI 2 w' v' (xs ++ ys) → w.grownBy w' v.ownBlock → (v'.ownBlock = v.ownBlock ∨ v'.ownBlock = some w.heap.size) → wpList Try.prog ops Q rest (a.put o.dst v') w') : wpList Try.prog ops Q (o :: rest) a w := by
  obtain ⟨i0, hi, hz0, hz1, hz2⟩ := info_parts info_I64
  refine wpList_append_Own w hgd s x _ ho _ i0 _ 1 8 Try.underlying25 hi hz0 hz1 hz2 rfl v xs.length (ics xs) hs hown A m c (ics ys) hx hr.2 (ics_oneCell ys) (by omega) (by omega) (fun v' w' h1 h2 h3 => h v' w' ?_ h2 h3)
  unfold OwnI
  rw [List.length_append, ics_append, hr.1]
  exact h1
/-- (int) -/
theorem wpList_appendN (w : World) (hgd : o.guard = none) (s x : Operand) (ho : o.op = .call { callee := .builtin .append, args := #[s, x], argTypes := #[40, 40] })
    (v : Value) (xs : List Int) (hs : a.eval s = v) (hown : OwnI 3 w v xs) (A : Option Addr) (m c : Nat) (ys : List Int) (hx : a.eval x = .slice A m c) (hr : RdI w A m c ys) (hbound : xs.length + m ≤ 4398046511104)
    (h : ∀ v' w', OwnI 3 w' v' (xs ++ ys) → w.grownBy w' v.ownBlock → (v'.ownBlock = v.ownBlock ∨ v'.ownBlock = some w.heap.size) → wpList Try.prog ops Q rest (a.put o.dst v') w') : wpList Try.prog ops Q (o :: rest) a w := by
  obtain ⟨i0, hi, hz0, hz1, hz2⟩ := info_parts info_Int
  refine wpList_append_Own w hgd s x _ ho _ i0 _ 1 8 Try.underlying40 hi hz0 hz1 hz2 rfl v xs.length (ics xs) hs hown A m c (ics ys) hx hr.2 (ics_oneCell ys) (by omega) (by omega) (fun v' w' h1 h2 h3 => h v' w' ?_ h2 h3)
  unfold OwnI
  rw [List.length_append, ics_append, hr.1]
  exact h1
/-- append onto one's own row of slices (of int64) -/
theorem wpList_appendR (w : World) (hgd : o.guard = none) (s x : Operand) (ho : o.op = .call { callee := .builtin .append, args := #[s, x], argTypes := #[22, 22] })
    (v : Value) (xs : List SlI) (hs : a.eval s = v) (hown : OwnR 25 w v xs) (A : Option Addr) (m c : Nat) (ys : List SlI) (hx : a.eval x = .slice A m c) (hr : RdR w A m c ys) (hbound : xs.length + m ≤ 1000000000000)
    (h : ∀ v' w', OwnR 25 w' v' (xs ++ ys) → w.grownBy w' v.ownBlock → (v'.ownBlock = v.ownBlock ∨ v'.ownBlock = some w.heap.size) → wpList Try.prog ops Q rest (a.put o.dst v') w') : wpList Try.prog ops Q (o :: rest) a w := by
  obtain ⟨i0, hi, hz0, hz1, hz2⟩ := info_parts info_Row
  refine wpList_append_Own w hgd s x _ ho _ i0 _ 1 24 Try.underlying22 hi hz0 hz1 hz2 rfl v xs.length (rcs xs) hs hown A m c (rcs ys) hx hr.2 (rcs_oneCell ys) (by omega) (by omega) (fun v' w' h1 h2 h3 => h v' w' ?_ h2 h3)
  unfold OwnR
  rw [List.length_append, rcs_append, hr.1]
  exact h1
/-- (of int) -/
theorem wpList_appendRN (w : World) (hgd : o.guard = none) (s x : Operand) (ho : o.op = .call { callee := .builtin .append, args := #[s, x], argTypes := #[33, 33] })
    (v : Value) (xs : List SlI) (hs : a.eval s = v) (hown : OwnR 40 w v xs) (A : Option Addr) (m c : Nat) (ys : List SlI) (hx : a.eval x = .slice A m c) (hr : RdR w A m c ys) (hbound : xs.length + m ≤ 1000000000000)
    (h : ∀ v' w', OwnR 40 w' v' (xs ++ ys) → w.grownBy w' v.ownBlock → (v'.ownBlock = v.ownBlock ∨ v'.ownBlock = some w.heap.size) → wpList Try.prog ops Q rest (a.put o.dst v') w') : wpList Try.prog ops Q (o :: rest) a w := by
  obtain ⟨i0, hi, hz0, hz1, hz2⟩ := info_parts info_RowI
  refine wpList_append_Own w hgd s x _ ho _ i0 _ 1 24 Try.underlying33 hi hz0 hz1 hz2 rfl v xs.length (rcs xs) hs hown A m c (rcs ys) hx hr.2 (rcs_oneCell ys) (by omega) (by omega) (fun v' w' h1 h2 h3 => h v' w' ?_ h2 h3)
  unfold OwnR
  rw [List.length_append, rcs_append, hr.1]
  exact h1
end
/-- a new block of one number, or of one slice -/
theorem one_rdI (w : World) (t : TypeId) (x : Int) : RdI (w.alloc (.cells #[.int .i64 x] t)) (some ⟨w.heap.size, 0, none⟩) 1 1 [x] := by
  obtain ⟨A, c, e, hr, _⟩ := Own.rd (Own.made (t := t) (sz := 1) w #[.int .i64 x] 1 (by omega) rfl)
  injection e with e1 e2 e3
  subst e1 e3
  exact ⟨rfl, hr⟩
theorem one_rdR (w : World) (t : TypeId) (s : SlI) : RdR (w.alloc (.cells #[.slice s.A s.n s.c] t)) (some ⟨w.heap.size, 0, none⟩) 1 1 [s] := by
  obtain ⟨A, c, e, hr, _⟩ := Own.rd (Own.made (t := t) (sz := 1) w #[.slice s.A s.n s.c] 1 (by omega) rfl)
  injection e with e1 e2 e3
  subst e1 e3
  exact ⟨rfl, hr⟩
/-- a row that was made behind w -/
structure NewI (t : TypeId) (w wr : World) (v : Value) (xs : List Int) : Prop where
  own : OwnI t wr v xs
  new : ∀ b, v.ownBlock = some b → w.heap.size ≤ b
  bel : Below w.heap.size w wr
structure NewR (t : TypeId) (w wr : World) (v : Value) (rs : List SlI) : Prop where
  own : OwnR t wr v rs
  new : ∀ b, v.ownBlock = some b → w.heap.size ≤ b
  bel : Below w.heap.size w wr
section
variable {t : TypeId} {w wr w' : World} {v v' : Value} {xs ys : List Int} {rs ss : List SlI}
theorem NewI.below (h : NewI t w wr v xs) (hb : Below wr.heap.size wr w') : NewI t w w' v xs := ⟨Own.new h.own hb, h.new, h.bel.trans (hb.mono h.bel.size)⟩
theorem NewR.below (h : NewR t w wr v rs) (hb : Below wr.heap.size wr w') : NewR t w w' v rs := ⟨Own.new h.own hb, h.new, h.bel.trans (hb.mono h.bel.size)⟩
theorem NewI.app (h : NewI t w wr v xs) (ho : OwnI t w' v' ys) (hg : wr.grownBy w' v.ownBlock) (ha : v'.ownBlock = v.ownBlock ∨ v'.ownBlock = some wr.heap.size) : NewI t w w' v' ys := by
  refine ⟨ho, fun b e => ?_, h.bel.grown hg h.bel.size h.new⟩
  rcases ha with e' | e' <;> rw [e'] at e
  · exact h.new b e
  · have := h.bel.size
    simp at e
    omega
theorem NewR.app (h : NewR t w wr v rs) (ho : OwnR t w' v' ss) (hg : wr.grownBy w' v.ownBlock) (ha : v'.ownBlock = v.ownBlock ∨ v'.ownBlock = some wr.heap.size) : NewR t w w' v' ss := by
  refine ⟨ho, fun b e => ?_, h.bel.grown hg h.bel.size h.new⟩
  rcases ha with e' | e' <;> rw [e'] at e
  · exact h.new b e
  · have := h.bel.size
    simp at e
    omega
theorem NewI.empty (t : TypeId) (w : World) : NewI t w (w.alloc (.cells #[] t)) (.slice (some ⟨w.heap.size, 0, none⟩) 0 0) [] :=
  ⟨emptyI t w, fun b e => by simp [Value.ownBlock] at e; omega, (Below.refl _ _).alloc (Nat.le_refl _) _⟩
theorem NewI.nil_ (t : TypeId) (w : World) : NewI t w w (.slice none 0 0) [] := ⟨OwnI.nil_ t w, fun b e => (by cases e), Below.refl _ _⟩
theorem NewR.empty (t : TypeId) (w : World) : NewR t w (w.alloc (.cells #[] t)) (.slice (some ⟨w.heap.size, 0, none⟩) 0 0) [] :=
  ⟨Own.made w #[] 0 (by omega) rfl, fun b e => by simp [Value.ownBlock] at e; omega, (Below.refl _ _).alloc (Nat.le_refl _) _⟩
theorem NewR.nil_ (t : TypeId) (w : World) : NewR t w w (.slice none 0 0) [] := ⟨Own.nil_ _ _ _, fun b e => (by cases e), Below.refl _ _⟩
end
end Go.Proofs.Ytbfjkjkanckcjaa
