/- Values of the language (kind, number, text) as Go's memory holds them: rows of them, '==' on them. -/
import Derived.Test.YtcfelfhjhkenaaaDoorRows
import Derived.Test.YtcfelfhjhkenaaaDoorMem
import Derived.Laws.StructEq
namespace Go.Proofs.YtcfelfhjhkenaaaDoor
open Go.RowKit

/-- An 'api.Value': kind, number, text. -/
structure V where
  k : Int
  n : Int
  s : ByteArray
  deriving DecidableEq

def V.cs (x : V) : List Value := [.int .i64 x.k, .int .i64 x.n, .string x.s]
def V.v (x : V) : Value := .agg #[.int .i64 x.k, .int .i64 x.n, .string x.s]
def V.zero : V := ⟨0, 0, ⟨#[]⟩⟩
/-- '==' on values, kept shut. -/
def V.same (a b : V) : Bool := decide (a = b)
theorem V.same_iff {a b : V} : V.same a b = true ↔ a = b := by simp [V.same]
theorem V.same_not {a b : V} : V.same a b = false ↔ a ≠ b := by simp [V.same]

def vcs (xs : List V) : List Value := xs.flatMap V.cs
theorem vcs_length (xs : List V) : (vcs xs).length = xs.length * 3 := by
  induction xs with
  | nil => rfl
  | cons x xs ih => simp [vcs, V.cs] at ih ⊢; omega
theorem vcs_nil : vcs [] = [] := rfl
theorem vcs_cons (x : V) (xs : List V) : vcs (x :: xs) = .int .i64 x.k :: .int .i64 x.n :: .string x.s :: vcs xs := by simp [vcs, V.cs]
theorem vcs_one (x : V) : vcs [x] = [.int .i64 x.k, .int .i64 x.n, .string x.s] := rfl
theorem vcs_append (xs ys : List V) : vcs (xs ++ ys) = vcs xs ++ vcs ys := by simp [vcs]
theorem vcs_take (xs : List V) (k : Nat) : (vcs xs).take (k * 3) = vcs (xs.take k) := by
  induction xs generalizing k with
  | nil => simp [vcs]
  | cons x xs ih =>
    cases k with
    | zero => simp [vcs]
    | succ k =>
      have e : (k + 1) * 3 = k * 3 + 1 + 1 + 1 := by omega
      rw [List.take_succ_cons, vcs_cons, vcs_cons, e]
      simp [ih]
theorem vcs_drop (xs : List V) (k : Nat) : (vcs xs).drop (k * 3) = vcs (xs.drop k) := by
  induction xs generalizing k with
  | nil => simp [vcs]
  | cons x xs ih =>
    cases k with
    | zero => simp [vcs]
    | succ k =>
      have e : (k + 1) * 3 = k * 3 + 1 + 1 + 1 := by omega
      rw [List.drop_succ_cons, vcs_cons, e]
      simp [ih]
theorem vcs_at (xs : List V) (i : Nat) (h : i < xs.length) : (vcs xs)[i * 3]? = some (.int .i64 xs[i].k) ∧ (vcs xs)[i * 3 + 1]? = some (.int .i64 xs[i].n) ∧ (vcs xs)[i * 3 + 2]? = some (.string xs[i].s) := by
  induction xs generalizing i with
  | nil => simp at h
  | cons x xs ih =>
    rw [vcs_cons]
    cases i with
    | zero => simp
    | succ i =>
      have := ih i (by simpa using h)
      have e : (i + 1) * 3 = i * 3 + 1 + 1 + 1 := by omega
      simpa [e] using this
theorem vcs_set (xs : List V) (i : Nat) (h : i < xs.length) (x : V) : (((vcs xs).set (i * 3) (.int .i64 x.k)).set (i * 3 + 1) (.int .i64 x.n)).set (i * 3 + 2) (.string x.s) = vcs (xs.set i x) := by
  induction xs generalizing i with
  | nil => simp at h
  | cons y xs ih =>
    cases i with
    | zero => simp [vcs_cons]
    | succ i =>
      have := ih i (by simpa using h)
      have e : (i + 1) * 3 = i * 3 + 1 + 1 + 1 := by omega
      have e1 : i * 3 + 1 + 1 + 1 + 1 = i * 3 + 1 + 1 + 1 + 1 := rfl
      rw [List.set_cons_succ, vcs_cons, vcs_cons, e, ← this]
      simp
theorem vcs_oneCell (xs : List V) : ∀ u ∈ vcs xs, u.oneCell' = true := by
  intro u hu
  simp only [vcs, List.mem_flatMap, V.cs] at hu
  obtain ⟨x, _, hx⟩ := hu
  simp only [List.mem_cons, List.not_mem_nil, or_false] at hx
  rcases hx with rfl | rfl | rfl <;> rfl

/-- The slice reads as values. -/
def RdV (w : World) (A : Option Addr) (n c : Nat) (xs : List V) : Prop := xs.length = n ∧ Rd w A n c 3 (vcs xs)
section
variable {w w' : World} {A : Option Addr} {n c : Nat} {xs : List V}
theorem RdV.at_ (h : RdV w A n c xs) {i : Nat} (hi : i < n) :
    ∃ b o, A = some ⟨b, o, none⟩ ∧ b < w.heap.size ∧ w.cell? ⟨b, o + i * 3, none⟩ = some (.int .i64 (xs[i]'(by rw [h.1]; exact hi)).k) ∧
      w.cell? ⟨b, o + i * 3 + 1, none⟩ = some (.int .i64 (xs[i]'(by rw [h.1]; exact hi)).n) ∧ w.cell? ⟨b, o + i * 3 + 2, none⟩ = some (.string (xs[i]'(by rw [h.1]; exact hi)).s) := by
  obtain ⟨hl, _, _, _, hc⟩ := h
  obtain ⟨b, o, rfl, hb, hc⟩ := hc (by omega)
  obtain ⟨h0, h1, h2⟩ := vcs_at xs i (by omega)
  exact ⟨b, o, rfl, hb, hc _ _ h0, hc _ _ h1, hc _ _ h2⟩
theorem RdV.new (h : RdV w A n c xs) (hb : Below w.heap.size w w') : RdV w' A n c xs := ⟨h.1, h.2.new hb⟩
theorem RdV.mod {S : Nat → Prop} (h : RdV w A n c xs) (hb : Mod S w w') (hA : ∀ b o, A = some ⟨b, o, none⟩ → ¬ S b) : RdV w' A n c xs := ⟨h.1, h.2.mod hb hA⟩
theorem RdV.le (h : RdV w A n c xs) : n ≤ 9223372036854775807 := h.2.le
theorem RdV.shrink (h : RdV w A n c xs) {k c' : Nat} (hk : k ≤ n) (hkc : k ≤ c') (hc : c' ≤ c) : RdV w A k c' (xs.take k) :=
  ⟨by rw [List.length_take, h.1]; omega, by rw [← vcs_take]; exact h.2.shrink hk hkc hc⟩
theorem RdV.hi (h : RdV w A n c xs) {k : Nat} (hk : k ≤ n) {A' : Option Addr} (hA : k < n → A' = A.map (·.add (k * 3))) : RdV w A' (n - k) (c - k) (xs.drop k) :=
  ⟨by rw [List.length_drop, h.1], by rw [← vcs_drop]; exact h.2.hi hk hA⟩
end

/-- The slice value v owns a row of values. -/
def OwnV (w : World) (v : Value) (xs : List V) : Prop := Own w 77 3 v xs.length (vcs xs)
theorem OwnV.rd {w : World} {v : Value} {xs : List V} (h : OwnV w v xs) : ∃ A n c, v = .slice A n c ∧ RdV w A n c xs ∧ (∀ b o, A = some ⟨b, o, none⟩ → v.ownBlock = some b) := by
  obtain ⟨A, c, e, h1, h2⟩ := Own.rd h
  exact ⟨A, _, c, e, ⟨rfl, h1⟩, h2⟩
theorem OwnV.nil_ (w : World) : OwnV w (.slice none 0 0) [] := Own.nil_ _ _ _

theorem info_V : (Tryd.prog.info? 77).map (fun i => (i.zero, i.size, i.bytes)) = some (some (.agg #[.int .i64 0, .int .i64 0, .string ⟨#[]⟩]), 3, 32) := by kernel_rfl

theorem toList_inj (s s' : ByteArray) : s.toList = s'.toList ↔ s = s' := by
  rw [ByteArray.toList_eq, ByteArray.toList_eq]
  obtain ⟨⟨x⟩⟩ := s
  obtain ⟨⟨y⟩⟩ := s'
  simp
theorem guardV (w : World) (op : BinOp) (x y : Operand) (xs ys : Array Value) : (eqGuard op 77 x y (.agg xs) (.agg ys)).run Tryd.prog w = .ok () w :=
  run_eqGuard_agg w op 77 x y xs ys (by kernel_rfl)
theorem stoodV : Tryd.prog.stoodInHeld 77 = false := by kernel_rfl
theorem eqV (w : World) (k n k' n' : Int) (s s' : ByteArray) : (binOp .eql 77 (.agg #[.int .i64 k, .int .i64 n, .string s]) (.agg #[.int .i64 k', .int .i64 n', .string s'])).run Tryd.prog w = .ok (.bool (V.same ⟨k, n, s⟩ ⟨k', n', s'⟩)) w := by
  rw [run_eql_struct, run_equalIn_agg w 9999 77 _ _ (by kernel_rfl) stoodV]
  simp [Op.eqFields, go_sem, Program.fieldsOf, Tryd.underlying77, toList_inj, V.same]
  by_cases h1 : k = k' <;> by_cases h2 : n = n' <;> by_cases h3 : s = s' <;> simp [h1, h2, h3]
theorem neqV (w : World) (k n k' n' : Int) (s s' : ByteArray) : (binOp .neq 77 (.agg #[.int .i64 k, .int .i64 n, .string s]) (.agg #[.int .i64 k', .int .i64 n', .string s'])).run Tryd.prog w = .ok (.bool (!V.same ⟨k, n, s⟩ ⟨k', n', s'⟩)) w := by
  rw [run_neq_struct, run_equalIn_agg w 9999 77 _ _ (by kernel_rfl) stoodV]
  simp [Op.eqFields, go_sem, Program.fieldsOf, Tryd.underlying77, toList_inj, V.same]
  by_cases h1 : k = k' <;> by_cases h2 : n = n' <;> by_cases h3 : s = s' <;> simp [h1, h2, h3]

/-- append onto a row of values that is one's own -/
theorem wpList_appendV {ops : Array Oper} {rest : List Oper} {o : Oper} {a : Act} {Q : Exit → Act → World → Prop} (w : World) (hgd : o.guard = none) (s x : Operand)
    (ho : o.op = .call { callee := .builtin .append, args := #[s, x], argTypes := #[46, 46] })
    (v : Value) (xs : List V) (hs : a.eval s = v) (hown : OwnV w v xs)
    (A : Option Addr) (m c : Nat) (ys : List V) (hx : a.eval x = .slice A m c) (hr : RdV w A m c ys) (hbound : xs.length + m ≤ 4398046511104)
    (h : ∀ v' w', OwnV w' v' (xs ++ ys) → w.grownBy w' v.ownBlock → (v'.ownBlock = v.ownBlock ∨ v'.ownBlock = some w.heap.size) → wpList Tryd.prog ops Q rest (a.put o.dst v') w') : wpList Tryd.prog ops Q (o :: rest) a w := by
  obtain ⟨i0, hi, hz0, hz1, hz2⟩ := info_parts info_V
  refine wpList_append_Own w hgd s x _ ho _ i0 _ 3 32 Tryd.underlying46 hi hz0 hz1 hz2 rfl v xs.length (vcs xs) hs hown A m c (vcs ys) hx hr.2 (vcs_oneCell ys) (by omega) (by omega) (fun v' w' h1 h2 h3 => h v' w' ?_ h2 h3)
  unfold OwnV
  rw [List.length_append, vcs_append, hr.1]
  exact h1
theorem step_appendV {ops : Array Oper} {o : Oper} {a : Act} {K : Act → World → Prop} {Q : Exit → Act → World → Prop} {E : Prop} (w : World) (hgd : o.guard = none) (s x : Operand)
    (ho : o.op = .call { callee := .builtin .append, args := #[s, x], argTypes := #[46, 46] })
    (v : Value) (xs : List V) (hs : a.eval s = v) (hown : OwnV w v xs)
    (A : Option Addr) (m c : Nat) (ys : List V) (hx : a.eval x = .slice A m c) (hr : RdV w A m c ys) (hbound : xs.length + m ≤ 4398046511104)
    (h : ∀ v' w', OwnV w' v' (xs ++ ys) → w.grownBy w' v.ownBlock → (v'.ownBlock = v.ownBlock ∨ v'.ownBlock = some w.heap.size) → K (a.put o.dst v') w') :
    if Region.wanted o (yielded ops a.tmps) = true then Oper.wp Tryd.prog o a w K Q else E := by
  obtain ⟨i0, hi, hz0, hz1, hz2⟩ := info_parts info_V
  refine step_append_Own w hgd s x _ ho _ i0 _ 3 32 Tryd.underlying46 hi hz0 hz1 hz2 rfl v xs.length (vcs xs) hs hown A m c (vcs ys) hx hr.2 (vcs_oneCell ys) (by omega) (by omega) (fun v' w' h1 h2 h3 => h v' w' ?_ h2 h3)
  unfold OwnV
  rw [List.length_append, vcs_append, hr.1]
  exact h1
theorem take_snoc_eq {xs ys : List V} {k : Nat} (hx : k < xs.length) (hy : k < ys.length) (h : xs.take k = ys.take k) (e : xs[k] = ys[k]) : xs.take (k + 1) = ys.take (k + 1) := by
  rw [List.take_succ_eq_append_getElem hx, List.take_succ_eq_append_getElem hy, h, e]
end Go.Proofs.YtcfelfhjhkenaaaDoor
