/- Programs, as rows of codes: read, owned, and what New makes of one. -/
import Derived.Test.YthdkloojhenlkaaPly
namespace Go.Proofs.Ythdkloojhenlkaa
open Go.RowKit

/-! rows of elements of more cells than one -/
theorem flatMap_len {α : Type} {f : α → List Value} {sz : Nat} (hf : ∀ x, (f x).length = sz) : ∀ xs : List α, (xs.flatMap f).length = xs.length * sz
  | [] => by simp
  | x :: xs => by rw [List.flatMap_cons, List.length_append, hf, flatMap_len hf xs, List.length_cons, Nat.succ_mul]; omega
theorem flatMap_at {α : Type} {f : α → List Value} {sz : Nat} (hf : ∀ x, (f x).length = sz) : ∀ (xs : List α) (i : Nat) (h : i < xs.length) (j : Nat), j < sz → (xs.flatMap f)[i * sz + j]? = (f xs[i])[j]?
  | [], _, h, _, _ => by simp at h
  | x :: xs, 0, _, j, hj => by rw [List.flatMap_cons, Nat.zero_mul, Nat.zero_add, List.getElem?_append_left (by rw [hf]; exact hj)]; rfl
  | x :: xs, i + 1, h, j, hj => by
    rw [List.flatMap_cons, List.getElem?_append_right (by rw [hf, Nat.succ_mul]; omega), hf, show (i + 1) * sz + j - sz = i * sz + j from by rw [Nat.succ_mul]; omega]
    exact flatMap_at hf xs i (by simpa using h) j hj
theorem flatMap_put {α : Type} {f : α → List Value} {sz : Nat} (hf : ∀ x, (f x).length = sz) : ∀ (xs : List α) (i : Nat) (h : i < xs.length) (j : Nat), j < sz → ∀ (y : α) (u : Value), f y = (f xs[i]).set j u → (xs.flatMap f).set (i * sz + j) u = (xs.set i y).flatMap f
  | [], _, h, _, _, _, _, _ => by simp at h
  | x :: xs, 0, _, j, hj, y, u, e => by
    have e : f y = (f x).set j u := e
    rw [List.flatMap_cons, Nat.zero_mul, Nat.zero_add, List.set_append_left _ _ (by rw [hf]; exact hj), List.set_cons_zero, List.flatMap_cons, e]
  | x :: xs, i + 1, h, j, hj, y, u, e => by
    rw [List.flatMap_cons, List.set_append_right _ _ (by rw [hf, Nat.succ_mul]; omega), hf, show (i + 1) * sz + j - sz = i * sz + j from by rw [Nat.succ_mul]; omega, List.set_cons_succ, List.flatMap_cons]
    rw [flatMap_put hf xs i (by simpa using h) j hj y u e]

/-- A code, as its cells say. -/
structure CodeV where
  s0 : ByteArray
  k1 : Int
  par : Int
  k3 : Int
  b4 : Bool
  AL : Option Addr
  nL : Nat
  cL : Nat
  LL : List ByteArray
  AC : Option Addr
  nC : Nat
  cC : Nat
  CC : List ByteArray
  AF : Option Addr
  nF : Nat
  cF : Nat
  A8 : Option Addr
  n8 : Nat
  c8 : Nat
  A9 : Option Addr
  n9 : Nat
  c9 : Nat
  A10 : Option Addr
  n10 : Nat
  c10 : Nat
def CodeV.arr (q : CodeV) : Array Value := #[.string q.s0, .int .i64 q.k1, .int .i64 q.par, .int .i64 q.k3, .bool q.b4, .slice q.AL q.nL q.cL, .slice q.AC q.nC q.cC, .slice q.AF q.nF q.cF, .slice q.A8 q.n8 q.c8, .slice q.A9 q.n9 q.c9, .slice q.A10 q.n10 q.c10]
def CodeV.cs (q : CodeV) : List Value := q.arr.toList
theorem CodeV.cs_len (q : CodeV) : q.cs.length = 11 := rfl
/-- its rows are there -/
structure CodeV.Ok (w : World) (q : CodeV) : Prop where
  l : RdS w q.AL q.nL q.cL q.LL
  c : RdS w q.AC q.nC q.cC q.CC
  f : q.nF ≤ q.cF ∧ q.cF ≤ 9223372036854775807
structure CodeV.Small (w : World) (q : CodeV) : Prop where
  ok : q.Ok w
  l : q.LL.length ≤ 6
  c : q.CC.length ≤ 6
  f : q.nF ≤ 6
theorem CodeV.Ok.new {w w' : World} {q : CodeV} (h : q.Ok w) (hb : Below w.heap.size w w') : q.Ok w' := ⟨h.l.new hb, h.c.new hb, h.f⟩
def pcs (ps : List CodeV) : List Value := ps.flatMap CodeV.cs
theorem pcs_length (ps : List CodeV) : (pcs ps).length = ps.length * 11 := flatMap_len CodeV.cs_len ps
theorem pcs_append (a b : List CodeV) : pcs (a ++ b) = pcs a ++ pcs b := by simp [pcs]
theorem pcs_oneCell (ps : List CodeV) : ∀ u ∈ pcs ps, u.oneCell' = true := by
  intro u hu
  simp only [pcs, List.mem_flatMap] at hu
  obtain ⟨q, _, hq⟩ := hu
  simp only [CodeV.cs, CodeV.arr, List.mem_cons, List.not_mem_nil, or_false] at hq
  rcases hq with rfl | rfl | rfl | rfl | rfl | rfl | rfl | rfl | rfl | rfl | rfl <;> rfl
/-- The slice reads as codes. -/
def RdP (w : World) (A : Option Addr) (n c : Nat) (ps : List CodeV) : Prop := ps.length = n ∧ Rd w A n c 11 (pcs ps)
def OwnP (w : World) (v : Value) (ps : List CodeV) : Prop := Own w 31 11 v ps.length (pcs ps)
theorem OwnP.rd {w : World} {v : Value} {ps : List CodeV} (h : OwnP w v ps) : ∃ A n c, v = .slice A n c ∧ RdP w A n c ps ∧ (∀ b o, A = some ⟨b, o, none⟩ → v.ownBlock = some b) := by
  obtain ⟨A, c, e, h1, h2⟩ := Own.rd h
  exact ⟨A, _, c, e, ⟨rfl, h1⟩, h2⟩
theorem RdP.new {w w' : World} {A : Option Addr} {n c : Nat} {ps : List CodeV} (h : RdP w A n c ps) (hb : Below w.heap.size w w') : RdP w' A n c ps := ⟨h.1, h.2.new hb⟩
theorem RdP.at_ {w : World} {A : Option Addr} {n c : Nat} {ps : List CodeV} (h : RdP w A n c ps) {i : Nat} (hi : i < n) {q : CodeV} (hq : ps[i]? = some q) :
    ∃ b o, A = some ⟨b, o, none⟩ ∧ b < w.heap.size ∧ w.cell? ⟨b, o + i * 11, none⟩ = some (.string q.s0) ∧ w.cell? ⟨b, o + i * 11 + 1, none⟩ = some (.int .i64 q.k1) ∧ w.cell? ⟨b, o + i * 11 + 2, none⟩ = some (.int .i64 q.par) ∧
      w.cell? ⟨b, o + i * 11 + 3, none⟩ = some (.int .i64 q.k3) ∧ w.cell? ⟨b, o + i * 11 + 4, none⟩ = some (.bool q.b4) ∧ w.cell? ⟨b, o + i * 11 + 5, none⟩ = some (.slice q.AL q.nL q.cL) ∧
      w.cell? ⟨b, o + i * 11 + 6, none⟩ = some (.slice q.AC q.nC q.cC) ∧ w.cell? ⟨b, o + i * 11 + 7, none⟩ = some (.slice q.AF q.nF q.cF) ∧ w.cell? ⟨b, o + i * 11 + 8, none⟩ = some (.slice q.A8 q.n8 q.c8) ∧
      w.cell? ⟨b, o + i * 11 + 9, none⟩ = some (.slice q.A9 q.n9 q.c9) ∧ w.cell? ⟨b, o + i * 11 + 10, none⟩ = some (.slice q.A10 q.n10 q.c10) := by
  obtain ⟨hl, _, _, _, hc⟩ := h
  obtain ⟨b, o, rfl, hb, hc⟩ := hc (by omega)
  obtain ⟨hlt, rfl⟩ := List.getElem?_eq_some_iff.1 hq
  have ha : ∀ j, j < 11 → ∀ u, (CodeV.cs ps[i])[j]? = some u → w.cell? ⟨b, o + i * 11 + j, none⟩ = some u := by
    intro j hj u hu
    have := hc (i * 11 + j) u (by unfold pcs; rw [flatMap_at CodeV.cs_len ps i hlt j hj]; exact hu)
    rw [← Nat.add_assoc] at this
    exact this
  exact ⟨b, o, rfl, hb, ha 0 (by omega) _ rfl, ha 1 (by omega) _ rfl, ha 2 (by omega) _ rfl, ha 3 (by omega) _ rfl, ha 4 (by omega) _ rfl, ha 5 (by omega) _ rfl, ha 6 (by omega) _ rfl, ha 7 (by omega) _ rfl, ha 8 (by omega) _ rfl, ha 9 (by omega) _ rfl, ha 10 (by omega) _ rfl⟩
theorem RdP.code {w : World} {A : Option Addr} {n c : Nat} {ps : List CodeV} (h : RdP w A n c ps) {i : Nat} (hi : i < n) {q : CodeV} (hq : ps[i]? = some q) (hk : q.Ok w) : CodeAt w A i q.par q.LL q.CC q.nF := by
  obtain ⟨b, o, e, hb, z0, z1, z2, z3, z4, z5, z6, z7, z8, z9, z10⟩ := h.at_ hi hq
  exact ⟨b, o, q.s0, q.k1, q.k3, q.b4, q.AL, q.nL, q.cL, q.AC, q.nC, q.cC, q.AF, q.cF, q.A8, q.n8, q.c8, q.A9, q.n9, q.c9, q.A10, q.n10, q.c10, e, hb, z0, z1, z2, z3, z4, z5, z6, z7, z8, z9, z10, hk.l, hk.c⟩
/-- a code's params are stored -/
theorem OwnP.par {w : World} {A : Option Addr} {n c : Nat} {ps : List CodeV} (h : OwnP w (.slice A n c) ps) {i : Nat} {q : CodeV} (hq : ps[i]? = some q) (x : Int) :
    ∃ b, A = some ⟨b, 0, none⟩ ∧ b < w.heap.size ∧ w.cell? ⟨b, i * 11 + 2, none⟩ = some (.int .i64 q.par) ∧ w.frozen? ⟨b, i * 11 + 2, none⟩ = false ∧ OwnP (w.setCell ⟨b, i * 11 + 2, none⟩ (.int .i64 x)) (.slice A n c) (ps.set i { q with par := x }) := by
  obtain ⟨hlt, rfl⟩ := List.getElem?_eq_some_iff.1 hq
  obtain ⟨A', n', c', e, hr, _⟩ := h.rd
  have hn : ps.length = n := by cases e; exact hr.1
  obtain ⟨b, o, e', hb, _⟩ := hr.2.2.2.2 (by cases e; omega)
  cases e
  have h2 := h
  rcases And.right h2 with ⟨e, _⟩ | ⟨b', c', cur, e, _⟩
  · rw [e'] at e; cases e
  · rw [e'] at e
    injection e with e1 e2 e3
    injection e1 with e1
    injection e1 with e1 e4
    subst e1 e4 e'
    unfold OwnP at h
    subst hn
    obtain ⟨h1, h3, h4⟩ := Own.set_ h (j := i * 11 + 2) (by omega) (.int .i64 x)
    refine ⟨b, rfl, hb, ?_, h3, ?_⟩
    · rw [h1]
      unfold pcs
      rw [flatMap_at CodeV.cs_len ps i hlt 2 (by omega)]
      rfl
    · unfold OwnP
      rw [List.length_set]
      unfold pcs at h4 ⊢
      rw [flatMap_put CodeV.cs_len ps i hlt 2 (by omega) { ps[i] with par := x } (.int .i64 x) rfl] at h4
      exact h4
theorem info_P : (Try.prog.info? 31).map (fun i => (i.zero, i.size, i.bytes)) = some (some (.agg #[.string ⟨#[]⟩, .int .i64 0, .int .i64 0, .int .i64 0, .bool false, .slice none 0 0, .slice none 0 0, .slice none 0 0, .slice none 0 0, .slice none 0 0, .slice none 0 0]), 11, 192) := by kernel_rfl
theorem wpList_appendP {ops : Array Oper} {rest : List Oper} {o : Oper} {a : Act} {Q : Exit → Act → World → Prop} (w : World) (hgd : o.guard = none) (s x : Operand)
    (ho : o.op = .call { callee := .builtin .append, args := #[s, x], argTypes := #[23, 23] })
    (v : Value) (xs : List CodeV) (hs : a.eval s = v) (hown : OwnP w v xs)
    (A : Option Addr) (m c : Nat) (ys : List CodeV) (hx : a.eval x = .slice A m c) (hr : RdP w A m c ys) (hbound : xs.length + m ≤ 1000000)
    (h : ∀ v' w', OwnP w' v' (xs ++ ys) → w.grownBy w' v.ownBlock → (v'.ownBlock = v.ownBlock ∨ v'.ownBlock = some w.heap.size) → wpList Try.prog ops Q rest (a.put o.dst v') w') : wpList Try.prog ops Q (o :: rest) a w := by
  obtain ⟨i0, hi, hz0, hz1, hz2⟩ := info_parts info_P
  refine wpList_append_Own w hgd s x _ ho _ i0 _ 11 192 Try.underlying23 hi hz0 hz1 hz2 rfl v xs.length (pcs xs) hs hown A m c (pcs ys) hx hr.2 (pcs_oneCell ys) (by omega) (by omega) (fun v' w' h1 h2 h3 => h v' w' ?_ h2 h3)
  unfold OwnP
  rw [List.length_append, pcs_append, hr.1]
  exact h1
theorem one_rdP (w : World) (q : CodeV) : RdP (w.alloc (.cells q.arr 31)) (some ⟨w.heap.size, 0, none⟩) 1 1 [q] := by
  obtain ⟨A, c, e, hr, _⟩ := Own.rd (Own.made (t := 31) (sz := 11) w q.arr 1 (by omega) rfl)
  injection e with e1 e2 e3
  subst e1 e3
  exact ⟨rfl, by simpa [pcs, CodeV.cs] using hr⟩

/-! what New makes of a program, or does not -/
def NewOk (qs : List CodeV) (k : Int) (m m' : Nat) : Prop := 0 ≤ k ∧ ∃ q, qs[k.toNat]? = some q ∧ (m : Int) = q.par ∧ m ≤ q.LL.length ∧ m' = q.CC.length + q.nF
theorem newf_yes {w0 w : World} {Ap : Option Addr} {np cp : Nat} {qs : List CodeV} {k : Int} {m m' : Nat} (xs ys : List V) (hP : RdP w Ap np cp qs) (hs : ∀ q ∈ qs, CodeV.Small w0 q) (hb : Below w0.heap.size w0 w)
    (hok : NewOk qs k m m') :
    ∃ F, (∀ w1 A A' c c', Below w.heap.size w w1 → RdV w1 A m c xs → RdV w1 A' m' c' ys → Calls Try.prog 16 #[.slice Ap np cp, .int .i64 k, .slice A m c, .slice A' m' c'] w1 (NewIs w1 F)) ∧
      ∀ w1 A A' c c', Below w.heap.size w w1 → RdV w1 A m c xs → RdV w1 A' m' c' ys → Calls Try.prog 17 #[.slice Ap np cp, .int .i64 k, .slice A m c, .slice A' m' c'] w1 (RNewIs w1 F) := by
  obtain ⟨h0, q, hq, h1, h2, h3⟩ := hok
  obtain ⟨j, rfl⟩ := Int.eq_ofNat_of_zero_le h0
  rw [Int.toNat_natCast] at hq
  obtain ⟨hj, _⟩ := List.getElem?_eq_some_iff.1 hq
  have hjn : j < np := by rw [← hP.1]; exact hj
  have hsm := hs q (List.mem_of_getElem? hq)
  have hl := hsm.l
  have hc := hsm.c
  have hf := hsm.f
  have hC1 : ∀ w1, Below w.heap.size w w1 → CodeAt w1 Ap j m q.LL q.CC q.nF := fun w1 hb1 => by
    have := (hP.new hb1).code hjn hq ((hsm.ok.new hb).new hb1)
    rwa [← h1] at this
  exact ⟨Fr.new j q.LL q.CC xs ys, fun w1 A A' c c' hb1 hx hy => new_yes Ap np cp j q.LL q.CC q.nF A m c xs A' m' c' ys w1 hjn hP.2.le (hC1 w1 hb1) hx hy h2 h3 (by omega) (by omega),
    fun w1 A A' c c' hb1 hx hy => rnew_yes Ap np cp j q.LL q.CC q.nF A m c xs A' m' c' ys w1 hjn hP.2.le (hC1 w1 hb1) hx hy h2 h3 (by omega) (by omega)⟩
theorem newf_no {w0 w : World} {Ap : Option Addr} {np cp : Nat} {qs : List CodeV} {k : Int} (hP : RdP w Ap np cp qs) (hs : ∀ q ∈ qs, CodeV.Small w0 q) (hb : Below w0.heap.size w0 w) {m m' : Nat} (hok : ¬ NewOk qs k m m') :
    ∀ w1 A A' c c', Below w.heap.size w w1 → (Calls Try.prog 16 #[.slice Ap np cp, .int .i64 k, .slice A m c, .slice A' m' c'] w1 (NoFrame w1)) ∧ Calls Try.prog 17 #[.slice Ap np cp, .int .i64 k, .slice A m c, .slice A' m' c'] w1 (NoFrame w1) := by
  intro w1 A A' c c' hb1
  by_cases hr : 0 ≤ k ∧ k < (np : Int)
  · obtain ⟨j, rfl⟩ := Int.eq_ofNat_of_zero_le hr.1
    have hjn : j < np := by omega
    have hj : j < qs.length := by rw [hP.1]; exact hjn
    have hq : qs[j]? = some qs[j] := List.getElem?_eq_getElem hj
    have hsm := hs qs[j] (List.getElem_mem hj)
    have hC1 := (hP.new hb1).code hjn hq ((hsm.ok.new hb).new hb1)
    have hl := hsm.l
    have hc := hsm.c
    have hf := hsm.f
    have hno : ¬ ((m : Int) = qs[j].par ∧ m ≤ qs[j].LL.length ∧ m' = qs[j].CC.length + qs[j].nF) := fun h => hok ⟨by omega, qs[j], by rw [Int.toNat_natCast]; exact hq, h⟩
    exact ⟨new_no Ap np cp j _ _ _ _ A m c A' m' c' w1 hjn hC1 (by omega) hno, rnew_no Ap np cp j _ _ _ _ A m c A' m' c' w1 hjn hC1 (by omega) hno⟩
  · have ho : k < 0 ∨ (np : Int) ≤ k := by omega
    exact ⟨new_out Ap np cp k A m c A' m' c' w1 ho, rnew_out Ap np cp k A m c A' m' c' w1 ho⟩
end Go.Proofs.Ythdkloojhenlkaa
