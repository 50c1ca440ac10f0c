/- What FrameBlocks needs: rows of numbers, rows of rows, the frame behind so many blocks. -/
import Derived.Test.YthdkloojhenlkaaOwn
namespace Go.Proofs.Ythdkloojhenlkaa
open Go.RowKit

def ics (l : List Int) : List Value := l.map (Value.int .i64)
theorem ics_length (l : List Int) : (ics l).length = l.length * 1 := by simp [ics]
theorem ics_oneCell (l : List Int) : ∀ u ∈ ics l, u.oneCell' = true := by
  intro u hu
  simp only [ics, List.mem_map] at hu
  obtain ⟨x, _, rfl⟩ := hu
  rfl
theorem ics_append (a b : List Int) : ics (a ++ b) = ics a ++ ics b := by simp [ics]
def RdI (w : World) (A : Option Addr) (n c : Nat) (xs : List Int) : Prop := xs.length = n ∧ Rd w A n c 1 (ics xs)
def OwnI (w : World) (v : Value) (xs : List Int) : Prop := Own w 3 1 v xs.length (ics xs)
theorem OwnI.rd {w : World} {v : Value} {xs : List Int} (h : OwnI w v xs) : ∃ A n c, v = .slice A n c ∧ RdI w A n c xs ∧ (∀ b o, A = some ⟨b, o, none⟩ → v.ownBlock = some b) := by
  obtain ⟨A, c, e, h1, h2⟩ := Own.rd h
  exact ⟨A, _, c, e, ⟨rfl, h1⟩, h2⟩
theorem OwnI.rdAt {w : World} {A : Option Addr} {n c : Nat} {xs : List Int} (h : OwnI w (.slice A n c) xs) : RdI w A n c xs := by
  obtain ⟨_, _, _, e, hr, _⟩ := h.rd
  cases e
  exact hr
theorem emptyI_own (w : World) : OwnI (w.alloc (.cells #[] 3)) (.slice (some ⟨w.heap.size, 0, none⟩) 0 0) [] := Own.made w #[] 0 (by omega) rfl
theorem one_rdI (w : World) (x : Int) : RdI (w.alloc (.cells #[.int .i64 x] 3)) (some ⟨w.heap.size, 0, none⟩) 1 1 [x] := by
  obtain ⟨A, c, e, hr, _⟩ := Own.rd (Own.made (t := 3) (sz := 1) w #[.int .i64 x] 1 (by omega) rfl)
  injection e with e1 e2 e3
  subst e1 e3
  exact ⟨rfl, hr⟩
theorem RdI.at_ {w : World} {A : Option Addr} {n c : Nat} {xs : List Int} (h : RdI w A n c xs) {i : Nat} (hi : i < n) :
    ∃ b o, A = some ⟨b, o, none⟩ ∧ b < w.heap.size ∧ w.cell? ⟨b, o + i, none⟩ = some (.int .i64 (xs[i]'(by rw [h.1]; exact hi))) := by
  obtain ⟨hl, _, _, _, hc⟩ := h
  obtain ⟨b, o, rfl, hb, hc⟩ := hc (by omega)
  exact ⟨b, o, rfl, hb, hc _ _ (by simp [ics, hl, hi])⟩
theorem info_I : (Try.prog.info? 3).map (fun i => (i.zero, i.size, i.bytes)) = some (some (.int .i64 0), 1, 8) := by kernel_rfl
theorem wpList_appendI {ops : Array Oper} {rest : List Oper} {o : Oper} {a : Act} {Q : Exit → Act → World → Prop} (w : World) (hgd : o.guard = none) (s x : Operand)
    (ho : o.op = .call { callee := .builtin .append, args := #[s, x], argTypes := #[46, 46] })
    (v : Value) (xs : List Int) (hs : a.eval s = v) (hown : OwnI w v xs)
    (A : Option Addr) (m c : Nat) (ys : List Int) (hx : a.eval x = .slice A m c) (hr : RdI w A m c ys) (hbound : xs.length + m ≤ 1000000)
    (h : ∀ v' w', OwnI w' v' (xs ++ ys) → w.grownBy w' v.ownBlock → (v'.ownBlock = v.ownBlock ∨ v'.ownBlock = some w.heap.size) → wpList Try.prog ops Q rest (a.put o.dst v') w') : wpList Try.prog ops Q (o :: rest) a w := by
  obtain ⟨i0, hi, hz0, hz1, hz2⟩ := info_parts info_I
  refine wpList_append_Own w hgd s x _ ho _ i0 _ 1 8 Try.underlying46 hi hz0 hz1 hz2 rfl v xs.length (ics xs) hs hown A m c (ics ys) hx hr.2 (ics_oneCell ys) (by omega) (by omega) (fun v' w' h1 h2 h3 => h v' w' ?_ h2 h3)
  unfold OwnI
  rw [List.length_append, ics_append, hr.1]
  exact h1

/-- append at a step that is guarded, and wanted -/
theorem step_appendVg {ops : Array Oper} {o : Oper} {a : Act} {K : Act → World → Prop} {Q : Exit → Act → World → Prop} {E : Prop} (w : World) (hw : Region.wanted o (yielded ops a.tmps) = true) (s x : Operand)
    (ho : o.op = .call { callee := .builtin .append, args := #[s, x], argTypes := #[24, 24] })
    (v : Value) (xs : List V) (hs : a.eval s = v) (hown : OwnV w v xs)
    (A : Option Addr) (m c : Nat) (ys : List V) (hx : a.eval x = .slice A m c) (hr : RdV w A m c ys) (hbound : xs.length + m ≤ 4398046511104)
    (h : ∀ v' w', OwnV w' v' (xs ++ ys) → w.grownBy w' v.ownBlock → (v'.ownBlock = v.ownBlock ∨ v'.ownBlock = some w.heap.size) → K (a.put o.dst v') w') :
    if Region.wanted o (yielded ops a.tmps) = true then Oper.wp Try.prog o a w K Q else E := by
  obtain ⟨i0, hi, hz0, hz1, hz2⟩ := info_parts info_V
  rw [if_pos hw]
  refine wp_append_Own w s x _ ho _ i0 _ 3 32 Try.underlying24 hi hz0 hz1 hz2 rfl v xs.length (vcs xs) hs hown A m c (vcs ys) hx hr.2 (vcs_oneCell ys) (by omega) (by omega) (fun v' w' h1 h2 h3 => h v' w' ?_ h2 h3)
  unfold OwnV
  rw [List.length_append, vcs_append, hr.1]
  exact h1

/-- The slice reads as rows of values. -/
def RdVV (w : World) (A : Option Addr) (n c : Nat) (ls : List (List V)) : Prop :=
  ls.length = n ∧ n ≤ c ∧ c ≤ 9223372036854775807 ∧ ∀ i (h : i < ls.length), ∃ b o A' n' c', A = some ⟨b, o, none⟩ ∧ b < w.heap.size ∧ w.cell? ⟨b, o + i, none⟩ = some (.slice A' n' c') ∧ RdV w A' n' c' ls[i]
theorem RdVV.new {w w' : World} {A : Option Addr} {n c : Nat} {ls : List (List V)} (h : RdVV w A n c ls) (hb : Below w.heap.size w w') : RdVV w' A n c ls := by
  refine ⟨h.1, h.2.1, h.2.2.1, fun i hi => ?_⟩
  obtain ⟨b, o, A', n', c', e, hl, hc, hr⟩ := h.2.2.2 i hi
  exact ⟨b, o, A', n', c', e, Nat.lt_of_lt_of_le hl hb.size, (hb.cell (p := ⟨b, o + i, none⟩) hl).trans hc, hr.new hb⟩

def flatR (ls : List (List V)) (k : Nat) : List V := (ls.take k).flatMap cutRow
theorem flatR_succ (ls : List (List V)) (k : Nat) (h : k < ls.length) : flatR ls (k + 1) = flatR ls k ++ cutRow ls[k] := by
  unfold flatR
  rw [List.take_succ_eq_append_getElem h, List.flatMap_append]
  simp
theorem flatR_len (ls : List (List V)) (k : Nat) : (flatR ls k).length ≤ 12 * k := by
  unfold flatR
  induction k with
  | zero => simp
  | succ k ih =>
    by_cases h : k < ls.length
    · have := flatR_succ ls k h
      unfold flatR at this
      rw [this, List.length_append]
      have := cutRow_length ls[k]
      omega
    · rw [List.take_of_length_le (by omega)]
      rw [List.take_of_length_le (by omega)] at ih
      omega
theorem flatR_mono (ls : List (List V)) {j k : Nat} (h : j ≤ k) : flatR ls j <+: flatR ls k := by
  unfold flatR
  have : ls.take j <+: ls.take k := List.take_prefix_take_left h
  obtain ⟨t, ht⟩ := this
  rw [← ht, List.flatMap_append]
  exact List.prefix_append _ _
def hts (ls : List (List V)) (k : Nat) : List Int := (List.range k).map fun i => ((flatR ls (i + 1)).length : Int)
theorem hts_succ (ls : List (List V)) (k : Nat) : hts ls (k + 1) = hts ls k ++ [((flatR ls (k + 1)).length : Int)] := by simp [hts, List.range_succ]
theorem hts_len (ls : List (List V)) (k : Nat) : (hts ls k).length = k := by simp [hts]
theorem hts_at (ls : List (List V)) (k i : Nat) (h : i < (hts ls k).length) : (hts ls k)[i] = ((flatR ls (i + 1)).length : Int) := by simp [hts]
def blkR (ls : List (List V)) (k : Nat) : List (Int × Int) := (List.range k).map fun (i : Nat) => (100 + (i : Int), ((flatR ls (i + 1)).length : Int))
theorem blkR_succ (ls : List (List V)) (k : Nat) : blkR ls (k + 1) = blkR ls k ++ [(100 + (k : Int), ((flatR ls (k + 1)).length : Int))] := by simp [blkR, List.range_succ]
theorem blkR_len (ls : List (List V)) (k : Nat) : (blkR ls k).length = k := by simp [blkR]
theorem blkR_drop (ls : List (List V)) (k : Nat) : (blkR ls (k + 1)).dropLast = blkR ls k := by rw [blkR_succ, List.dropLast_concat]
def fb (vs : List V) (bs : List (Int × Int)) (p : Int) : Fr := { Fr.empty with values := vs, blocks := bs, pc := p }
/-- Handle at the innermost of k + 1 blocks -/
theorem fb_handle (ls : List (List V)) (k : Nat) (vs : List V) (p : Int) (x : V) (h : flatR ls (k + 1) <+: vs) :
    (fb vs (blkR ls (k + 1)) p).catch?.isSome = true ∧ (fb vs (blkR ls (k + 1)) p).handled x = fb (flatR ls (k + 1) ++ [x]) (blkR ls k) (100 + (k : Int)) := by
  have hl : (blkR ls (k + 1)).getLast? = some (100 + (k : Int), ((flatR ls (k + 1)).length : Int)) := by rw [blkR_succ]; simp
  have hle := h.length_le
  have hc : (fb vs (blkR ls (k + 1)) p).catch? = some (100 + (k : Int), ((flatR ls (k + 1)).length : Int)) := by
    unfold Fr.catch?
    rw [show (fb vs (blkR ls (k + 1)) p).blocks = blkR ls (k + 1) from rfl, hl]
    exact if_pos ⟨by omega, by show ((flatR ls (k + 1)).length : Int) ≤ (vs.length : Int); omega⟩
  refine ⟨by rw [hc]; rfl, ?_⟩
  unfold Fr.handled
  rw [hc]
  show fb (vs.take (flatR ls (k + 1)).length ++ [x]) (blkR ls (k + 1)).dropLast (100 + (k : Int)) = _
  rw [blkR_drop, ← List.prefix_iff_eq_take.1 h]
theorem fb_none (vs : List V) (p : Int) (x : V) : (fb vs [] p).catch?.isSome = false ∧ (fb vs [] p).handled x = fb vs [] p := ⟨rfl, rfl⟩

theorem Env.grown {w0 w w' : World} {S : Nat → Prop} {g : Nat} {F : Fr} {row : Option Nat} (E : Env w0 w S g F) (hg : w.grownBy w' row) (hr : ∀ b, row = some b → ¬ S b ∧ w0.heap.size ≤ b) : Env w0 w' S g F := by
  have hm : Mod (fun i => row = some i) w w' := (Mod.refl _ w).grown hg fun k e _ => e
  exact ⟨E.fr.mod hm (fun i hs e => (hr i e).1 hs), E.own, E.bel.grown hg E.bel.size fun k e => (hr k e).2⟩
/-- rows that FrameBlocks appends to, beside its frame -/
structure BloSt (w0 : World) (x : V) (xb : Nat) (S : Nat → Prop) (g : Nat) (F : Fr) (vH vA : Value) (hs : List Int) (al : List V) (wr : World) : Prop where
  env : Env w0 wr S g F
  h : OwnI wr vH hs
  hn : ∀ b, vH.ownBlock = some b → ¬ S b ∧ w0.heap.size ≤ b
  a : OwnV wr vA al
  an : ∀ b, vA.ownBlock = some b → ¬ S b ∧ w0.heap.size ≤ b
  bx : Blk wr xb 44 #[.int .i64 x.k, .int .i64 x.n, .string x.s]
  xl : xb < w0.heap.size
section
variable {w0 w w' : World} {x : V} {xb : Nat} {S S' : Nat → Prop} {g : Nat} {F F' : Fr} {vH vA v' : Value} {hs ys : List Int} {al zs : List V}
theorem BloSt.below (s : BloSt w0 x xb S g F vH vA hs al w) (hb : Below w.heap.size w w') : BloSt w0 x xb S g F vH vA hs al w' :=
  ⟨s.env.new hb, Own.new s.h hb, s.hn, Own.new s.a hb, s.an, s.bx.below hb s.bx.lt, s.xl⟩
theorem BloSt.kept (s : BloSt w0 x xb S g F vH vA hs al w) (k : Kept S w S' w') (E : Env w0 w' S' g F') : BloSt w0 x xb S' g F' vH vA hs al w' :=
  ⟨E, Own.mod s.h k.mod fun b e => (s.hn b e).1, fun b e => ⟨k.out (Own.lt s.h e) (s.hn b e).1, (s.hn b e).2⟩, Own.mod s.a k.mod fun b e => (s.an b e).1, fun b e => ⟨k.out (Own.lt s.a e) (s.an b e).1, (s.an b e).2⟩,
    k.blk s.bx (fun h => by have := s.env.own _ h; have := s.xl; omega), s.xl⟩
theorem BloSt.appA (s : BloSt w0 x xb S g F vH vA hs al w) (ho : OwnV w' v' zs) (hg : w.grownBy w' vA.ownBlock) (ha : v'.ownBlock = vA.ownBlock ∨ v'.ownBlock = some w.heap.size) : BloSt w0 x xb S g F vH v' hs zs w' := by
  refine ⟨s.env.grown hg s.an, s.h.keep fun b e => hg.block b (s.h.lt e) (fun e' => own_own_ne s.h s.a (by decide) e e'.symm), s.hn, ho, fun b e => ?_, s.bx.grown hg (fun e => by have := (s.an _ e.symm).2; have := s.xl; omega), s.xl⟩
  rcases ha with e' | e' <;> rw [e'] at e
  · exact s.an b e
  · simp at e
    exact ⟨fun h => by have := s.env.lt h; omega, by have := s.env.bel.size; omega⟩
theorem BloSt.appH (s : BloSt w0 x xb S g F vH vA hs al w) (ho : OwnI w' v' ys) (hg : w.grownBy w' vH.ownBlock) (ha : v'.ownBlock = vH.ownBlock ∨ v'.ownBlock = some w.heap.size) : BloSt w0 x xb S g F v' vA ys al w' := by
  refine ⟨s.env.grown hg s.hn, ho, fun b e => ?_, s.a.keep fun b e => hg.block b (s.a.lt e) (fun e' => own_own_ne s.a s.h (by decide) e e'.symm), s.an, s.bx.grown hg (fun e => by have := (s.hn _ e.symm).2; have := s.xl; omega), s.xl⟩
  rcases ha with e' | e' <;> rw [e'] at e
  · exact s.hn b e
  · simp at e
    exact ⟨fun h => by have := s.env.lt h; omega, by have := s.env.bel.size; omega⟩
end
end Go.Proofs.Ythdkloojhenlkaa
