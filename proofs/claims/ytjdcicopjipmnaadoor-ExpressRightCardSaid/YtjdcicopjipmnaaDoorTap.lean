/- Rows of tokens that are appended to. -/
import Derived.Test.YtjdcicopjipmnaaDoorShw
namespace Go.Proofs.YtjdcicopjipmnaaDoor
open Go.RowKit
set_option linter.unusedVariables false
set_option linter.unusedSimpArgs false
theorem info_Tok : (Tryd.prog.info? 39).map (fun i => (i.zero, i.size, i.bytes)) = some (some (.agg #[.int .i64 0, .int .i64 0, .string ⟨#[]⟩, .int .i64 0]), 4, 40) := by kernel_rfl
theorem tflat_len (L : List TokD) : (L.flatMap tcs).length = L.length * 4 := by
  induction L with
  | nil => rfl
  | cons t L ih => rw [List.flatMap_cons, List.length_append, ih, List.length_cons]; show 4 + _ = _; omega
theorem tflat_one (L : List TokD) : ∀ u ∈ L.flatMap tcs, u.oneCell' = true := by
  intro u hu
  obtain ⟨t, _, ht⟩ := List.mem_flatMap.1 hu
  simp only [tcs, List.mem_cons, List.not_mem_nil, or_false] at ht
  rcases ht with rfl | rfl | rfl | rfl <;> rfl
/-- the slice value owns a row of tokens -/
def OwnT (w : World) (v : Value) (L : List TokD) : Prop := Own w 39 4 v L.length (L.flatMap tcs)
theorem OwnT.made (w : World) (L : List TokD) (cs : Array Value) (n : Nat) (hn : L.length = n) (hc : cs = (L.flatMap tcs).toArray) (hm : n ≤ 9223372036854775807) : OwnT (w.alloc (.cells cs 39)) (.slice (some ⟨w.heap.size, 0, none⟩) n n) L := by
  have h := Own.made (t := 39) (sz := 4) w cs n hm (by rw [hc]; simp only [List.size_toArray]; rw [tflat_len, hn])
  unfold OwnT
  rw [hc] at h ⊢
  rw [hn]
  exact h
section
variable {ops : Array Oper} {rest : List Oper} {o : Oper} {a : Act} {Q : Exit → Act → World → Prop}
theorem wpList_appendT (w : World) (hgd : o.guard = none) (s x : Operand) (ho : o.op = .call { callee := .builtin .append, args := #[s, x], argTypes := #[26, 26] })
    (v : Value) (L : List TokD) (hs : a.eval s = v) (hown : OwnT w v L) (A : Option Addr) (m c : Nat) (M : List TokD) (hx : a.eval x = .slice A m c) (hr : Rd w A m c 4 (M.flatMap tcs)) (hm : M.length = m) (hbound : L.length + m ≤ 1099511627776)
    (h : ∀ v' w', OwnT w' v' (L ++ M) → w.grownBy w' v.ownBlock → (v'.ownBlock = v.ownBlock ∨ v'.ownBlock = some w.heap.size) → wpList Tryd.prog ops Q rest (a.put o.dst v') w') :
    wpList Tryd.prog ops Q (o :: rest) a w := by
  obtain ⟨i0, hi, hz0, hz1, hz2⟩ := info_parts info_Tok
  refine wpList_append_Own w hgd s x _ ho _ i0 _ 4 40 Tryd.underlying26 hi hz0 hz1 hz2 rfl v L.length (L.flatMap tcs) hs hown A m c (M.flatMap tcs) hx hr (tflat_one M) (by omega) (by omega) (fun v' w' h1 h2 h3 => h v' w' ?_ h2 h3)
  unfold OwnT
  rw [List.length_append, List.flatMap_append, hm]
  exact h1
end
/-- new since w: a row of tokens -/
structure NewT (w wr : World) (v : Value) (L : List TokD) : Prop where
  own : OwnT wr v L
  new : ∀ b, v.ownBlock = some b → w.heap.size ≤ b
  bel : Below w.heap.size w wr
theorem NewT.move {w wr wr' : World} {v : Value} {L : List TokD} (h : NewT w wr v L) (hb : Below wr.heap.size wr wr') : NewT w wr' v L := ⟨Own.new h.own hb, h.new, h.bel.trans (hb.mono h.bel.size)⟩
theorem NewT.app {w wr W' w6 : World} {v v6 : Value} {L L' : List TokD} (h : NewT w wr v L) (hb : Below wr.heap.size wr W') (ho : OwnT w6 v6 L') (hg : W'.grownBy w6 v.ownBlock) (hn : v6.ownBlock = v.ownBlock ∨ v6.ownBlock = some W'.heap.size) : NewT w w6 v6 L' := by
  have hs := h.bel.size
  have hs2 := hb.size
  refine ⟨ho, fun b e => ?_, (h.bel.trans (hb.mono hs)).grown hg (by omega) fun k e => h.new k e⟩
  rcases hn with e' | e' <;> rw [e'] at e
  · exact h.new b e
  · injection e with e
    omega
end Go.Proofs.YtjdcicopjipmnaaDoor
