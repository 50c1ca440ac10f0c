/- Rows of strings that one owns. -/
import Derived.Test.YthdkloojhenlkaaNewC
namespace Go.Proofs.Ythdkloojhenlkaa
open Go.RowKit

def OwnS (w : World) (v : Value) (xs : List ByteArray) : Prop := Own w 9 1 v xs.length (scs xs)
theorem scs_append (a b : List ByteArray) : scs (a ++ b) = scs a ++ scs b := by simp [scs]
theorem OwnS.rd {w : World} {v : Value} {xs : List ByteArray} (h : OwnS w v xs) : ∃ A n c, v = .slice A n c ∧ RdS w A n c xs ∧ (∀ b o, A = some ⟨b, o, none⟩ → v.ownBlock = some b) := by
  obtain ⟨A, c, e, h1, h2⟩ := Own.rd h
  exact ⟨A, _, c, e, ⟨rfl, h1⟩, h2⟩
theorem OwnS.nil_ (w : World) : OwnS w (.slice none 0 0) [] := Own.nil_ _ _ _
theorem emptyS_own (w : World) : OwnS (w.alloc (.cells #[] 9)) (.slice (some ⟨w.heap.size, 0, none⟩) 0 0) [] := Own.made w #[] 0 (by omega) rfl
theorem OwnS.new {w w' : World} {v : Value} {xs : List ByteArray} (h : OwnS w v xs) (hb : Below w.heap.size w w') : OwnS w' v xs := Own.new h hb
theorem one_rdS (w : World) (x : ByteArray) : RdS (w.alloc (.cells #[.string x] 9)) (some ⟨w.heap.size, 0, none⟩) 1 1 [x] := blk_rdS (xs := [x]) (Blk.new w 9 _) rfl (by omega)
theorem wpList_appendS {ops : Array Oper} {rest : List Oper} {o : Oper} {a : Act} {Q : Exit → Act → World → Prop} (w : World) (hgd : o.guard = none) (s x : Operand)
    (ho : o.op = .call { callee := .builtin .append, args := #[s, x], argTypes := #[28, 28] })
    (v : Value) (xs : List ByteArray) (hs : a.eval s = v) (hown : OwnS w v xs)
    (A : Option Addr) (m c : Nat) (ys : List ByteArray) (hx : a.eval x = .slice A m c) (hr : RdS w A m c ys) (hbound : xs.length + m ≤ 1000000)
    (h : ∀ v' w', OwnS w' v' (xs ++ ys) → w.grownBy w' v.ownBlock → (v'.ownBlock = v.ownBlock ∨ v'.ownBlock = some w.heap.size) → wpList Try.prog ops Q rest (a.put o.dst v') w') : wpList Try.prog ops Q (o :: rest) a w := by
  obtain ⟨i0, hi, hz0, hz1, hz2⟩ := info_parts info_S
  refine wpList_append_Own w hgd s x _ ho _ i0 _ 1 16 Try.underlying28 hi hz0 hz1 hz2 rfl v xs.length (scs xs) hs hown A m c (scs ys) hx hr.2 (scs_oneCell ys) (by omega) (by omega) (fun v' w' h1 h2 h3 => h v' w' ?_ h2 h3)
  unfold OwnS
  rw [List.length_append, scs_append, hr.1]
  exact h1
theorem step_appendS {ops : Array Oper} {o : Oper} {a : Act} {K : Act → World → Prop} {Q : Exit → Act → World → Prop} {E : Prop} (w : World) (hgd : o.guard = none) (s x : Operand)
    (ho : o.op = .call { callee := .builtin .append, args := #[s, x], argTypes := #[28, 28] })
    (v : Value) (xs : List ByteArray) (hs : a.eval s = v) (hown : OwnS w v xs)
    (A : Option Addr) (m c : Nat) (ys : List ByteArray) (hx : a.eval x = .slice A m c) (hr : RdS w A m c ys) (hbound : xs.length + m ≤ 1000000)
    (h : ∀ v' w', OwnS w' v' (xs ++ ys) → w.grownBy w' v.ownBlock → (v'.ownBlock = v.ownBlock ∨ v'.ownBlock = some w.heap.size) → K (a.put o.dst v') w') :
    if Region.wanted o (yielded ops a.tmps) = true then Oper.wp Try.prog o a w K Q else E := by
  obtain ⟨i0, hi, hz0, hz1, hz2⟩ := info_parts info_S
  refine step_append_Own w hgd s x _ ho _ i0 _ 1 16 Try.underlying28 hi hz0 hz1 hz2 rfl v xs.length (scs xs) hs hown A m c (scs ys) hx hr.2 (scs_oneCell ys) (by omega) (by omega) (fun v' w' h1 h2 h3 => h v' w' ?_ h2 h3)
  unfold OwnS
  rw [List.length_append, scs_append, hr.1]
  exact h1
end Go.Proofs.Ythdkloojhenlkaa
