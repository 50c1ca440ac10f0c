/- Builder.Tree in plain words, and what it makes. -/
import Derived.Laws.MakeOwn
import Derived.Test.YtjdcicopjipmnaaDoorAlt
namespace Go.Proofs.YtjdcicopjipmnaaDoor
open Go.RowKit
set_option linter.unusedVariables false
set_option linter.unusedSimpArgs false
/-- numbers, and nodes so far -/
def treeN (ns : List NodeD) (seen : List Int) : Nat → List Int × List NodeD
  | 0 => (List.replicate ns.length 0, [])
  | j + 1 => match ns[j]? with
    | none => treeN ns seen j
    | some x => if (j : Int) ∈ seen then
        ((treeN ns seen j).1.set j (treeN ns seen j).2.length, (treeN ns seen j).2 ++ [{ x with kids := x.kids.map fun k => (((treeN ns seen j).1.set j (treeN ns seen j).2.length)[k.toNat]?).getD 0 }])
      else treeN ns seen j
/-- the nodes that are below the last one, in order, numbered anew -/
def treeOf (ns : List NodeD) : List NodeD := if ns = [] then [] else (treeN ns (ovE ns ns.length (ns.length - 1) []) ns.length).2
theorem treeN_len (ns : List NodeD) (seen : List Int) : ∀ j, (treeN ns seen j).1.length = ns.length
  | 0 => by simp [treeN]
  | j + 1 => by
    unfold treeN
    split
    · exact treeN_len ns seen j
    · split
      · simp only [List.length_set]
        exact treeN_len ns seen j
      · exact treeN_len ns seen j
theorem treeN_out (ns : List NodeD) (seen : List Int) : ∀ j, (treeN ns seen j).2.length ≤ j
  | 0 => by simp [treeN]
  | j + 1 => by
    unfold treeN
    split
    · have := treeN_out ns seen j; omega
    · split
      · simp only [List.length_append, List.length_cons, List.length_nil]
        have := treeN_out ns seen j; omega
      · have := treeN_out ns seen j; omega
theorem run_make_rowN {P : Program} (t e : TypeId) (i : TypeInfo) (z : Value) (ht : P.underlying t = some (.slice e)) (hi : P.info? e = some i) (hz : i.zero = some z)
    (kl kc : IntKind) (n c : Nat) (hnc : n ≤ c) (hbytes : i.bytes * c ≤ 281474976710656) (h63 : c ≤ 9223372036854775807) (w : World) :
    (Instr.makeSlice t (.int kl (n : Int)) (.int kc (c : Int))).run P w = .ok (.slice (some ⟨w.heap.size, 0, none⟩) n c) (w.alloc (.cells (madeCells z.cells (c * i.size)) e)) := by
  have hb : (i.bytes : Int) * (c : Int) ≤ 281474976710656 := by
    have h : ((i.bytes * c : Nat) : Int) ≤ 281474976710656 := by omega
    rwa [Int.natCast_mul] at h
  have hr := run_make (P := P) w t e i z ht hi hz kl kc n c (by omega) (by omega) hb (by omega)
  simp only [Int.toNat_natCast] at hr
  exact hr
theorem made_one (z : Value) (n : Nat) : madeCells #[z] n = (List.replicate n z).toArray := by
  apply Array.toList_inj.1
  rw [toList_madeCells_one]
theorem make_I (n : Nat) (hn : n ≤ 8796093022208) (w : World) : (Instr.makeSlice 22 (.int .i64 (n : Int)) (.int .i64 (n : Int))).run Tryd.prog w = .ok (.slice (some ⟨w.heap.size, 0, none⟩) n n) (w.alloc (.cells (List.replicate n (.int .i64 0)).toArray 3)) := by
  obtain ⟨i0, hi, hz0, hz1, hz2⟩ := info_parts info_Int
  have := run_make_rowN (P := Tryd.prog) 22 3 i0 _ Tryd.underlying22 hi hz0 .i64 .i64 n n (Nat.le_refl _) (by rw [hz2]; omega) (by omega) w
  rw [hz1, Nat.mul_one] at this
  rw [← made_one]
  exact this
theorem row_own {w : World} {B : Nat} {t : TypeId} {sz n : Nat} {v : Value} {cs : List Value} (h : w.ownsRow B t sz v n cs) : Own w t sz v n cs := ⟨h.1, h.2.imp id fun ⟨g, cap, cur, e, _, hg, hn, hc, hs, ht⟩ => ⟨g, cap, cur, e, hg, hn, by simp only [maxLen] at hc; omega, Nat.le_of_eq hs.symm, ht⟩⟩
theorem row_base {w : World} {B : Nat} {t : TypeId} {sz n : Nat} {v : Value} {cs : List Value} (h : w.ownsRow B t sz v n cs) {b : Nat} (e : v.ownBlock = some b) : B ≤ b := by
  rcases h.2 with ⟨rfl, _⟩ | ⟨g, cap, cur, rfl, hb, _⟩
  · cases e
  · obtain rfl : g = b := by simpa [Value.ownBlock] using e
    exact hb
/-- slices.Clone of a row of ints -/
theorem clone_any {w : World} {A : Option Addr} {k c : Nat} {kids : List Int} (h : Rd w A k c 1 (ics kids)) (hk : kids.length = k) (hb : k ≤ 4398046511103) :
    Calls Tryd.prog 57 #[.slice A k c] w fun e w' => ∃ v, e = .returned v ∧ OwnI w' v kids ∧ Below w.heap.size w w' ∧ ∀ g, v.ownBlock = some g → w.heap.size ≤ g := by
  cases A with
  | none =>
    have h0 : k = 0 := by
      rcases Nat.eq_zero_or_pos k with h1 | h1
      · exact h1
      · obtain ⟨b, o, e, _⟩ := h.2.2.2 h1
        cases e
    subst h0
    obtain rfl : kids = [] := List.eq_nil_of_length_eq_zero hk
    refine (Tryd.slices_Clone_int_nil 0 c w).mono ?_
    rintro e w' ⟨rfl, rfl⟩
    exact ⟨_, rfl, OwnI.nil_ _, Below.refl _ _, fun g e => by cases e⟩
  | some a =>
    rcases Nat.eq_zero_or_pos k with h0 | h0
    · subst h0
      obtain rfl : kids = [] := List.eq_nil_of_length_eq_zero hk
      refine (Tryd.slices_Clone_int_zero a c w).mono ?_
      rintro e w' ⟨v, rfl, ho, _, hb⟩
      exact ⟨v, rfl, row_own ho, hb, fun g e => row_base ho e⟩
    · obtain ⟨b, o, e, hlt, hc⟩ := h.2.2.2 h0
      injection e with e
      subst e
      refine (Tryd.slices_Clone_int b o k c kids w (by omega) (by omega) fun j hj => hc j _ ?_).mono ?_
      · rw [ics, List.getElem?_map, List.getElem?_eq_getElem hj]
        simp [hj]
      · rintro e w' ⟨v, rfl, ho, _, hb⟩
        rw [List.take_of_length_le (by omega)] at ho
        refine ⟨v, rfl, ?_, hb, fun g e => row_base ho e⟩
        unfold OwnI
        rw [hk]
        exact row_own ho
section
variable {ops : Array Oper} {rest : List Oper} {o : Oper} {a : Act} {Q : Exit → Act → World → Prop}
theorem wpList_appendNode (w : World) (hgd : o.guard = none) (s x : Operand) (ho : o.op = .call { callee := .builtin .append, args := #[s, x], argTypes := #[25, 25] })
    (v : Value) (Z : List NdS) (hs : a.eval s = v) (hown : Own w 51 5 v Z.length (Z.flatMap NdS.cs)) (A : Option Addr) (c : Nat) (z : NdS) (hx : a.eval x = .slice A 1 c) (hr : Rd w A 1 c 5 z.cs) (hbound : Z.length + 1 ≤ 1099511627776)
    (h : ∀ v' w', Own w' 51 5 v' (Z ++ [z]).length ((Z ++ [z]).flatMap NdS.cs) → w.grownBy w' v.ownBlock → (v'.ownBlock = v.ownBlock ∨ v'.ownBlock = some w.heap.size) → wpList Tryd.prog ops Q rest (a.put o.dst v') w') :
    wpList Tryd.prog ops Q (o :: rest) a w := by
  obtain ⟨i0, hi, hz0, hz1, hz2⟩ := info_parts info_Node
  refine wpList_append_Own w hgd s x _ ho _ i0 _ 5 64 Tryd.underlying25 hi hz0 hz1 hz2 rfl v Z.length (Z.flatMap NdS.cs) hs hown A 1 c z.cs hx hr ?_ (by omega) (by omega) (fun v' w' h1 h2 h3 => h v' w' ?_ h2 h3)
  · intro u hu
    simp only [NdS.cs, NdS.v, List.mem_cons, List.not_mem_nil, or_false] at hu
    rcases hu with rfl | rfl | rfl | rfl | rfl <;> rfl
  · rw [List.length_append, List.flatMap_append, List.flatMap_singleton]
    exact h1
end
end Go.Proofs.YtjdcicopjipmnaaDoor
