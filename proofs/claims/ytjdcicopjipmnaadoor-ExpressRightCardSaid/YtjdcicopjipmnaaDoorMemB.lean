/- copy onto a row that one owns; slices of strings. Over any program. -/
import Derived.Test.YtjdcicopjipmnaaDoorMem
import Derived.Laws.CopyOwn
namespace Go.Proofs.YtjdcicopjipmnaaDoor
open Go.RowKit

section
variable {P : Program} (w : World)
/-- copy onto the beginning of a row that is one's own -/
theorem run_copy_Own (dT sT ty e : TypeId) (i : TypeInfo) (size : Nat) (hu : P.underlying dT = some (.slice e)) (hi : P.info? e = some i) (hsize : i.size = size)
    (g n c : Nat) (xs : List Value) (hown : Own w e size (.slice (some ⟨g, 0, none⟩) n c) n xs)
    (A : Option Addr) (m d : Nat) (news : List Value) (hr : Rd w A m d size news) (h1 : ∀ u ∈ news, u.oneCell' = true) (hmn : m ≤ n) :
    ∃ w', (Builtin.copy_ #[dT, sT] ty #[.slice (some ⟨g, 0, none⟩) n c, .slice A m d]).run P w = .ok (goInt m) w' ∧ Own w' e size (.slice (some ⟨g, 0, none⟩) n c) n (news ++ xs.drop (m * size)) ∧ w.grownBy w' (some g) := by
  subst hsize
  have hmin : Nat.min m n = m := Nat.min_eq_left hmn
  have hmul := Nat.mul_le_mul_right i.size hmn
  have hlen : (news ++ xs.drop (m * i.size)).length = n * i.size := by rw [List.length_append, List.length_drop, hown.1, hr.2.2.1]; omega
  rcases hown.2 with ⟨e', _⟩ | ⟨g', c', cur, e', hg, hnc, hcm, hcs, htake⟩
  · cases e'
  · injection e' with e1 e2 e3
    injection e1 with e1
    injection e1 with e1
    subst e1 e3
    have hnc' := Nat.mul_le_mul_right i.size hnc
    by_cases hm : m = 0
    · subst hm
      have hn : news = [] := List.eq_nil_of_length_eq_zero (by simpa using hr.2.2.1)
      subst hn
      refine ⟨w, ?_, by simpa using hown, World.grownBy.refl w _⟩
      cases A <;> simp [Builtin.copy_, run_underlying hu, sizeOf, typeInfo, hi, Builtin.lenOf, Builtin.firstCells, loadCells, loadCellsFrom, storeCells]
    · obtain ⟨b, o, rfl, hb, hc⟩ := hr.2.2.2 (by omega)
      have hnews : ∀ j u, news[j]? = some u → w.cell? ((⟨b, o, none⟩ : Addr).add j) = some u := by
        intro j u hu
        have := hc j u hu
        unfold Addr.add
        split
        · simp_all
        · exact this
      have hl := run_loadCells_list (P := P) w ⟨b, o, none⟩ news hnews
      have hst := run_storeCells_at P g 0 e news 0 cur w hg (by have := hr.2.2.1; omega) h1
      simp only [Nat.add_zero, Nat.zero_add, List.take_zero, List.nil_append] at hst
      rw [hr.2.2.1] at hl
      have hrun : (Builtin.copy_ #[dT, sT] ty #[.slice (some ⟨g, 0, none⟩) n c, .slice (some ⟨b, o, none⟩) m d]).run P w = .ok (goInt m) (w.setRow g (news ++ cur.toList.drop news.length).toArray) := by
        simp [Builtin.copy_, run_underlying hu, Builtin.lenOf, Builtin.firstCells, sizeOf, typeInfo, hi, hmin, hl, hst]
      refine ⟨_, hrun, ⟨hlen, .inr ⟨g, c, _, rfl, setRow_heap w g cur _ e _ hg, hnc, hcm, ?_, ?_⟩⟩, ⟨rfl, rfl, rfl, by simp, fun k _ hk => setRow_other w g k _ (fun e => hk (by rw [e]))⟩⟩
      · simp
        have := hr.2.2.1
        omega
      · have h3 := hr.2.2.1
        rw [← htake, List.drop_take, List.take_append, List.take_of_length_le (by omega), h3]

theorem wpList_copy_Own {ops : Array Oper} {rest : List Oper} {o : Oper} {a : Act} {Q : Exit → Act → World → Prop} (hgd : o.guard = none) (s x : Operand) (t : TypeId)
    (ho : o.op = .call { callee := .builtin .copy, args := #[s, x], argTypes := #[t, t] })
    (e : TypeId) (i : TypeInfo) (size : Nat) (ht : P.underlying t = some (.slice e)) (hi : P.info? e = some i) (hsize : i.size = size)
    (g n c : Nat) (xs : List Value) (hs : a.eval s = .slice (some ⟨g, 0, none⟩) n c) (hown : Own w e size (.slice (some ⟨g, 0, none⟩) n c) n xs)
    (A : Option Addr) (m d : Nat) (news : List Value) (hx : a.eval x = .slice A m d) (hr : Rd w A m d size news) (h1 : ∀ u ∈ news, u.oneCell' = true) (hmn : m ≤ n)
    (h : ∀ w', Own w' e size (.slice (some ⟨g, 0, none⟩) n c) n (news ++ xs.drop (m * size)) → w.grownBy w' (some g) → wpList P ops Q rest (a.put o.dst (goInt m)) w') : wpList P ops Q (o :: rest) a w := by
  refine wpList_plain hgd fun K hK => ?_
  obtain ⟨w', hrun, h2, h3⟩ := run_copy_Own (P := P) w t t o.type e i size ht hi hsize g n c xs hown A m d news hr h1 hmn
  unfold Oper.wp
  simp [execOp, ho, resolve, invoke, builtin, hs, hx, hrun, Result.andThen]
  exact hK _ _ (h w' h2 h3)
end

def scs (l : List ByteArray) : List Value := l.map Value.string
theorem scs_length (l : List ByteArray) : (scs l).length = l.length * 1 := by simp [scs]
theorem scs_oneCell (l : List ByteArray) : ∀ u ∈ scs l, u.oneCell' = true := by
  intro u hu
  simp only [scs, List.mem_map] at hu
  obtain ⟨x, _, rfl⟩ := hu
  rfl
theorem scs_at (l : List ByteArray) (i : Nat) (h : i < l.length) : (scs l)[i]? = some (.string l[i]) := by simp [scs, h]
/-- The slice reads as strings. -/
def RdS (w : World) (A : Option Addr) (n c : Nat) (xs : List ByteArray) : Prop := xs.length = n ∧ Rd w A n c 1 (scs xs)
theorem RdS.at_ {w : World} {A : Option Addr} {n c : Nat} {xs : List ByteArray} (h : RdS w A n c xs) {i : Nat} (hi : i < n) :
    ∃ b o, A = some ⟨b, o, none⟩ ∧ b < w.heap.size ∧ w.cell? ⟨b, o + i, none⟩ = some (.string (xs[i]'(by rw [h.1]; exact hi))) := by
  obtain ⟨hl, _, _, _, hc⟩ := h
  obtain ⟨b, o, rfl, hb, hc⟩ := hc (by omega)
  exact ⟨b, o, rfl, hb, hc _ _ (scs_at xs i (by omega))⟩
theorem RdS.new {w w' : World} {A : Option Addr} {n c : Nat} {xs : List ByteArray} (h : RdS w A n c xs) (hb : Below w.heap.size w w') : RdS w' A n c xs := ⟨h.1, h.2.new hb⟩
theorem RdS.mod {w w' : World} {A : Option Addr} {n c : Nat} {xs : List ByteArray} {S : Nat → Prop} (h : RdS w A n c xs) (hb : Mod S w w') (hA : ∀ b o, A = some ⟨b, o, none⟩ → ¬ S b) : RdS w' A n c xs := ⟨h.1, h.2.mod hb hA⟩
theorem RdS.le {w : World} {A : Option Addr} {n c : Nat} {xs : List ByteArray} (h : RdS w A n c xs) : n ≤ 9223372036854775807 := h.2.le
end Go.Proofs.YtjdcicopjipmnaaDoor
