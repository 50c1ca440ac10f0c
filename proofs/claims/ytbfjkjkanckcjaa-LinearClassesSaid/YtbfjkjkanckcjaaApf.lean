/- Append onto a row that is full (clipped): a new row, whoever's the old one is. -/
import Derived.Test.YtbfjkjkanckcjaaNum
namespace Go.Proofs.Ytbfjkjkanckcjaa
open Go.RowKit

section
variable {P : Program} (w : World)
theorem run_append_full (t ty e : TypeId) (i : TypeInfo) (z : Value) (size bytes : Nat) (ht : P.underlying t = some (.slice e)) (hi : P.info? e = some i) (hz : i.zero = some z)
    (hsize : i.size = size) (hby : i.bytes = bytes) (hzs : z.cells.size = size)
    (A₀ : Option Addr) (n : Nat) (xs : List Value) (h0 : Rd w A₀ n n size xs) (hA : n = 0 → A₀ = none ∨ ∃ b o, A₀ = some ⟨b, o, none⟩)
    (A : Option Addr) (m c : Nat) (news : List Value) (hr : Rd w A m c size news) (hm : 0 < m)
    (hbytes : (n + m) * bytes ≤ 140737488355328) (h63 : n + m ≤ 9223372036854775807) :
    ∃ v' w', (Builtin.append_ #[t, t] ty #[.slice A₀ n n, .slice A m c]).run P w = .ok v' w' ∧ Own w' e size v' (n + m) (xs ++ news) ∧ Below w.heap.size w w' ∧ v'.ownBlock = some w.heap.size := by
  subst hsize
  subst hby
  have hlen : (xs ++ news).length = (n + m) * i.size := by rw [List.length_append, h0.2.2.1, hr.2.2.1, Nat.add_mul]
  have grown : ∀ (old : Nat), old < n + m →
      Own (w.drew.alloc (.cells (xs.toArray ++ news.toArray ++ Builtin.zeroCells z.cells (grownCap w (n + m) old e - (n + m))) e)) e i.size
        (.slice (some ⟨w.heap.size, 0, none⟩) (n + m) (grownCap w (n + m) old e)) (n + m) (xs ++ news) ∧
      Below w.heap.size w (w.drew.alloc (.cells (xs.toArray ++ news.toArray ++ Builtin.zeroCells z.cells (grownCap w (n + m) old e - (n + m))) e)) := by
    intro old ho
    have hge := grownCap_ge w (n + m) old e
    have hcm : grownCap w (n + m) old e ≤ maxLen := grownCap_le_maxLen w (n + m) old e (by simp only [maxLen]; omega)
    refine ⟨⟨hlen, .inr ⟨w.heap.size, _, _, rfl, heap_alloc_new w.drew _, hge, by simp only [maxLen] at hcm; omega, ?_, ?_⟩⟩, (by repeat (first | exact Below.refl _ _ | assumption | refine Below.setCell ?_ (by first | (simp; done) | (simp; omega) | omega) _ | refine below_drewN ?_ _ | refine Below.drew ?_ | refine Below.alloc ?_ (by first | (simp; done) | (simp; omega) | omega) _))⟩
    · simp only [Array.size_append, List.size_toArray, size_zeroCells, hzs, h0.2.2.1, hr.2.2.1, ← Nat.add_mul]
      apply Nat.le_of_eq
      congr 1
      omega
    · simp only [Array.toList_append, List.append_assoc]
      rw [← List.append_assoc, ← hlen]
      exact List.take_left
  obtain ⟨b, o, rfl, hb, hc⟩ := hr.2.2.2 (by omega)
  have add_ : ∀ (b o j : Nat) (u : Value), w.cell? ⟨b, o + j, none⟩ = some u → w.cell? ((⟨b, o, none⟩ : Addr).add j) = some u := by
    intro b o j u this
    unfold Addr.add
    split
    · simp_all
    · exact this
  have hnews : ∀ j u, news[j]? = some u → w.cell? ((⟨b, o, none⟩ : Addr).add j) = some u := fun j u hu => add_ _ _ _ _ (hc j u hu)
  have big : ∀ (b₀ o₀ : Nat), (∀ j u, xs[j]? = some u → w.cell? ((⟨b₀, o₀, none⟩ : Addr).add j) = some u) → A₀ = some ⟨b₀, o₀, none⟩ → ∃ v' w', (Builtin.append_ #[t, t] ty #[.slice A₀ n n, .slice (some ⟨b, o, none⟩) m c]).run P w = .ok v' w' ∧ Own w' e i.size v' (n + m) (xs ++ news) ∧ Below w.heap.size w w' ∧ v'.ownBlock = some w.heap.size := by
    rintro b₀ o₀ holds rfl
    have hrr := run_append_grow (P := P) w t ty e i z ht hi hz ⟨b₀, o₀, none⟩ n n xs h0.2.2.1 holds ⟨b, o, none⟩ m c news hr.2.2.1 hnews (by omega) (by omega) (growslice_fits (by omega) hbytes)
    have hgr := grown n (by omega)
    exact ⟨_, _, hrr, hgr.1, hgr.2, rfl⟩
  by_cases hn : n = 0
  · subst hn
    have hx : xs = [] := List.eq_nil_of_length_eq_zero (by simpa using h0.2.2.1)
    subst hx
    rcases hA rfl with rfl | ⟨b₀, o₀, rfl⟩
    · have hrr := run_append_nil (P := P) w t ty e i z ht hi hz ⟨b, o, none⟩ m c news hr.2.2.1 hnews (by omega) (by omega) (by have hb := hbytes; simp only [Nat.zero_add] at hb; omega)
      have hgr := grown 0 (by omega)
      simp only [Nat.zero_add, List.nil_append, Array.empty_append] at hgr ⊢
      exact ⟨_, _, hrr, hgr.1, hgr.2, rfl⟩
    · exact big b₀ o₀ (fun j u h => by simp at h) rfl
  · obtain ⟨b₀, o₀, e0, _, hc0⟩ := h0.2.2.2 (by omega)
    exact big b₀ o₀ (fun j u h => add_ _ _ _ _ (hc0 j u h)) e0
end

/-- (of rows of numbers) -/
theorem wpList_appendRF {ops : Array Oper} {rest : List Oper} {o : Oper} {a : Act} {Q : Exit → Act → World → Prop} (w : World) (hgd : o.guard = none) (s x : Operand) (ho : o.op = .call { callee := .builtin .append, args := #[s, x], argTypes := #[22, 22] })
    (A₀ : Option Addr) (n : Nat) (xs : List SlI) (hs : a.eval s = .slice A₀ n n) (h0 : RdR w A₀ n n xs) (hA : n = 0 → A₀ = none ∨ ∃ b o, A₀ = some ⟨b, o, none⟩) (A : Option Addr) (m c : Nat) (ys : List SlI) (hx : a.eval x = .slice A m c) (hr : RdR w A m c ys) (hm : 0 < m) (hbound : n + m ≤ 1000000000000)
    (h : ∀ v' w', OwnR 25 w' v' (xs ++ ys) → Below w.heap.size w w' → v'.ownBlock = some w.heap.size → wpList Try.prog ops Q rest (a.put o.dst v') w') : wpList Try.prog ops Q (o :: rest) a w := by
  obtain ⟨i0, hi, hz0, hz1, hz2⟩ := info_parts info_Row
  refine wpList_plain hgd fun _ hK => ?_
  obtain ⟨v', w', hrun, h2, h3, h4⟩ := run_append_full (P := Try.prog) w 22 o.type 25 i0 _ 1 24 Try.underlying22 hi hz0 hz1 hz2 rfl A₀ n (rcs xs) h0.2 hA A m c (rcs ys) hr.2 hm (by omega) (by omega)
  have h2' : OwnR 25 w' v' (xs ++ ys) := by
    unfold OwnR
    rw [List.length_append, rcs_append, h0.1, hr.1]
    exact h2
  unfold Oper.wp execOp
  simp only [ho, resolve, invoke, builtin, Sem.run_bind, Sem.run_pure, Result.andThen_ok, List.map_toArray, List.map_cons, List.map_nil, hs, hx, hrun]
  exact hK _ _ (h v' w' h2' h3 h4)
end Go.Proofs.Ytbfjkjkanckcjaa
