/- Rows of values that the statement keeps beside its frame. -/
import Derived.Test.YthdkloojhenlkaaShown
namespace Go.Proofs.Ythdkloojhenlkaa
open Go.RowKit

/-- a slice that reads as values, outside the frame's blocks -/
structure RowR (w : World) (S : Nat → Prop) (A : Option Addr) (n c : Nat) (xs : List V) : Prop where
  rd : RdV w A n c xs
  out : ∀ b o, A = some ⟨b, o, none⟩ → 0 < n → b < w.heap.size ∧ ¬ S b
section
variable {w w' : World} {S S' : Nat → Prop} {A : Option Addr} {n c : Nat} {xs : List V}
theorem RowR.below (h : RowR w S A n c xs) (hb : Below w.heap.size w w') : RowR w' S A n c xs :=
  ⟨h.rd.new hb, fun b o e hn => ⟨Nat.lt_of_lt_of_le (h.out b o e hn).1 hb.size, (h.out b o e hn).2⟩⟩
theorem RowR.kept (h : RowR w S A n c xs) (k : Kept S w S' w') : RowR w' S' A n c xs := by
  refine ⟨⟨h.rd.1, h.rd.2.1, h.rd.2.2.1, h.rd.2.2.2.1, fun hn => ?_⟩, fun b o e hn => ⟨Nat.lt_of_lt_of_le (h.out b o e hn).1 k.size, k.out (h.out b o e hn).1 (h.out b o e hn).2⟩⟩
  obtain ⟨b, o, e, hb, hc⟩ := h.rd.2.2.2.2 hn
  refine ⟨b, o, e, Nat.lt_of_lt_of_le hb k.size, fun j u hu => ?_⟩
  exact (k.mod.cell (p := ⟨b, o + j, none⟩) hb (h.out b o e hn).2).trans (hc j u hu)
theorem RowR.of_own {v : Value} (h : OwnV w v xs) (hn : ∀ b, v.ownBlock = some b → ¬ S b) : ∃ A c, v = .slice A xs.length c ∧ RowR w S A xs.length c xs := by
  obtain ⟨A, n, c, e, hr, hA⟩ := h.rd
  obtain rfl : xs.length = n := hr.1
  exact ⟨A, c, e, hr, fun b o e' _ => ⟨Own.lt h (hA b o e'), hn b (hA b o e')⟩⟩
theorem RowR.of_ownN {v : Value} (h : OwnV w v xs) (hn : ∀ b, v.ownBlock = some b → ¬ S b) : ∃ A n c, v = .slice A n c ∧ RowR w S A n c xs := by
  obtain ⟨A, n, c, e, hr, hA⟩ := h.rd
  exact ⟨A, n, c, e, hr, fun b o e' _ => ⟨Own.lt h (hA b o e'), hn b (hA b o e')⟩⟩
theorem RowR.of_arg (h : RdV w A n c xs) (hS : ∀ i, S i → w.heap.size ≤ i) : RowR w S A n c xs :=
  ⟨h, fun b o e hn => by
    obtain ⟨b', o', e', hb, _⟩ := h.2.2.2.2 hn
    rw [e] at e'
    cases e'
    exact ⟨hb, fun hs => by have := hS b hs; omega⟩⟩
theorem RowR.at_ (h : RowR w S A n c xs) {i : Nat} (hi : i < n) :
    ∃ b o, A = some ⟨b, o, none⟩ ∧ b < w.heap.size ∧ w.cell? ⟨b, o + i * 3, none⟩ = some (.int .i64 (xs[i]'(by rw [h.rd.1]; exact hi)).k) ∧
      w.cell? ⟨b, o + i * 3 + 1, none⟩ = some (.int .i64 (xs[i]'(by rw [h.rd.1]; exact hi)).n) ∧ w.cell? ⟨b, o + i * 3 + 2, none⟩ = some (.string (xs[i]'(by rw [h.rd.1]; exact hi)).s) := h.rd.at_ hi
end
theorem row_env {w0 w : World} {S : Nat → Prop} {g : Nat} {F : Fr} (E : Env w0 w S g F) {A : Option Addr} {n c : Nat} {xs : List V} (hA : RdV w A n c xs) :
    Calls Try.prog 14 #[.slice A n c] w fun e w' => ∃ A' c', e = .returned (.slice A' (cutRow xs).length c') ∧ RowR w' S A' (cutRow xs).length c' (cutRow xs) ∧ Env w0 w' S g F ∧ Below w.heap.size w w' :=
  (row_any A n c xs w hA).mono fun _ w' ⟨v, he, hv, hn, hb⟩ => by
    obtain ⟨A', c', rfl, hr⟩ := RowR.of_own (S := S) hv (fun b e hs => by have := hn b e; have := E.lt hs; omega)
    exact ⟨A', c', he, hr, E.new hb, hb⟩
/-- a frame of the statement's own code, with values -/
def fv (l : List V) : Fr := { Fr.empty with values := l }
theorem fv_push (l m : List V) : ({ fv l with values := (fv l).values ++ m } : Fr) = fv (l ++ m) := rfl
theorem fv_top {l : List V} {i : Nat} (h : i < l.length) : (fv l).topOk i = true ∧ (fv l).top i = l[l.length - 1 - i] := by
  have e : (fv l).topOk i = true := decide_eq_true (p := 0 ≤ (i : Int) ∧ (i : Int) < (l.length : Int)) ⟨by omega, by omega⟩
  refine ⟨e, ?_⟩
  simp only [Fr.top, e, if_true, Int.toNat_natCast]
  show l.getD (l.length - 1 - i) V.zero = _
  rw [List.getD_eq_getElem?_getD, List.getElem?_eq_getElem (by omega)]
  rfl
theorem fv_topNo {l : List V} {i : Int} (h : ¬ (0 ≤ i ∧ i < l.length)) : (fv l).topOk i = false := decide_eq_false (p := 0 ≤ i ∧ i < (l.length : Int)) h
theorem fv_takeNo {l : List V} {i : Int} (h : ¬ (0 ≤ i ∧ i ≤ l.length)) : (fv l).takeOk i = false ∧ (fv l).taken i = [] ∧ (fv l).took i = fv l := by
  have e : (fv l).takeOk i = false := decide_eq_false (p := 0 ≤ i ∧ i ≤ (l.length : Int)) h
  exact ⟨e, by simp [Fr.taken, e], by simp [Fr.took, e]⟩
theorem fv_take (l m : List V) : (fv (l ++ m)).takeOk m.length = true ∧ (fv (l ++ m)).taken m.length = m ∧ (fv (l ++ m)).took m.length = fv l := by
  have e : (fv (l ++ m)).takeOk m.length = true := decide_eq_true (p := 0 ≤ (m.length : Int) ∧ (m.length : Int) ≤ ((l ++ m).length : Int)) ⟨by omega, by rw [List.length_append]; omega⟩
  have e2 : (l ++ m).length - m.length = l.length := by simp
  refine ⟨e, ?_, ?_⟩
  · simp only [Fr.taken, e, if_true, Int.toNat_natCast]
    show (l ++ m).drop ((l ++ m).length - m.length) = m
    rw [e2, List.drop_left]
  · simp only [Fr.took, e, if_true, Int.toNat_natCast]
    show fv ((l ++ m).take ((l ++ m).length - m.length)) = fv l
    rw [e2, List.take_left]
theorem fv_pop (l : List V) : ({ fv l with values := (fv l).values.dropLast } : Fr) = fv l.dropLast := rfl
end Go.Proofs.Ythdkloojhenlkaa
