/- Rows of tokens side by side; told, said outright. -/
import Derived.Test.YtjdcicopjipmnaaDoorTap
namespace Go.Proofs.YtjdcicopjipmnaaDoor
open Go.RowKit
set_option linter.unusedVariables false
set_option linter.unusedSimpArgs false
/-- told, what it tells said outright -/
theorem told_is {w : World} {A : Option Addr} {n c : Nat} {L : List TokD} {r : PS × Int} {a b e : Int} {T : List NodeD} {m : Nat} (hm : T.length = m) (hr : parsed L = some r) (ha : nodeOf r = a) (hb : usedOf r = b) (he : r.1.e = e) (hT : treeOf r.1.ns = T) (hl : Rd w A n c 4 (L.flatMap tcs)) (hla : ∀ b o, A = some ⟨b, o, none⟩ → b < w.heap.size) (hn : L.length = n) (hbig : n ≤ 274877906944)
    (hts : ∀ t ∈ L, t.s.size ≤ maxLen) (htab : Asp w) :
    Calls Tryd.prog 16 #[.slice A n c] w fun e' w' => ∃ A9 c9, e' = .returned (.agg #[.int .i64 a, .int .i64 b, .int .i64 e, .slice A9 m c9]) ∧ RowN (fun _ => False) w' (.slice A9 m c9) T ∧ Below w.heap.size w w' := by
  subst ha hb he hT hm
  refine (told_any hl hla hn hbig hts htab hr).mono ?_
  rintro e' w' ⟨v, rfl, h1, h2⟩
  obtain ⟨A9, c9, rfl, _⟩ := h1.rdT
  exact ⟨A9, c9, rfl, h1, h2⟩
theorem byte_of {n : Int} (h : (Lit.int .u8 n).wf = true) : ∃ b : Nat, n = (b : Int) ∧ b < 256 := by
  have h2 : (decide (0 ≤ n) && decide (n ≤ 255)) = true := h
  simp only [Bool.and_eq_true, decide_eq_true_eq] at h2
  exact ⟨n.toNat, by omega, by omega⟩
theorem OwnT.rd_ {w : World} {A : Option Addr} {n c : Nat} {L : List TokD} (h : OwnT w (.slice A n c) L) : Rd w A L.length c 4 (L.flatMap tcs) := by
  obtain ⟨A', c', e, hr, _⟩ := Own.rd h
  injection e with e1 e2 e3
  subst e1 e3
  exact hr
theorem OwnT.old {w : World} {A : Option Addr} {n c : Nat} {L : List TokD} (h : OwnT w (.slice A n c) L) : ∀ b o, A = some ⟨b, o, none⟩ → b < w.heap.size := by
  obtain ⟨A', c', e, hr, hA⟩ := Own.rd h
  injection e with e1 e2 e3
  subst e1 e3
  exact fun b o e => Own.lt h (hA b o e)
theorem NewT.empty {w w1 : World} (hb : Below w.heap.size w w1) : NewT w (w1.alloc (.cells #[] 39)) (.slice (some ⟨w1.heap.size, 0, none⟩) 0 0) [] :=
  ⟨OwnT.made w1 [] #[] 0 rfl rfl (by omega), fun b e => by have e2 : w1.heap.size = b := (by simpa [Value.ownBlock] using e); have := hb.size; omega, by have := hb.size; exact (by repeat (first | exact Below.refl _ _ | assumption | refine Below.setCell ?_ (by first | (simp; done) | (simp; omega) | omega) _ | refine below_drewN ?_ _ | refine Below.drew ?_ | refine Below.alloc ?_ (by first | (simp; done) | (simp; omega) | omega) _))⟩
/-- new since w: two rows of tokens, apart -/
structure TwoT (w wr : World) (v : Value) (L : List TokD) (v' : Value) (L' : List TokD) : Prop where
  own : OwnT wr v L
  own2 : OwnT wr v' L'
  new : ∀ b, v.ownBlock = some b → w.heap.size ≤ b
  new2 : ∀ b, v'.ownBlock = some b → w.heap.size ≤ b
  ap : ∀ b, v.ownBlock = some b → v'.ownBlock ≠ some b
  bel : Below w.heap.size w wr
section
variable {w wr wr' W' w6 : World} {v v' v6 : Value} {L L' L6 : List TokD}
theorem TwoT.move (h : TwoT w wr v L v' L') (hb : Below wr.heap.size wr wr') : TwoT w wr' v L v' L' := ⟨Own.new h.own hb, Own.new h.own2 hb, h.new, h.new2, h.ap, h.bel.trans (hb.mono h.bel.size)⟩
theorem TwoT.swap (h : TwoT w wr v L v' L') : TwoT w wr v' L' v L := ⟨h.own2, h.own, h.new2, h.new, fun b e e' => h.ap b e' e, h.bel⟩
theorem TwoT.one (h : TwoT w wr v L v' L') : NewT w wr v L := ⟨h.own, h.new, h.bel⟩
theorem NewT.two (h : NewT w wr v L) (ho : OwnT W' v6 L6) (hb : Below wr.heap.size wr W') (hn : ∀ b, v6.ownBlock = some b → wr.heap.size ≤ b) : TwoT w W' v L v6 L6 := by
  have hs := h.bel.size
  exact ⟨Own.new h.own hb, ho, h.new, fun b e => Nat.le_trans hs (hn b e), fun b e e' => by have := Own.lt h.own e; have := hn b e'; omega, h.bel.trans (hb.mono hs)⟩
theorem TwoT.app (h : TwoT w wr v L v' L') (hb : Below wr.heap.size wr W') (ho : OwnT w6 v6 L6) (hg : W'.grownBy w6 v.ownBlock) (hn : v6.ownBlock = v.ownBlock ∨ v6.ownBlock = some W'.heap.size) : TwoT w w6 v6 L6 v' L' := by
  have h1 := (h.one).app hb ho hg hn
  have h2 := h.move hb
  refine ⟨ho, Own.keep h2.own2 (fun b e => hg.block b (Own.lt h2.own2 e) (fun e' => h.ap b e'.symm e)), h1.new, h.new2, fun b e e' => ?_, h1.bel⟩
  rcases hn with e2 | e2 <;> rw [e2] at e
  · exact h.ap b e e'
  · injection e with e
    have := Own.lt h2.own2 e'
    omega
end
/-! ExpressDeep in plain words: what is to be checked. -/
def kA : ByteArray := ⟨#[97]⟩
def rep (l : List TokD) : Nat → List TokD
  | 0 => []
  | m + 1 => l ++ rep l m
theorem rep_next (l : List TokD) : ∀ m, rep l m ++ l = rep l (m + 1)
  | 0 => by simp [rep]
  | m + 1 => by
    show (l ++ rep l m) ++ l = l ++ rep l (m + 1)
    rw [List.append_assoc, rep_next l m]
theorem rep_len (l : List TokD) : ∀ m, (rep l m).length = m * l.length
  | 0 => by simp [rep]
  | m + 1 => by
    show (l ++ rep l m).length = _
    rw [List.length_append, rep_len l m, Nat.succ_mul, Nat.add_comm]
theorem rep_all {l : List TokD} (h : ∀ t ∈ l, t.s.size ≤ maxLen) : ∀ m, ∀ t ∈ rep l m, t.s.size ≤ maxLen
  | 0, t, ht => by cases ht
  | m + 1, t, ht => (List.mem_append.1 ht).elim (h t) (rep_all h m t)
/-- what stands ahead, and behind, of the number: one of it -/
def dF : Nat → List TokD
  | 0 => [signT gMinus]
  | 1 => [wordT kNot]
  | 3 => [signT gLb]
  | _ => []
def dB : Nat → List TokD
  | 2 => [signT gPlus, numT 2]
  | 3 => [signT gRb]
  | 4 => [signT gDot, wordT kA]
  | 5 => [signT gLp, signT gRp]
  | _ => []
def deepL (k m : Nat) : List TokD := rep (dF k) m ++ [numT 1] ++ rep (dB k) m
def deepAt (k m : Nat) : Nat := match k with
  | 2 => 81
  | 4 => 81
  | 5 => 81
  | 3 => (rep (dF k) m).length + 1 + 40
  | _ => (rep (dF k) m).length + 1
def roundL (m : Nat) : List TokD := rep [signT gLp] m ++ [numT 1] ++ rep [signT gRp] m
def deepOk (k m : Nat) : Bool := match parsed (deepL k m) with
  | none => false
  | some r =>
    if m < 40 then decide (r.1.e = 0) && decide (usedOf r = (deepL k m).length) && decide (m < (treeOf r.1.ns).length)
    else decide (r.1.e = 32) && decide (usedOf r = deepAt k m) && decide (nodeOf r = -1)
def roundOk (m : Nat) : Bool := match parsed (roundL m) with
  | none => false
  | some r => decide (r.1.e = 0) && decide (usedOf r = (roundL m).length) && decide ((treeOf r.1.ns).length = 1)
end Go.Proofs.YtjdcicopjipmnaaDoor
