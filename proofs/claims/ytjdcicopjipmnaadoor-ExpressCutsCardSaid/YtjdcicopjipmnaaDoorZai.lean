/- Rows of tokens side by side; told, said outright. -/
import Derived.Test.YtjdcicopjipmnaaDoorZag
namespace Go.Proofs.YtjdcicopjipmnaaDoor
open Go.RowKit
set_option linter.unusedVariables false
set_option linter.unusedSimpArgs false
theorem told_is {w : World} {A : Option Addr} {n c : Nat} {L : List TokD} {r : PS × Int} {a b e : Int} {T : List NodeD} {m : Nat} (hm : T.length = m) (hr : parsed L = some r) (ha : nodeOf r = a) (hb : usedOf r = b) (he : r.1.e = e) (hT : treeOf r.1.ns = T) (hl : Rd w A n c 4 (L.flatMap tcs)) (hla : ∀ b o, A = some ⟨b, o, none⟩ → b < w.heap.size) (hn : L.length = n) (hbig : n ≤ 274877906944)
  (hts : ∀ t ∈ L, t.s.size ≤ maxLen) (htab : Asp w) :
  Calls Tryd.prog 16 #[.slice A n c] w fun e' w' => ∃ A9 c9, e' = .returned (.agg #[.int .i64 a, .int .i64 b, .int .i64 e, .slice A9 m c9]) ∧ RowN (fun _ => False) w' (.slice A9 m c9) T ∧ Below w.heap.size w w' := by
 subst ha hb he hT hm
 refine (told_any hl hla hn hbig hts htab hr).mono ?_
 rintro e' w' ⟨v, rfl, h1, h2⟩
 obtain ⟨A9, c9, rfl, _⟩ := h1.rdT
 exact ⟨A9, c9, rfl, h1, h2⟩
theorem byte_of {n : Int} (h : (Lit.int .u8 n).wf = true) : ∃ b : Nat, n = (b : Int) ∧ b < 256 := by
 have h2 : (decide (0 ≤ n) && decide (n ≤ 255)) = true := h
 simp only [Bool.and_eq_true, decide_eq_true_eq] at h2
 exact ⟨n.toNat, by omega, by omega⟩
theorem OwnT.rd_ {w : World} {A : Option Addr} {n c : Nat} {L : List TokD} (h : OwnT w (.slice A n c) L) : Rd w A L.length c 4 (L.flatMap tcs) := by
 obtain ⟨A', c', e, hr, _⟩ := Own.rd h
 injection e with e1 e2 e3
 subst e1 e3
 exact hr
theorem OwnT.old {w : World} {A : Option Addr} {n c : Nat} {L : List TokD} (h : OwnT w (.slice A n c) L) : ∀ b o, A = some ⟨b, o, none⟩ → b < w.heap.size := by
 obtain ⟨A', c', e, hr, hA⟩ := Own.rd h
 injection e with e1 e2 e3
 subst e1 e3
 exact fun b o e => Own.lt h (hA b o e)
def kA : ByteArray := ⟨#[97]⟩
def dB : Nat → List TokD
 | 2 => [signT gPlus, numT 2]
 | 3 => [signT gRb]
 | 4 => [signT gDot, wordT kA]
 | 5 => [signT gLp, signT gRp]
 | _ => []
end Go.Proofs.YtjdcicopjipmnaaDoor
