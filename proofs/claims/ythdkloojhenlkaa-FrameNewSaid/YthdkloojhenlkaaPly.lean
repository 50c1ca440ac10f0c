/- A script's calls: what they leave of both frames; a slice of them. -/
import Derived.Test.YthdkloojhenlkaaBth
import Derived.Test.YthdkloojhenlkaaRfN
namespace Go.Proofs.Ythdkloojhenlkaa
open Go.RowKit

/-- what call number i (of eleven) leaves -/
def Fr.did (F : Fr) (i n : Int) (xs : List V) : Fr :=
  if i = 0 then { F with values := F.values ++ cutRow xs }
  else if i = 1 then { F with values := F.values.dropLast }
  else if i = 3 then F.took n
  else if i = 5 then F.stored n ((cutRow xs).head?.getD V.zero)
  else if i = 6 then F.cleared n
  else if i = 7 then { F with blocks := F.blocks ++ [(n, (F.values.length : Int))] }
  else if i = 8 then { F with blocks := F.blocks.dropLast }
  else if i = 9 then F.handled ((cutRow xs).head?.getD V.zero)
  else F

/-- so many values and blocks at most -/
structure Fr.Fits (F : Fr) (v b l : Nat) : Prop where
  v : F.values.length ≤ v
  b : F.blocks.length ≤ b
  l : F.locals.length + F.cells.length ≤ l

theorem Fr.did_fits {F : Fr} {v b l : Nat} (h : F.Fits v b l) (i n : Int) (xs : List V) : (F.did i n xs).Fits (v + 12) (b + 1) l := by
  obtain ⟨h1, h2, h3⟩ := h
  have hc := cutRow_length xs
  unfold Fr.did
  repeat' split
  all_goals try (exact ⟨by omega, by omega, h3⟩)
  · exact ⟨by simp; omega, by show F.blocks.length ≤ b + 1; omega, h3⟩
  · exact ⟨by simp; omega, by show F.blocks.length ≤ b + 1; omega, h3⟩
  · unfold Fr.took
    split
    · exact ⟨by simp; omega, by show F.blocks.length ≤ b + 1; omega, h3⟩
    · exact ⟨by omega, by omega, h3⟩
  · unfold Fr.stored
    split
    · exact ⟨by show F.values.length ≤ v + 12; omega, by show F.blocks.length ≤ b + 1; omega, by simpa using h3⟩
    · exact ⟨by omega, by omega, h3⟩
  · unfold Fr.cleared
    split
    · exact ⟨by show F.values.length ≤ v + 12; omega, by show F.blocks.length ≤ b + 1; omega, by simpa using h3⟩
    · exact ⟨by omega, by omega, h3⟩
  · exact ⟨by show F.values.length ≤ v + 12; omega, by simp; omega, h3⟩
  · exact ⟨by show F.values.length ≤ v + 12; omega, by simp; omega, h3⟩
  · unfold Fr.handled
    split
    · exact ⟨by simp; omega, by simp; omega, h3⟩
    · exact ⟨by omega, by omega, h3⟩

theorem both_any (w0 w : World) (S S' : Nat → Prop) (g y : Nat) (F : Fr) (d n : Int) (A : Option Addr) (m c : Nat) (xs : List V) (hT : Two w0 w S S' g y F F) (hA : RdV w A m c xs)
    (hf : F.Fits 900000 900000 1000) (hn64 : -9223372036854775808 ≤ n ∧ n ≤ 9223372036854775807) :
    Calls Try.prog 33 #[.pointer (some ⟨g, 0, none⟩), .pointer (some ⟨y, 0, none⟩), .agg #[.int .i64 d, .int .i64 n, .slice A m c]] w fun e w' => e = .returned (.bool true) ∧ Next w0 w S S' g y (F.did (d.tmod 11 % 11) n xs) (F.did (d.tmod 11 % 11) n xs) w' := by
  obtain ⟨h1, h2, h3⟩ := hf
  have hr1 : 0 ≤ d.tmod 11 % 11 := Int.emod_nonneg _ (by decide)
  have hr2 : d.tmod 11 % 11 < 11 := Int.emod_lt_of_pos _ (by decide)
  have hc : ∀ i : Int, 0 ≤ i → i < 11 → i = 0 ∨ i = 1 ∨ i = 2 ∨ i = 3 ∨ i = 4 ∨ i = 5 ∨ i = 6 ∨ i = 7 ∨ i = 8 ∨ i = 9 ∨ i = 10 := by omega
  rcases hc _ hr1 hr2 with e | e | e | e | e | e | e | e | e | e | e
  · rw [e]; exact both_0 w0 w S S' g y F d n A m c xs hT hA e h1 h2 h3 hn64
  · rw [e]; exact both_1 w0 w S S' g y F d n A m c xs hT hA e h1 h2 h3 hn64
  · rw [e]; exact both_2 w0 w S S' g y F d n A m c xs hT hA e h1 h2 h3 hn64
  · rw [e]; exact both_3 w0 w S S' g y F d n A m c xs hT hA e h1 h2 h3 hn64
  · rw [e]; exact both_4 w0 w S S' g y F d n A m c xs hT hA e h1 h2 h3 hn64
  · rw [e]; exact both_5 w0 w S S' g y F d n A m c xs hT hA e h1 h2 h3 hn64
  · rw [e]; exact both_6 w0 w S S' g y F d n A m c xs hT hA e h1 h2 h3 hn64
  · rw [e]; exact both_7 w0 w S S' g y F d n A m c xs hT hA e h1 h2 h3 hn64
  · rw [e]; exact both_8 w0 w S S' g y F d n A m c xs hT hA e h1 h2 h3 hn64
  · rw [e]; exact both_9 w0 w S S' g y F d n A m c xs hT hA e h1 h2 h3 hn64
  · rw [e]; exact both_10 w0 w S S' g y F d n A m c xs hT hA e h1 h2 h3 hn64

/-- The slice reads as calls: which, a number, values. -/
structure CallV where
  d : Int
  n : Int
  l : List V
def RdC (w : World) (A : Option Addr) (n c : Nat) (cs : List CallV) : Prop :=
  n ≤ c ∧ c ≤ 9223372036854775807 ∧ cs.length = n ∧ ∀ i (h : i < cs.length), ∃ b o A' n' c', A = some ⟨b, o, none⟩ ∧ b < w.heap.size ∧
    w.cell? ⟨b, o + i * 3, none⟩ = some (.int .i64 cs[i].d) ∧ w.cell? ⟨b, o + i * 3 + 1, none⟩ = some (.int .i64 cs[i].n) ∧ w.cell? ⟨b, o + i * 3 + 2, none⟩ = some (.slice A' n' c') ∧
    RdV w A' n' c' cs[i].l ∧ -9223372036854775808 ≤ cs[i].n ∧ cs[i].n ≤ 9223372036854775807
theorem RdC.new {w w' : World} {A : Option Addr} {n c : Nat} {cs : List CallV} (h : RdC w A n c cs) (hb : Below w.heap.size w w') : RdC w' A n c cs := by
  refine ⟨h.1, h.2.1, h.2.2.1, fun i hi => ?_⟩
  obtain ⟨b, o, A', n', c', e, hlt, q0, q1, q2, hr, hn⟩ := h.2.2.2 i hi
  exact ⟨b, o, A', n', c', e, Nat.lt_of_lt_of_le hlt hb.size, (hb.cell (p := ⟨b, o + i * 3, none⟩) hlt).trans q0, (hb.cell (p := ⟨b, o + i * 3 + 1, none⟩) hlt).trans q1, (hb.cell (p := ⟨b, o + i * 3 + 2, none⟩) hlt).trans q2, hr.new hb, hn⟩

theorem Fr.empty_fits : Fr.empty.Fits 0 0 3 := ⟨by decide, by decide, by decide⟩
theorem Fr.Fits.mono {F : Fr} {v b l v' b' l' : Nat} (h : F.Fits v b l) (h1 : v ≤ v') (h2 : b ≤ b') (h3 : l ≤ l') : F.Fits v' b' l' := ⟨Nat.le_trans h.v h1, Nat.le_trans h.b h2, Nat.le_trans h.l h3⟩
/-- the reference's frame is made beside the frame -/
theorem two_of {w0 w w1 w2 : World} {S : Nat → Prop} {g y : Nat} {F F' : Fr} (E : Env w0 w S g F) (h1 : Below w.heap.size w w1) (h2 : IsFr 82 86 w2 (Grew (fun _ => False) w1 w2) y F') (h3 : Below w1.heap.size w1 w2) :
    ∃ S', Two w0 w2 S S' g y F F' := by
  have h4 := h1.trans (h3.mono h1.size)
  have hs := E.bel.size
  have hs1 := h1.size
  refine ⟨_, E.fr.new h4, h2, fun i hi hs' => ?_, E.own, fun i hi => ?_, E.bel.trans (h4.mono hs)⟩
  · have := E.lt hi
    rcases hs' with h | h
    · exact h
    · omega
  · rcases hi with h | h
    · exact h.elim
    · omega
end Go.Proofs.Ythdkloojhenlkaa
