/- plain: the document's example. -/
import Derived.Test.YtcfelfhjhkenaaaDoorTxw
namespace Go.Proofs.YtcfelfhjhkenaaaDoor
open Go.RowKit
attribute [local go_sem] Oper.semAt_some

def plainD : CodeD := ⟨⟨#[109]⟩, 1, 0, 0, false, [], [], [], [], [⟨2, 5, ⟨#[]⟩⟩], [(1, 0), (52, 0)]⟩
def badD : CodeD := ⟨⟨#[]⟩, -1, 0, 0, false, [], [], [], [], [], []⟩
def plainB : List UInt8 := [75, 82, 65, 73, 84, 49, 1, 1, 109, 1, 0, 0, 0, 0, 0, 0, 0, 1, 2, 0, 0, 0, 0, 0, 0, 0, 5, 2, 1, 0, 52, 0]
theorem rdS_nil (w : World) : RdS w none 0 0 [] := ⟨rfl, Rd.nil_.2 (by omega)⟩
theorem rdF_nil {α : Type} (f : α → List Value) (m : Nat) (w : World) : RdF f m w none 0 0 [] := ⟨rfl, Rd.nil_.2 (by omega)⟩
theorem rd_blk {w : World} {g : Nat} {t : TypeId} {cs : Array Value} (h : Blk w g t cs) (n m : Nat) (hn : n ≤ 9223372036854775807) (hs : cs.size = n * m) : Rd w (some ⟨g, 0, none⟩) n n m cs.toList :=
  ⟨Nat.le_refl _, hn, by rw [Array.length_toList, hs], fun _ => ⟨g, 0, rfl, h.lt, fun j u hu => by rw [Nat.zero_add, h.cell]; simpa using hu⟩⟩
theorem prog_one {w : World} {A : Option Addr} {x : CodeD} {cs : List Value} (h : CodeAt w x cs) (hl : cs.length = 11) (hr : Rd w A 1 1 11 cs) : ProgAt w A 1 1 [x] := by
  refine ⟨rfl, [cs], rfl, fun y hy => ?_, fun i y ys h1 h2 => ?_, ?_⟩
  · have : y = cs := by simpa using hy
    rw [this]; exact hl
  · cases i with
    | zero =>
      obtain rfl : x = y := by simpa using h1
      obtain rfl : cs = ys := by simpa using h2
      exact h
    | succ i => simp at h1
  · have e : [cs].flatMap id = cs := List.append_nil cs
    rw [e]; exact hr

theorem plain_at (w : World) : ProgAt (((w.alloc (.cells #[.int .i64 2, .int .i64 5, .string ⟨#[]⟩] 77)).alloc (.cells #[.int .i64 1, .int .i64 0, .int .i64 52, .int .i64 0] 64)).alloc (.cells #[.string ⟨#[109]⟩, .int .i64 1, .int .i64 0, .int .i64 0, .bool false, .slice none 0 0, .slice none 0 0, .slice none 0 0, .slice none 0 0, .slice (some ⟨w.heap.size, 0, none⟩) 1 1, .slice (some ⟨w.heap.size + 1, 0, none⟩) 2 2] 49)) (some ⟨w.heap.size + 1 + 1, 0, none⟩) 1 1 [plainD] := by
  have h1 := Blk.new w 77 #[.int .i64 2, .int .i64 5, .string ⟨#[]⟩]
  generalize hW1 : w.alloc (.cells #[.int .i64 2, .int .i64 5, .string ⟨#[]⟩] 77) = W1 at *
  have hz1 : W1.heap.size = w.heap.size + 1 := by rw [← hW1]; simp
  have h2 := Blk.new W1 64 #[.int .i64 1, .int .i64 0, .int .i64 52, .int .i64 0]
  have b2 : Below W1.heap.size W1 (W1.alloc (.cells #[.int .i64 1, .int .i64 0, .int .i64 52, .int .i64 0] 64)) := (by repeat (first | exact Below.refl _ _ | assumption | refine Below.setCell ?_ (by first | (simp; done) | (simp; omega) | omega) _ | refine below_drewN ?_ _ | refine Below.drew ?_ | refine Below.alloc ?_ (by first | (simp; done) | (simp; omega) | omega) _))
  rw [hz1] at h2
  have h1' := h1.new' b2
  generalize hW2 : W1.alloc (.cells #[.int .i64 1, .int .i64 0, .int .i64 52, .int .i64 0] 64) = W2 at *
  have hz2 : W2.heap.size = w.heap.size + 1 + 1 := by rw [← hW2]; simp [hz1]
  have h3 := Blk.new W2 49 #[.string ⟨#[109]⟩, .int .i64 1, .int .i64 0, .int .i64 0, .bool false, .slice none 0 0, .slice none 0 0, .slice none 0 0, .slice none 0 0, .slice (some ⟨w.heap.size, 0, none⟩) 1 1, .slice (some ⟨w.heap.size + 1, 0, none⟩) 2 2]
  have b3 : Below W2.heap.size W2 (W2.alloc (.cells #[.string ⟨#[109]⟩, .int .i64 1, .int .i64 0, .int .i64 0, .bool false, .slice none 0 0, .slice none 0 0, .slice none 0 0, .slice none 0 0, .slice (some ⟨w.heap.size, 0, none⟩) 1 1, .slice (some ⟨w.heap.size + 1, 0, none⟩) 2 2] 49)) := (by repeat (first | exact Below.refl _ _ | assumption | refine Below.setCell ?_ (by first | (simp; done) | (simp; omega) | omega) _ | refine below_drewN ?_ _ | refine Below.drew ?_ | refine Below.alloc ?_ (by first | (simp; done) | (simp; omega) | omega) _))
  rw [hz2] at h3
  have h1'' := h1'.new' b3
  have h2' := h2.new' b3
  refine prog_one ⟨none, 0, 0, none, 0, 0, none, 0, 0, none, 0, 0, some ⟨w.heap.size, 0, none⟩, 1, 1, some ⟨w.heap.size + 1, 0, none⟩, 2, 2, rfl, rdS_nil _, rdS_nil _, rdS_nil _, rdS_nil _, ⟨rfl, ?_⟩, ⟨rfl, ?_⟩⟩ rfl ?_
  · exact rd_blk h1'' 1 3 (by omega) rfl
  · exact rd_blk h2' 2 2 (by omega) rfl
  · exact rd_blk h3 1 11 (by omega) rfl
theorem bad_at (w : World) : ProgAt (w.alloc (.cells #[.string ⟨#[]⟩, .int .i64 (-1), .int .i64 0, .int .i64 0, .bool false, .slice none 0 0, .slice none 0 0, .slice none 0 0, .slice none 0 0, .slice none 0 0, .slice none 0 0] 49)) (some ⟨w.heap.size, 0, none⟩) 1 1 [badD] :=
  prog_one ⟨none, 0, 0, none, 0, 0, none, 0, 0, none, 0, 0, none, 0, 0, none, 0, 0, rfl, rdS_nil _, rdS_nil _, rdS_nil _, rdS_nil _, rdF_nil _ _ _, rdF_nil _ _ _⟩ rfl (rd_blk (Blk.new w 49 _) 1 11 (by omega) rfl)

set_option maxRecDepth 100000 in
set_option maxHeartbeats 1000000 in
theorem plain_any (w : World) : Calls Tryd.prog 26 #[] w fun e w' => (∃ A, e = .returned (.slice A 1 1) ∧ ProgAt w' A 1 1 [plainD]) ∧ Below w.heap.size w w' := by
  go_enter Tryd.func26, Tryd.ntmps26
  go_wp2_with fail
  go_ret
  exact ⟨⟨_, rfl, plain_at w⟩, (by repeat (first | exact Below.refl _ _ | assumption | refine Below.setCell ?_ (by first | (simp; done) | (simp; omega) | omega) _ | refine below_drewN ?_ _ | refine Below.drew ?_ | refine Below.alloc ?_ (by first | (simp; done) | (simp; omega) | omega) _))⟩
end Go.Proofs.YtcfelfhjhkenaaaDoor
