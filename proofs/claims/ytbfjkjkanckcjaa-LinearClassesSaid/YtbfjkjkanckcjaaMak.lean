/- make: rows of rows, of numbers, of marks. -/
import Derived.Test.YtbfjkjkanckcjaaNum
import Derived.Laws.MakeOwn
namespace Go.Proofs.Ytbfjkjkanckcjaa
open Go.RowKit

theorem run_make_rowN {P : Program} (t e : TypeId) (i : TypeInfo) (z : Value) (ht : P.underlying t = some (.slice e)) (hi : P.info? e = some i) (hz : i.zero = some z)
    (kl kc : IntKind) (n c : Nat) (hnc : n ≤ c) (hbytes : i.bytes * c ≤ 281474976710656) (h63 : c ≤ 9223372036854775807) (w : World) :
    (Instr.makeSlice t (.int kl (n : Int)) (.int kc (c : Int))).run P w = .ok (.slice (some ⟨w.heap.size, 0, none⟩) n c) (w.alloc (.cells (madeCells z.cells (c * i.size)) e)) := by
  have hb : (i.bytes : Int) * (c : Int) ≤ 281474976710656 := by
    have h : ((i.bytes * c : Nat) : Int) ≤ 281474976710656 := by omega
    rwa [Int.natCast_mul] at h
  have hr := run_make (P := P) w t e i z ht hi hz kl kc n c (by omega) (by omega) hb (by omega)
  simp only [Int.toNat_natCast] at hr
  exact hr
theorem made_one (z : Value) (n : Nat) : madeCells #[z] n = (List.replicate n z).toArray := by
  apply Array.toList_inj.1
  rw [toList_madeCells_one]
theorem make_RN (n : Nat) (hn : n ≤ 1000000) (w : World) : (Instr.makeSlice 33 (.int .i64 0) (.int .i64 (n : Int))).run Try.prog w = .ok (.slice (some ⟨w.heap.size, 0, none⟩) 0 n) (w.alloc (.cells (List.replicate n (.slice none 0 0)).toArray 40)) := by
  obtain ⟨i0, hi, hz0, hz1, hz2⟩ := info_parts info_RowI
  have := run_make_rowN (P := Try.prog) 33 40 i0 _ Try.underlying33 hi hz0 .i64 .i64 0 n (Nat.zero_le _) (by rw [hz2]; omega) (by omega) w
  rw [hz1, Nat.mul_one] at this
  rw [← made_one]
  exact this
theorem make_N (n : Nat) (hn : n ≤ 1000000) (w : World) : (Instr.makeSlice 40 (.int .i64 (n : Int)) (.int .i64 (n : Int))).run Try.prog w = .ok (.slice (some ⟨w.heap.size, 0, none⟩) n n) (w.alloc (.cells (List.replicate n (.int .i64 0)).toArray 3)) := by
  obtain ⟨i0, hi, hz0, hz1, hz2⟩ := info_parts info_Int
  have := run_make_rowN (P := Try.prog) 40 3 i0 _ Try.underlying40 hi hz0 .i64 .i64 n n (Nat.le_refl _) (by rw [hz2]; omega) (by omega) w
  rw [hz1, Nat.mul_one] at this
  rw [← made_one]
  exact this
theorem info_B : (Try.prog.info? 4).map (fun i => (i.zero, i.size, i.bytes)) = some (some (.bool false), 1, 1) := by kernel_rfl
theorem make_B (n : Nat) (hn : n ≤ 1000000) (w : World) : (Instr.makeSlice 52 (.int .i64 (n : Int)) (.int .i64 (n : Int))).run Try.prog w = .ok (.slice (some ⟨w.heap.size, 0, none⟩) n n) (w.alloc (.cells (List.replicate n (.bool false)).toArray 4)) := by
  obtain ⟨i0, hi, hz0, hz1, hz2⟩ := info_parts info_B
  have := run_make_rowN (P := Try.prog) 52 4 i0 _ Try.underlying52 hi hz0 .i64 .i64 n n (Nat.le_refl _) (by rw [hz2]; omega) (by omega) w
  rw [hz1, Nat.mul_one] at this
  rw [← made_one]
  exact this
/-- a new row that has room -/
theorem room_R (w : World) (n : Nat) (hn : n ≤ 1000000) : OwnR 40 (w.alloc (.cells (List.replicate n (.slice none 0 0)).toArray 40)) (.slice (some ⟨w.heap.size, 0, none⟩) 0 n) [] := by
  refine ⟨rfl, .inr ⟨_, n, _, rfl, heap_alloc_new w _, Nat.zero_le _, by omega, ?_, ?_⟩⟩
  · simp
  · simp [rcs]
theorem made_N (w : World) (n : Nat) (hn : n ≤ 1000000) : OwnI 3 (w.alloc (.cells (List.replicate n (.int .i64 0)).toArray 3)) (.slice (some ⟨w.heap.size, 0, none⟩) n n) (List.replicate n 0) := by
  have := Own.made (sz := 1) (t := 3) w (List.replicate n (Value.int .i64 0)).toArray n (by omega) (by simp)
  unfold OwnI
  rw [List.length_replicate]
  simpa [ics] using this
end Go.Proofs.Ytbfjkjkanckcjaa
