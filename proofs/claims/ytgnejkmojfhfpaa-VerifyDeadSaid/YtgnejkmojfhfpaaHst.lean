/- verify.Heights: how its loop begins. -/
import Derived.Test.YtgnejkmojfhfpaaHmk
namespace Go.Proofs.Ytgnejkmojfhfpaa
open Go.RowKit
set_option linter.unusedVariables false
set_option linter.unusedSimpArgs false

theorem start_at (w : World) (j : Nat) (hj : 0 < j) :
    FlAt w j w.heap.size (w.heap.size + 1) (((w.alloc (.cells ((Array.replicate j (.pointer none)).setIfInBounds 0 (.pointer (some ⟨w.heap.size + 1 + 1, 0, none⟩))) 65)).alloc (.cells ((Array.replicate j (.bool false)).setIfInBounds 0 (.bool true)) 4)).alloc (.cells #[.int .i64 0, .pointer none] 68))
      (startF j) ((List.replicate j none).set 0 (some ⟨w.heap.size + 1 + 1, 0, none⟩)) := by
  have z1 : (w.alloc (.cells ((Array.replicate j (.pointer none)).setIfInBounds 0 (.pointer (some ⟨w.heap.size + 1 + 1, 0, none⟩))) 65)).heap.size = w.heap.size + 1 := by simp
  have z2 : ((w.alloc (.cells ((Array.replicate j (.pointer none)).setIfInBounds 0 (.pointer (some ⟨w.heap.size + 1 + 1, 0, none⟩))) 65)).alloc (.cells ((Array.replicate j (.bool false)).setIfInBounds 0 (.bool true)) 4)).heap.size = w.heap.size + 1 + 1 := by simp
  have b1 := ((Blk.new w 65 ((Array.replicate j (.pointer none)).setIfInBounds 0 (.pointer (some ⟨w.heap.size + 1 + 1, 0, none⟩)))).alloc (.cells ((Array.replicate j (.bool false)).setIfInBounds 0 (.bool true)) 4)).alloc (.cells #[.int .i64 0, .pointer none] 68)
  have b2 := (Blk.new (w.alloc (.cells ((Array.replicate j (.pointer none)).setIfInBounds 0 (.pointer (some ⟨w.heap.size + 1 + 1, 0, none⟩))) 65)) 4 ((Array.replicate j (.bool false)).setIfInBounds 0 (.bool true))).alloc (.cells #[.int .i64 0, .pointer none] 68)
  have b3 := Blk.new ((w.alloc (.cells ((Array.replicate j (.pointer none)).setIfInBounds 0 (.pointer (some ⟨w.heap.size + 1 + 1, 0, none⟩))) 65)).alloc (.cells ((Array.replicate j (.bool false)).setIfInBounds 0 (.bool true)) 4)) 68 #[.int .i64 0, .pointer none]
  rw [z1] at b2
  rw [z2] at b3
  clear z1 z2
  refine ⟨(by repeat (first | exact Below.refl _ _ | assumption | refine Below.setCell ?_ (by first | (simp; done) | (simp; omega) | omega) _ | refine below_drewN ?_ _ | refine Below.drew ?_ | refine Below.alloc ?_ (by first | (simp; done) | (simp; omega) | omega) _)), Nat.le_refl _, by omega, by simp [startF], by simp [startF], by simp, ?_, ?_, fun i o q ho hq => ?_⟩
  · rw [show (((List.replicate j none).set 0 (some ⟨w.heap.size + 1 + 1, 0, none⟩)).map Value.pointer).toArray = (Array.replicate j (.pointer none)).setIfInBounds 0 (.pointer (some ⟨w.heap.size + 1 + 1, 0, none⟩)) by
      apply Array.ext'
      simp [List.map_set]]
    exact b1
  · rw [show (bvs (startF j).op).toArray = (Array.replicate j (.bool false)).setIfInBounds 0 (.bool true) by
      apply Array.ext'
      simp [bvs, startF, List.map_set]]
    exact b2
  · simp only [startF, List.getElem?_set, List.length_replicate] at ho hq
    by_cases e : 0 = i
    · subst e
      simp only [if_true, hj] at ho hq
      cases ho
      cases hq
      exact ⟨_, 0, none, rfl, b3.lt, by omega, by omega, b3.cell 0, b3.cell 1, rfl⟩
    · rw [if_neg e, List.getElem?_replicate] at ho hq
      split at ho
      · cases ho
        rename_i hlt
        rw [if_pos hlt] at hq
        cases hq
        rfl
      · cases ho
end Go.Proofs.Ytgnejkmojfhfpaa
