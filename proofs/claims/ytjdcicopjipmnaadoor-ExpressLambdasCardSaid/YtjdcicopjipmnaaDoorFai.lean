/- fail. -/
import Derived.Test.YtjdcicopjipmnaaDoorIsx
namespace Go.Proofs.YtjdcicopjipmnaaDoor
open Go.RowKit
set_option linter.unusedVariables false
set_option linter.unusedSimpArgs false
set_option maxRecDepth 100000 in
set_option maxHeartbeats 2000000 in
theorem fail_any {w : World} {pb bb mb : Nat} {lv : Value} {s : PS} (hP : Blk w pb 98 (pcs bb lv mb s)) (e at_ : Int) :
    Calls Tryd.prog 96 #[.pointer (some ⟨pb, 0, none⟩), .int .i64 e, .int .i64 at_] w fun r w' => r = .returned (.int .i64 (-1)) ∧ Blk w' pb 98 (pcs bb lv mb (failP s e at_)) ∧ Mod (· = pb) w w' := by
  have c4 := hP.cell 4
  have c3 := hP.cell 3
  have hlt := hP.lt
  have f4 := hP.frozen 4
  have f3 := hP.frozen 3
  have HP := Lib.hid hP
  simp only [pcs, List.getElem?_toArray, List.getElem?_cons_zero, List.getElem?_cons_succ] at c4 c3
  clear hP
  by_cases he : s.e = 0
  · rw [he] at c4
    go_enter Tryd.func96, Tryd.ntmps96
    go_wp2_with fail
    go_ret
    refine ⟨rfl, ?_, Mod.setCell (S := (· = pb)) (p := ⟨pb, 3, none⟩) (Mod.setCell (S := (· = pb)) (p := ⟨pb, 4, none⟩) (Mod.refl _ _) (fun _ => rfl) _) (fun _ => rfl) _⟩
    have h := (HP.out.set_ 4 (.int .i64 e)).set_ 3 (.int .i64 at_)
    unfold failP
    rw [if_pos he]
    exact h
  · have he' : (s.e == 0) = false := by simpa using he
    go_enter Tryd.func96, Tryd.ntmps96
    go_wp2_with fail
    go_ret
    unfold failP
    rw [if_neg he]
    exact ⟨rfl, HP.out, Mod.refl _ _⟩
end Go.Proofs.YtjdcicopjipmnaaDoor
