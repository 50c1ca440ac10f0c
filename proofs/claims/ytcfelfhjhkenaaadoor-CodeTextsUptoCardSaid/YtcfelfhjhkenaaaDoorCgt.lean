/- caught. -/
import Derived.Test.YtcfelfhjhkenaaaDoorEnc
import Derived.Tactics2
import Derived.Defers
import Derived.Recover
namespace Go.Proofs.YtcfelfhjhkenaaaDoor

set_option maxRecDepth 20000 in
set_option maxHeartbeats 400000 in
theorem caught_panics (p : Addr) (x0 x : Int) (w : World) (hc : w.cell? p = some (.int .i64 x0)) (hz : w.frozen? p = false) :
    CallsD Tryd.prog 23 #[.pointer (some p)] (.panicking [{ v := .iface 24 (.int .i64 x), recovered := false }]) w fun e u' w' =>
      e = .returned (.tuple #[]) ∧ u' = .panicking [{ v := .iface 24 (.int .i64 x), recovered := true }] ∧ w' = w.setCell p (.int .i64 x) := by
  have hta : ∀ (w : World), (Instr.typeAssert (.iface 24 (.int .i64 x)) 20 24 true).run Tryd.prog w = .ok (.tuple #[.int .i64 x, .bool true]) w := fun w => by kernel_rfl
  refine callsD_of_wpS Tryd.func23 rfl fun c₀ cs hu => ?_
  apply wpS_seq
  apply wpS_region
  simp [wpOpsS, go_sem, recoverD, hu, Tryd.ntmps23, Exit.thenS]
  refine wpS_of_wp ?_
  simp only [Array.replicate_succ, Array.replicate_zero, List.push_toArray, List.append_toArray, List.nil_append, List.cons_append, List.setIfInBounds_toArray, List.set_cons_succ, List.set_cons_zero]
  go_wp2_with fail
  simp [bodyPostS, results, Tryd.results23]
set_option maxRecDepth 20000 in
set_option maxHeartbeats 400000 in
theorem caught_idle (p : Addr) (w : World) :
    CallsD Tryd.prog 23 #[.pointer (some p)] .returning w fun e u' w' => e = .returned (.tuple #[]) ∧ u' = .returning ∧ w' = w := by
  refine callsD_of_wpS Tryd.func23 rfl fun c₀ cs hu => ?_
  apply wpS_seq
  apply wpS_region
  simp [wpOpsS, go_sem, recoverD, hu, Tryd.ntmps23, Exit.thenS]
  refine wpS_of_wp ?_
  simp only [Array.replicate_succ, Array.replicate_zero, List.push_toArray, List.append_toArray, List.nil_append, List.cons_append, List.setIfInBounds_toArray, List.set_cons_succ, List.set_cons_zero]
  go_wp2_with fail
  cases c₀
  simp_all [bodyPostS, results, Tryd.results23]
end Go.Proofs.YtcfelfhjhkenaaaDoor
