/- Merge's callees. -/
import Derived.Test.YtbfjkjkanckcjaaMrS
import Derived.LoopN
import Derived.WalkMore
namespace Go.Proofs.Ytbfjkjkanckcjaa
open Go.RowKit Go.Shelf
attribute [local go_sem] Oper.semAt_some

set_option maxHeartbeats 400000 in
theorem clone_any (A : Option Addr) (n c : Nat) (rs : List SlI) (w : World) (hr : RdR w A n c rs) (hn : n ≤ 1000000) :
    Calls Try.prog 28 #[.slice A n c] w fun e w' => ∃ v, e = .returned v ∧ NewR 25 w w' v rs := by
  have hq := fun (W : World) (a : Option Addr) (l k : Nat) => Lib.run_eql_slice_nil (P := Try.prog) W 22 25 a l k 0 0 Try.underlying22
  cases A with
  | none =>
    have h0 : n = 0 := by
      rcases Nat.eq_zero_or_pos n with h | h
      · exact h
      · obtain ⟨b, o, e, _⟩ := hr.2.2.2.2 h
        cases e
    subst h0
    obtain rfl : rs = [] := List.eq_nil_of_length_eq_zero hr.1
    go_enter Try.func28, Try.ntmps28
    go_wp2
    go_ret
    exact ⟨_, rfl, NewR.nil_ 25 w⟩
  | some a =>
    have hb : Below w.heap.size w (w.alloc (.cells #[] 25)) := (by repeat (first | exact Below.refl _ _ | assumption | refine Below.setCell ?_ (by first | (simp; done) | (simp; omega) | omega) _ | refine below_drewN ?_ _ | refine Below.drew ?_ | refine Below.alloc ?_ (by first | (simp; done) | (simp; omega) | omega) _))
    go_enter Try.func28, Try.ntmps28
    go_wp2_with (at_builtin; refine wpList_appendR _ rfl _ _ rfl (.slice (some ⟨w.heap.size, 0, none⟩) 0 0) [] rfl (NewR.empty 25 w).own (some a) n c rs rfl (hr.new hb) (by simp; omega) ?_; intro v w1 hv hg hb)
    go_ret
    exact ⟨v, rfl, by simpa using (NewR.empty 25 w).app hv hg hb⟩

set_option maxHeartbeats 400000 in
theorem heads_any (A : Option Addr) (n c : Nat) (w : World) :
    Calls Try.prog 29 #[.slice A n c] w fun e w' => e = .returned (.func (.func 35) #[] #[.pointer (some ⟨w.heap.size, 0, none⟩)]) ∧ w' = w.alloc (.cells #[.slice A n c] 22) := by
  go_enter Try.func29, Try.ntmps29
  go_wp2
  go_ret
  exact ⟨rfl, rfl⟩

theorem heads_stops (F : Fence) (n : Nat) (h35 : F.fn 35) (hro : F.round = none) (hn : 1 ≤ n) (B e n₀ m c : Nat) (A : Option Addr) (rs : List SlI) (w : World) (hn₀ : n₀ ≤ w.heap.size)
    (hK : ∀ W', KeepsBut e n₀ w W' → W'.cell? ⟨B, 0, none⟩ = some (.slice A m c) ∧ RdR W' A m c rs ∧ AllOk W' rs) :
    SeqStopsK F n Try.prog 35 #[.pointer (some ⟨B, 0, none⟩)] (fun x : Int => #[Value.int .i64 x]) (KeepsBut e n₀) (fun ys => ys = Lin.heads (nums rs)) (fun pre => pre <+: Lin.heads (nums rs)) (Lin.heads (nums rs)).length w :=
  fun l J Jx W hW _ _ hY h0 => heads1_in F n h35 hro hn l B e n₀ m c A rs J Jx hY W (fun W' h => hK W' (KeepsBut.trans ⟨hW.size, fun i hi _ => hW.block i (by omega)⟩ h)) h0

end Go.Proofs.Ytbfjkjkanckcjaa
