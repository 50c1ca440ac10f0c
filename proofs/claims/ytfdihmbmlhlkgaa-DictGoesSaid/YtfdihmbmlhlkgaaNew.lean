/- one, yes, New. -/
import Derived.Test.YtfdihmbmlhlkgaaPuu
namespace Go.Proofs.Ytfdihmbmlhlkgaa
open Go.RowKit

theorem one_any (n : Int) (w : World) :
    Calls Try.prog 30 #[.int .i64 n] w fun e w' => e = .returned (V.mk 2 n ⟨#[]⟩).v ∧ Below w.heap.size w w' := by
  go_enter Try.func30, Try.ntmps30
  go_wp2
  exact bodyPost_ret (v := (V.mk 2 n ⟨#[]⟩).v) (by simp [results, Try.results30, go_sem]; rfl) rfl ⟨rfl, (by repeat (first | exact Below.refl _ _ | assumption | refine Below.setCell ?_ (by first | (simp; done) | (simp; omega) | omega) _ | refine below_drewN ?_ _ | refine Below.drew ?_ | refine Below.alloc ?_ (by first | (simp; done) | (simp; omega) | omega) _))⟩
theorem yes_any (w : World) :
    Calls Try.prog 31 #[] w fun e w' => e = .returned (V.mk 1 1 ⟨#[]⟩).v ∧ Below w.heap.size w w' := by
  go_enter Try.func31, Try.ntmps31
  go_wp2
  exact bodyPost_ret (v := (V.mk 1 1 ⟨#[]⟩).v) (by simp [results, Try.results31, go_sem]; rfl) rfl ⟨rfl, (by repeat (first | exact Below.refl _ _ | assumption | refine Below.setCell ?_ (by first | (simp; done) | (simp; omega) | omega) _ | refine below_drewN ?_ _ | refine Below.drew ?_ | refine Below.alloc ?_ (by first | (simp; done) | (simp; omega) | omega) _))⟩
theorem new_any (w : World) :
    Calls Try.prog 19 #[] w fun e w' => ∃ g, e = .returned (.pointer (some ⟨g, 0, none⟩)) ∧ IsDict w' (Grew (fun _ => False) w w') g [] ∧ Below w.heap.size w w' := by
  have hmk := run_makeMap (P := Try.prog) 68 w
  go_enter Try.func19, Try.ntmps19
  go_wp2
  go_ret
  refine ⟨_, rfl, ⟨w.heap.size, .slice none 0 0, [], fun _ => none, ⟨?_, ?_, ?_, ?_, rfl, ?_, ?_, ?_, Nat.lt_succ_self _⟩, ?_, ?_, ?_, ?_⟩, (by repeat (first | exact Below.refl _ _ | assumption | refine Below.setCell ?_ (by first | (simp; done) | (simp; omega) | omega) _ | refine below_drewN ?_ _ | refine Below.drew ?_ | refine Below.alloc ?_ (by first | (simp; done) | (simp; omega) | omega) _))⟩
  · have hh := Blk.new (w.alloc (.map #[] 0)) 71 #[.map (some w.heap.size), .slice none 0 0]
    rw [World.size_alloc] at hh
    exact hh
  · exact (MapAt.made w).new (by repeat (first | exact Below.refl _ _ | assumption | refine Below.setCell ?_ (by first | (simp; done) | (simp; omega) | omega) _ | refine below_drewN ?_ _ | refine Below.drew ?_ | refine Below.alloc ?_ (by first | (simp; done) | (simp; omega) | omega) _))
  · exact Own.nil_ _ _ _
  · intro k i
    constructor
    · intro e; cases e
    · rintro ⟨x, hx⟩; simp at hx
  · intro p hp; cases hp
  · exact Nat.zero_le _
  · exact Nat.zero_le _
  · exact .inr ⟨by simp, by simp⟩
  · exact .inr ⟨by simp, by simp; omega⟩
  · intro b e; simp [Value.ownBlock] at e
  · intro i hi
    rcases hi with h | h
    · cases h
    · exact h.2
end Go.Proofs.Ytfdihmbmlhlkgaa
