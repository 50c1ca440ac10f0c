/- take, need. -/
import Derived.Test.YtjdcicopjipmnaaDoorAny
namespace Go.Proofs.YtjdcicopjipmnaaDoor
open Go.RowKit
set_option linter.unusedVariables false
set_option linter.unusedSimpArgs false
set_option maxRecDepth 100000 in
set_option maxHeartbeats 2000000 in
theorem take_any {w : World} {pb bb mb n c : Nat} {A : Option Addr} {s : PS} {L : List TokD} (hP : Blk w pb 98 (pcs bb (.slice A n c) mb s)) (hL : Rd w A n c 4 (L.flatMap tcs)) (hn : L.length = n) (t : ByteArray) (ht : t.size ≤ maxLen) (hs : s.at_ + 1 ≤ 9223372036854775807) (htab : Asp w) :
    Calls Tryd.prog 77 #[.pointer (some ⟨pb, 0, none⟩), .string t] w fun e w' => e = .returned (.bool (takeP L t s).2) ∧ Blk w' pb 98 (pcs bb (.slice A n c) mb (takeP L t s).1) ∧ Mod (· = pb) w w' := by
  have hb : Below w.heap.size w (w.alloc (.cells #[.string t] 9)) := (by repeat (first | exact Below.refl _ _ | assumption | refine Below.setCell ?_ (by first | (simp; done) | (simp; omega) | omega) _ | refine below_drewN ?_ _ | refine Below.drew ?_ | refine Below.alloc ?_ (by first | (simp; done) | (simp; omega) | omega) _))
  have hr : Rd (w.alloc (.cells #[.string t] 9)) (some ⟨w.heap.size, 0, none⟩) 1 1 1 ([t].map Value.string) := by
    refine ⟨Nat.le_refl _, by omega, rfl, fun _ => ⟨w.heap.size, 0, rfl, by simp, fun j u hj => ?_⟩⟩
    rw [Nat.zero_add, (Blk.new w 9 _).cell]
    simpa using hj
  have K := Lib.hid (any_any (hP.bel hb) (hL.bel hb) hn hr rfl (by intro x hx; obtain rfl := List.mem_singleton.1 hx; exact ht) hs (htab.below hb))
  have HB := Lib.hid hb
  unfold takeP
  clear hP hL hr hb htab
  go_enter Tryd.func77, Tryd.ntmps77
  go_wp2_with (go_at_call 94; refine K.out.mono ?_; rintro e w1 ⟨rfl, hp, hm⟩; have HP := Lib.hid hp; have HM := Lib.hid hm; clear hp hm)
  go_ret
  exact ⟨rfl, HP.out, Mod.trans (Mod.new HB.out) HM.out fun _ _ h => h⟩
end Go.Proofs.YtjdcicopjipmnaaDoor
