/- or, and, sum, term: parts with operators between. -/
import Derived.Test.YtjdcicopjipmnaaDoorLft
namespace Go.Proofs.YtjdcicopjipmnaaDoor
open Go.RowKit
set_option linter.unusedVariables false
set_option linter.unusedSimpArgs false
theorem sstr_own (w : World) (l : List ByteArray) (n : Nat) (hn : l.length = n) (cs : Array Value) (hc : cs = (l.map Value.string).toArray) (hm : n ≤ 9223372036854775807) : Own (w.alloc (.cells cs 9)) 9 1 (.slice (some ⟨w.heap.size, 0, none⟩) n n) n (l.map Value.string) := by
  have h := Own.made (t := 9) (sz := 1) w cs n hm (by rw [hc]; simp [hn])
  rw [hc] at h ⊢
  exact h
set_option maxRecDepth 100000 in
set_option maxHeartbeats 4000000 in
theorem or_part {X : Cx} {part : Ex} {m : Nat} (hp : Part X 99 part) (hg : GdE X.L.length part) : Part X 80 (partsE X.L part 15 [kOr] m) := by
  intro F s r hr hc w h
  have hb : Below w.heap.size w (w.alloc (.cells #[.string kOr] 9)) := (by repeat (first | exact Below.refl _ _ | assumption | refine Below.setCell ?_ (by first | (simp; done) | (simp; omega) | omega) _ | refine below_drewN ?_ _ | refine Below.drew ?_ | refine Below.alloc ?_ (by first | (simp; done) | (simp; omega) | omega) _))
  have K : Hid (Calls Tryd.prog 98 #[X.p, .func (.func 99) #[X.p] #[], .int .i64 15, .slice (some ⟨w.heap.size, 0, none⟩) 1 1] (w.alloc (.cells #[.string kOr] 9)) (Ret X F (w.alloc (.cells #[.string kOr] 9)) r)) :=
    Lib.hid (left_any (fun w => by kernel_rfl) hp hg (sstr_own w [kOr] 1 rfl _ rfl (by omega)) rfl (by intro t ht; simp only [List.mem_cons, List.not_mem_nil, or_false] at ht; rcases ht with rfl <;> exact sml (by decide)) (h.bel_ hb) hr hc)
  have HB := Lib.hid (KeepE.of_below X.B (fun _ => False) hb)
  have hlt := h.lt.1
  clear h hb
  go_enter Tryd.func80, Tryd.ntmps80
  go_wp2_with (go_at_call 98; refine K.out.mono ?_; rintro e w1 ⟨rfl, hp, hk⟩; have HP := Lib.hid hp; have HK := Lib.hid (HB.out.trans hk); clear hp hk)
  go_ret
  exact ⟨rfl, HP.out, HK.out⟩
set_option maxRecDepth 100000 in
set_option maxHeartbeats 4000000 in
theorem and_part {X : Cx} {part : Ex} {m : Nat} (hp : Part X 103 part) (hg : GdE X.L.length part) : Part X 99 (partsE X.L part 14 [kAnd] m) := by
  intro F s r hr hc w h
  have hb : Below w.heap.size w (w.alloc (.cells #[.string kAnd] 9)) := (by repeat (first | exact Below.refl _ _ | assumption | refine Below.setCell ?_ (by first | (simp; done) | (simp; omega) | omega) _ | refine below_drewN ?_ _ | refine Below.drew ?_ | refine Below.alloc ?_ (by first | (simp; done) | (simp; omega) | omega) _))
  have K : Hid (Calls Tryd.prog 98 #[X.p, .func (.func 103) #[X.p] #[], .int .i64 14, .slice (some ⟨w.heap.size, 0, none⟩) 1 1] (w.alloc (.cells #[.string kAnd] 9)) (Ret X F (w.alloc (.cells #[.string kAnd] 9)) r)) :=
    Lib.hid (left_any (fun w => by kernel_rfl) hp hg (sstr_own w [kAnd] 1 rfl _ rfl (by omega)) rfl (by intro t ht; simp only [List.mem_cons, List.not_mem_nil, or_false] at ht; rcases ht with rfl <;> exact sml (by decide)) (h.bel_ hb) hr hc)
  have HB := Lib.hid (KeepE.of_below X.B (fun _ => False) hb)
  have hlt := h.lt.1
  clear h hb
  go_enter Tryd.func99, Tryd.ntmps99
  go_wp2_with (go_at_call 98; refine K.out.mono ?_; rintro e w1 ⟨rfl, hp, hk⟩; have HP := Lib.hid hp; have HK := Lib.hid (HB.out.trans hk); clear hp hk)
  go_ret
  exact ⟨rfl, HP.out, HK.out⟩
set_option maxRecDepth 100000 in
set_option maxHeartbeats 4000000 in
theorem sum_part {X : Cx} {part : Ex} {m : Nat} (hp : Part X 108 part) (hg : GdE X.L.length part) : Part X 106 (partsE X.L part 12 [gPlus, gMinus] m) := by
  intro F s r hr hc w h
  have hb : Below w.heap.size w (w.alloc (.cells #[.string gPlus, .string gMinus] 9)) := (by repeat (first | exact Below.refl _ _ | assumption | refine Below.setCell ?_ (by first | (simp; done) | (simp; omega) | omega) _ | refine below_drewN ?_ _ | refine Below.drew ?_ | refine Below.alloc ?_ (by first | (simp; done) | (simp; omega) | omega) _))
  have K : Hid (Calls Tryd.prog 98 #[X.p, .func (.func 108) #[X.p] #[], .int .i64 12, .slice (some ⟨w.heap.size, 0, none⟩) 2 2] (w.alloc (.cells #[.string gPlus, .string gMinus] 9)) (Ret X F (w.alloc (.cells #[.string gPlus, .string gMinus] 9)) r)) :=
    Lib.hid (left_any (fun w => by kernel_rfl) hp hg (sstr_own w [gPlus, gMinus] 2 rfl _ rfl (by omega)) rfl (by intro t ht; simp only [List.mem_cons, List.not_mem_nil, or_false] at ht; rcases ht with rfl | rfl <;> exact sml (by decide)) (h.bel_ hb) hr hc)
  have HB := Lib.hid (KeepE.of_below X.B (fun _ => False) hb)
  have hlt := h.lt.1
  clear h hb
  go_enter Tryd.func106, Tryd.ntmps106
  go_wp2_with (go_at_call 98; refine K.out.mono ?_; rintro e w1 ⟨rfl, hp, hk⟩; have HP := Lib.hid hp; have HK := Lib.hid (HB.out.trans hk); clear hp hk)
  go_ret
  exact ⟨rfl, HP.out, HK.out⟩
set_option maxRecDepth 100000 in
set_option maxHeartbeats 4000000 in
theorem term_part {X : Cx} {part : Ex} {m : Nat} (hp : Part X 109 part) (hg : GdE X.L.length part) : Part X 108 (partsE X.L part 12 [gStar, gDiv, gMod] m) := by
  intro F s r hr hc w h
  have hb : Below w.heap.size w (w.alloc (.cells #[.string gStar, .string gDiv, .string gMod] 9)) := (by repeat (first | exact Below.refl _ _ | assumption | refine Below.setCell ?_ (by first | (simp; done) | (simp; omega) | omega) _ | refine below_drewN ?_ _ | refine Below.drew ?_ | refine Below.alloc ?_ (by first | (simp; done) | (simp; omega) | omega) _))
  have K : Hid (Calls Tryd.prog 98 #[X.p, .func (.func 109) #[X.p] #[], .int .i64 12, .slice (some ⟨w.heap.size, 0, none⟩) 3 3] (w.alloc (.cells #[.string gStar, .string gDiv, .string gMod] 9)) (Ret X F (w.alloc (.cells #[.string gStar, .string gDiv, .string gMod] 9)) r)) :=
    Lib.hid (left_any (fun w => by kernel_rfl) hp hg (sstr_own w [gStar, gDiv, gMod] 3 rfl _ rfl (by omega)) rfl (by intro t ht; simp only [List.mem_cons, List.not_mem_nil, or_false] at ht; rcases ht with rfl | rfl | rfl <;> exact sml (by decide)) (h.bel_ hb) hr hc)
  have HB := Lib.hid (KeepE.of_below X.B (fun _ => False) hb)
  have hlt := h.lt.1
  clear h hb
  go_enter Tryd.func108, Tryd.ntmps108
  go_wp2_with (go_at_call 98; refine K.out.mono ?_; rintro e w1 ⟨rfl, hp, hk⟩; have HP := Lib.hid hp; have HK := Lib.hid (HB.out.trans hk); clear hp hk)
  go_ret
  exact ⟨rfl, HP.out, HK.out⟩
end Go.Proofs.YtjdcicopjipmnaaDoor
