/- behind: over rows. -/
import Derived.Test.YtbfjkjkanckcjaaBeh
import Derived.Test.YtbfjkjkanckcjaaLin
namespace Go.Proofs.Ytbfjkjkanckcjaa
open Go.RowKit

def tailI (rows : List (List Int)) (x : Int) : Bool := Lin.inTail rows x
theorem tailI_take {rs : List SlI} {x : Int} {k : Nat} (h : k < rs.length) : tailI (nums (rs.take (k + 1))) x = (tailI (nums (rs.take k)) x || hasI rs[k].xs.tail x) := by
  have e := List.take_succ_eq_append_getElem h
  unfold tailI Lin.inTail nums
  rw [e, List.map_append, List.any_append]
  simp [hasI]
theorem tailI_true {rs : List SlI} {x : Int} {k : Nat} (h : k < rs.length) (e : hasI rs[k].xs.tail x = true) : tailI (nums rs) x = true := by
  unfold tailI Lin.inTail nums
  rw [List.any_eq_true]
  exact ⟨rs[k].xs, List.mem_map.2 ⟨_, List.getElem_mem h, rfl⟩, e⟩

set_option maxRecDepth 100000 in
set_option maxHeartbeats 400000 in
theorem indexf_any (A : Option Addr) (n c : Nat) (rs : List SlI) (x : Int) (B : Nat) (w : World) (hA : RdR w A n c rs) (hok : AllOk w rs) (hB : w.cell? ⟨B, 0, none⟩ = some (.int .i64 x)) :
    Calls Try.prog 39 #[.slice A n c, .func (.func 37) #[] #[.pointer (some ⟨B, 0, none⟩)]] w fun e w' => ∃ r : Int, e = .returned (.int .i64 r) ∧ Hid (decide (0 ≤ r) = tailI (nums rs) x) ∧ ∃ q, w' = w.drewN q := by
  have hn := hA.le
  go_enter Try.func39, Try.ntmps39
  go_wp2_with fail
  go_loopw [8] (fun i wr => ∃ k q : Nat, k ≤ n ∧ i = .int .i64 k ∧ Hid (tailI (nums (rs.take k)) x = false) ∧ wr = w.drewN q) (fun i _ => n - (intOf i).toNat)
  case atStart => exact ⟨0, 0, Nat.zero_le _, rfl, rfl, rfl⟩
  case round =>
    obtain ⟨k, q, hk, rfl, hno, rfl⟩ := hrel
    by_cases hlt : k < n
    · have hkr : k < rs.length := by rw [hA.1]; exact hlt
      obtain ⟨b, o, rfl, hb, h0⟩ := (hA.new (below_drewN (Below.refl _ _) q)).at_ hlt
      have hr := hok rs[k] (List.getElem_mem hkr)
      have hst := tailI_take (x := x) hkr
      have htr := tailI_true (x := x) hkr
      generalize rs[k] = r at *
      obtain ⟨Ar, nr, cr, xr⟩ := r
      have hr : RdI w Ar nr cr xr := hr
      have h0 : (w.drewN q).cell? ⟨b, o + k, none⟩ = some (.slice Ar nr cr) := h0
      have HC := Lib.hid (behind1_any Ar nr cr xr x B (w.drewN q) (hr.new (below_drewN (Below.refl _ _) q)) hB)
      have HST := Lib.hid hst
      have HTR := Lib.hid htr
      clear hst htr hr
      cases hh : hasI xr.tail x
      · have HH := Lib.hid hh
        clear hh
        go_wp2_with (go_at_call 37; refine HC.out.mono ?_; rintro e w' ⟨rfl, q2, rfl⟩; rw [HH.out])
        go_roundw
        case rel => exact ⟨k + 1, q + q2, by omega, by go_num, by unfold Hid; rw [HST.out, hno.out, HH.out]; rfl, rfl⟩
        case measure => simp [intOf]; omega
      · have HH := Lib.hid hh
        clear hh
        go_wp2_with (go_at_call 37; refine HC.out.mono ?_; rintro e w' ⟨rfl, q2, rfl⟩; rw [HH.out])
        go_ret
        exact ⟨_, rfl, by unfold Hid; rw [HTR.out HH.out]; simp, _, rfl⟩
    · have HF : Hid (tailI (nums rs) x = false) := by
        have := hno.out
        rw [List.take_of_length_le (by rw [hA.1]; omega)] at this
        exact this
      go_wp2
      go_ret
      exact ⟨_, rfl, by unfold Hid; rw [HF.out]; rfl, _, rfl⟩

set_option maxHeartbeats 400000 in
theorem containsf_any (A : Option Addr) (n c : Nat) (rs : List SlI) (x : Int) (B : Nat) (w : World) (hA : RdR w A n c rs) (hok : AllOk w rs) (hB : w.cell? ⟨B, 0, none⟩ = some (.int .i64 x)) :
    Calls Try.prog 36 #[.slice A n c, .func (.func 37) #[] #[.pointer (some ⟨B, 0, none⟩)]] w fun e w' => e = .returned (.bool (tailI (nums rs) x)) ∧ ∃ q, w' = w.drewN q := by
  go_enter Try.func36, Try.ntmps36
  go_wp2_with (go_at_call 39; refine (indexf_any A n c rs x B _ hA hok hB).mono ?_; rintro e w' ⟨r, rfl, hr, q, rfl⟩)
  go_ret
  exact ⟨ret_bool hr.out, _, rfl⟩

set_option maxHeartbeats 400000 in
/-- behind -/
theorem behind_any (A : Option Addr) (n c : Nat) (rs : List SlI) (x : Int) (w : World) (hA : RdR w A n c rs) (hok : AllOk w rs) :
    Calls Try.prog 30 #[.slice A n c, .int .i64 x] w fun e w' => e = .returned (.bool (tailI (nums rs) x)) ∧ Below w.heap.size w w' := by
  have hb : Below w.heap.size w (w.alloc (.cells #[.int .i64 x] 2)) := (by repeat (first | exact Below.refl _ _ | assumption | refine Below.setCell ?_ (by first | (simp; done) | (simp; omega) | omega) _ | refine below_drewN ?_ _ | refine Below.drew ?_ | refine Below.alloc ?_ (by first | (simp; done) | (simp; omega) | omega) _))
  have HC := Lib.hid (containsf_any A n c rs x w.heap.size _ (hA.new hb) (hok.new hb) ((Blk.new w 2 #[.int .i64 x]).cell 0))
  clear hA hok hb
  go_enter Try.func30, Try.ntmps30
  go_wp2_with (go_at_call 36; refine HC.out.mono ?_; rintro e w' ⟨rfl, q, rfl⟩)
  go_ret
  exact ⟨rfl, (by repeat (first | exact Below.refl _ _ | assumption | refine Below.setCell ?_ (by first | (simp; done) | (simp; omega) | omega) _ | refine below_drewN ?_ _ | refine Below.drew ?_ | refine Below.alloc ?_ (by first | (simp; done) | (simp; omega) | omega) _))⟩
end Go.Proofs.Ytbfjkjkanckcjaa
