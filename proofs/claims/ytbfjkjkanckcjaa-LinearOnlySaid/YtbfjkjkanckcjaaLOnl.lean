/- LinearOnly: the walk. -/
import Derived.Test.YtbfjkjkanckcjaaLMer
import Derived.Test.YtbfjkjkanckcjaaRnd
namespace Go.Proofs.Ytbfjkjkanckcjaa
open Go.RowKit Go.Shelf

set_option maxRecDepth 100000 in
set_option maxHeartbeats 4000000 in
theorem only_walk (A : Option Addr) (n c : Nat) (rs : List SlI) (w : World) (hR : RdR w A n c rs) (hok : AllOk w rs) :
    Calls Try.prog 7 #[.slice A n c] w fun e w' => e = .returned (.bool true) ∧ Below w.heap.size w w' := by
  have HR := Lib.hid hR
  have HOK := Lib.hid hok
  clear hR hok
  go_enter Try.func7, Try.ntmps7
  go_wp2_with fail
  (with_reducible refine (shown_any _).mono ?_)
  rintro e w1 ⟨rfl, hb1⟩
  have HB1 := Lib.hid hb1
  have HC1 := Lib.hid (cut_any A n c rs w1 (HR.out.new hb1) (HOK.out.new hb1))
  clear hb1
  go_wp2_with fail
  (with_reducible refine HC1.out.mono ?_)
  rintro e w2 ⟨v2, o2, rfl, hn2, hu2⟩
  obtain ⟨A2, n2, c2, rfl, hr2, hk2, hl2, hw2, hb2⟩ := hn2.rd hu2
  have HB2 := Lib.hid (HB1.out.trans (hb2.mono HB1.out.size))
  have HR2 := Lib.hid hr2
  have HK2 := Lib.hid hk2
  have HM2 := Lib.hid (merge_of A2 n2 c2 o2 w2 _ hu2 hr2 hk2 (by omega) (by omega))
  have hmr := Lin.merge_round (cutTo 8 (nums rs) 8)
  have HU2 := Lib.hid hu2
  have HW2 := Lib.hid hw2
  have hl9 : n2 ≤ 900 := by omega
  clear hn2 hu2 hr2 hk2 hw2 hb2 HC1 HB1
  rw [hmr] at HM2
  clear hmr
  generalize hgr : Lin.round (cutTo 8 (nums rs) 8) = r at *
  have HGR := Lib.hid hgr
  clear hgr
  go_wp2_with fail
  (with_reducible refine HM2.out.mono ?_)
  rintro e w3 ⟨A3, n3, c3, rfl, hr3, hb3⟩
  have HB3 := Lib.hid (HB2.out.trans (hb3.mono HB2.out.size))
  have hrd := round_any A2 n2 c2 o2 w3 (HR2.out.new hb3) (HK2.out.new hb3) (by omega) (by have := HW2.out; omega)
  rw [HU2.out, HGR.out] at hrd
  have HRD := Lib.hid hrd
  clear hr3 hb3 hrd HM2 HB2
  go_wp2_with fail
  (with_reducible refine HRD.out.mono ?_)
  rintro e w4 ⟨rfl, hb4⟩
  have HB4 := Lib.hid (HB3.out.trans (hb4.mono HB3.out.size))
  clear hb4
  cases r
  all_goals
    go_wp2_with fail
    go_ret
    exact ⟨rfl, HB4.out⟩
end Go.Proofs.Ytbfjkjkanckcjaa
