/- LinearOrders: the walk. -/
import Derived.Test.YtbfjkjkanckcjaaLMer
namespace Go.Proofs.Ytbfjkjkanckcjaa
open Go.RowKit Go.Shelf

theorem NewRows.shape {t tr : TypeId} {w w' : World} {A : Option Addr} {n c : Nat} {os : List SlI} (h : NewRows t tr w w' (.slice A n c) os) : A = none ∨ ∃ b o, A = some ⟨b, o, none⟩ := by
  obtain ⟨A', c', e, h2⟩ := Own.shape h.r.own
  cases e
  exact h2
theorem order_of (x : Int) (B : Option Addr) (nb cb : Nat) (bs : List Int) (A : Option Addr) (m c : Nat) (rs : List SlI) (w : World) (rows : List (List Int)) (hu : nums rs = rows) (hB : RdI w B nb cb bs) (hR : RdR w A m c rs) (hok : AllOk w rs) (hA : A = none ∨ ∃ b o, A = some ⟨b, o, none⟩)
    (hm : m ≤ 900) (hw : Lin.weight (nums rs) + nb ≤ 1000000) :
    Calls Try.prog 19 #[.int .i64 x, .slice B nb cb, .slice A m c] w fun e w' => ∃ A' n' c', e = .returned (.tuple #[.slice A' n' c', .bool (Lin.order x bs rows).isSome]) ∧ RdI w' A' n' c' ((Lin.order x bs rows).getD []) ∧ Below w.heap.size w w' := by
  subst hu
  refine (order_any x B nb cb bs A m c rs w hB hR hok (fun _ => hA) hm hw).mono ?_
  rintro e w' ⟨v, rfl, hv⟩
  obtain ⟨A', n', c', rfl, hr, _⟩ := OwnI.rd hv.own
  exact ⟨A', n', c', rfl, hr, hv.bel⟩
theorem rorder_of (x : Int) (B : Option Addr) (nb cb : Nat) (bs : List Int) (A : Option Addr) (m c : Nat) (rs : List SlI) (w : World) (rows : List (List Int)) (hu : nums rs = rows) (hB : RdI w B nb cb bs) (hR : RdR w A m c rs) (hok : AllOk w rs)
    (hm : m ≤ 900) (hw : Lin.weight (nums rs) + nb ≤ 1000000) :
    Calls Try.prog 20 #[.int .i64 x, .slice B nb cb, .slice A m c] w fun e w' => ∃ A' n' c', e = .returned (.tuple #[.slice A' n' c', .bool (Lin.order x bs rows).isSome]) ∧ RdI w' A' n' c' ((Lin.order x bs rows).getD []) ∧ Below w.heap.size w w' := by
  subst hu
  refine (rorder_any x B nb cb bs A m c rs w hB hR hok hm hw).mono ?_
  rintro e w' ⟨v, rfl, hv⟩
  obtain ⟨A', n', c', rfl, hr, _⟩ := OwnI.rd hv.own
  exact ⟨A', n', c', rfl, hr, hv.bel⟩

set_option maxRecDepth 100000 in
set_option maxHeartbeats 4000000 in
theorem orders_walk (x : Int) (B : Option Addr) (nb cb : Nat) (bs : List Int) (A : Option Addr) (n c : Nat) (rs : List SlI) (w : World) (hB : RdI w B nb cb bs) (hR : RdR w A n c rs) (hok : AllOk w rs) :
    Calls Try.prog 4 #[.int .i64 x, .slice B nb cb, .slice A n c] w fun e w' => e = .returned (.bool true) ∧ Below w.heap.size w w' := by
  have HR := Lib.hid hR
  have HOK := Lib.hid hok
  have HB := Lib.hid hB
  have hn9 := hB.le
  have hnc := hB.2.1
  have hc9 := hB.2.2.1
  have hm : ∃ m : Nat, m ≤ nb ∧ m ≤ 8 ∧ (if (8 : Int) < (nb : Int) then (8 : Int) else (nb : Int)) = (m : Int) := by
    by_cases h : nb ≤ 8
    · exact ⟨nb, Nat.le_refl _, h, if_neg (by omega)⟩
    · exact ⟨8, by omega, by omega, if_pos (by omega)⟩
  obtain ⟨m, hm1, hm2, him⟩ := hm
  have hmc : m ≤ cb := by omega
  have imc : (m : Int) ≤ (cb : Int) := by omega
  clear hR hok hB
  go_enter Try.func4, Try.ntmps4
  go_wp2_with fail
  (with_reducible refine (shown_any _).mono ?_)
  rintro e w1 ⟨rfl, hb1⟩
  have h0 := NewI.empty 2 w1
  have HLO := Lib.hid (((HB.out.new hb1).lo hm1).new h0.bel)
  have H0 := Lib.hid h0
  have HB1 := Lib.hid hb1
  clear h0 hb1
  go_wp2_with (at_builtin; refine wpList_appendI _ rfl (.tmp 13) (.tmp 18) rfl (.slice (some ⟨w1.heap.size, 0, none⟩) 0 0) [] rfl H0.out.own B m cb (bs.take m) rfl HLO.out (by simp only [List.length_nil]; omega) ?_; intro v2 w2 hv2 hg2 ha2; have h2 := H0.out.app hv2 hg2 ha2; obtain ⟨A2, n2, c2, rfl, hr2, _⟩ := OwnI.rd h2.own; have HB2 := Lib.hid (HB1.out.trans (h2.bel.mono HB1.out.size)); have HX2 := Lib.hid (show RdI w2 A2 n2 c2 (bs.take m) from hr2); clear hv2 hg2 ha2 h2 hr2)
  have HC2 := Lib.hid (cut_any A n c rs w2 (HR.out.new HB2.out) (HOK.out.new HB2.out))
  (with_reducible refine HC2.out.mono ?_)
  rintro e w3 ⟨v3, o3, rfl, hn3, hu3⟩
  obtain ⟨A3, n3, c3, rfl, hr3, hk3, hl3, hw3, hb3⟩ := hn3.rd hu3
  have hln2 : n2 ≤ 8 := by have := HX2.out.1; rw [← this, List.length_take]; omega
  have HB3 := Lib.hid (HB2.out.trans (hb3.mono HB2.out.size))
  have HX3 := Lib.hid (HX2.out.new hb3)
  have HM3 := Lib.hid (order_of x A2 n2 c2 _ A3 n3 c3 o3 w3 _ hu3 HX3.out hr3 hk3 hn3.shape (by omega) (by omega))
  clear hn3 hu3 hr3 hk3 hw3 hb3 HC2 HB2 HX2
  go_wp2_with fail
  (with_reducible refine HM3.out.mono ?_)
  rintro e w4 ⟨A4, n4, c4, rfl, hr4, hb4⟩
  have HB4 := Lib.hid (HB3.out.trans (hb4.mono HB3.out.size))
  have HR4 := Lib.hid hr4
  have HX4 := Lib.hid (HX3.out.new hb4)
  have HC4 := Lib.hid (cut_any A n c rs w4 (HR.out.new HB4.out) (HOK.out.new HB4.out))
  clear hr4 hb4 HB3 HX3 HM3
  generalize hgr : Lin.order x (bs.take m) (cutTo 8 (nums rs) 8) = r at *
  have HGR := Lib.hid hgr
  clear hgr
  go_wp2_with fail
  (with_reducible refine HC4.out.mono ?_)
  rintro e w5 ⟨v5, o5, rfl, hn5, hu5⟩
  obtain ⟨A5, n5, c5, rfl, hr5, hk5, hl5, hw5, hb5⟩ := hn5.rd hu5
  have HB5 := Lib.hid (HB4.out.trans (hb5.mono HB4.out.size))
  have HR5 := Lib.hid (HR4.out.new hb5)
  have hm5 := rorder_of x A2 n2 c2 _ A5 n5 c5 o5 w5 _ hu5 (HX4.out.new hb5) hr5 hk5 (by omega) (by omega)
  rw [HGR.out] at hm5
  have HM5 := Lib.hid hm5
  clear hn5 hu5 hr5 hk5 hw5 hb5 HC4 HB4 HX4 HR4 hm5
  go_wp2_with fail
  (with_reducible refine HM5.out.mono ?_)
  rintro e w6 ⟨A6, n6, c6, rfl, hr6, hb6⟩
  have HB6 := Lib.hid (HB5.out.trans (hb6.mono HB5.out.size))
  have HR6 := Lib.hid (HR5.out.new hb6)
  have HX6 := Lib.hid hr6
  clear hr6 hb6 HB5 HR5 HM5
  go_wp2_with fail
  (with_reducible refine (same_is _ _ _ _ _ _ _ _ _ true HR6.out HX6.out (sameI_self _)).mono ?_)
  rintro e w7 ⟨rfl, q2, rfl⟩
  go_wp2_with fail
  go_ret
  exact ⟨rfl, below_drewN HB6.out _⟩
end Go.Proofs.Ytbfjkjkanckcjaa
