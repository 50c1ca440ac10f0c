/- The reference's Same, Big. -/
import Derived.Test.YtcfelfhjhkenaaaDoorSmd
namespace Go.Proofs.YtcfelfhjhkenaaaDoor
open Go.RowKit
set_option linter.unusedVariables false
set_option linter.unusedSimpArgs false
attribute [local go_sem] Oper.semAt_some

set_option maxRecDepth 100000 in
set_option maxHeartbeats 4000000 in
theorem same_any {w : World} {A1 A2 : Option Addr} {n1 c1 n2 c2 : Nat} {p q : List CodeD} (h1 : ProgAt w A1 n1 c1 p) (h2 : ProgAt w A2 n2 c2 q) :
    Calls Tryd.prog 14 #[.slice A1 n1 c1, .slice A2 n2 c2] w (SaysC w (p = q)) := by
  have hl1 := h1.1
  have hl2 := h2.1
  have hz1 := h1.le
  have hz2 := h2.le
  by_cases hn : n1 = n2
  · subst hn
    have H1 := Lib.hid h1
    have H2 := Lib.hid h2
    clear h1 h2
    go_enter Tryd.func14, Tryd.ntmps14
    go_wp2_with fail
    go_loopw [5] (fun i wr => ∃ k : Nat, k ≤ n1 ∧ i = .int .i64 k ∧ p.take k = q.take k ∧ Below w.heap.size w wr) (fun i _ => n1 - (intOf i).toNat)
    case atStart => exact ⟨0, by omega, rfl, rfl, Below.refl _ _⟩
    case round =>
      obtain ⟨k, hk, rfl, he, hb⟩ := hrel
      have HE := Lib.hid he
      have HB := Lib.hid hb
      have hwz := hb.size
      clear he hb
      by_cases hlt : k < n1
      · obtain ⟨x, hx⟩ : ∃ x, p[k]? = some x := ⟨_, List.getElem?_eq_getElem (by omega)⟩
        obtain ⟨y, hy⟩ : ∃ y, q[k]? = some y := ⟨_, List.getElem?_eq_getElem (by omega)⟩
        have g1 := H1.out.new HB.out
        have g2 := H2.out.new HB.out
        obtain ⟨be, oe, xs, rfl, hbe, hcx, hce⟩ := g1.at_ hx
        obtain ⟨bf, of, ys, rfl, hbf, hcy, hcf⟩ := g2.at_ hy
        have KS : Hid (∀ w', Below wr.heap.size wr w' → Calls Tryd.prog 27 #[.agg xs.toArray, .agg ys.toArray] w' (SaysC w' (x = y))) := Lib.hid fun w' hb => sameCode_any (hcx.new hb) (hcy.new hb)
        have HX := Lib.hid hx
        have HY := Lib.hid hy
        have hcx' := hcx.parts
        have hcy' := hcy.parts
        clear hx hy g1 g2 hcx hcy
        obtain ⟨Ax1, nx1, cx1, Ax2, nx2, cx2, Ax3, nx3, cx3, Ax4, nx4, cx4, Ax5, nx5, cx5, Ax6, nx6, cx6, rfl, -⟩ := hcx'
        obtain ⟨Bx1, mx1, dx1, Bx2, mx2, dx2, Bx3, mx3, dx3, Bx4, mx4, dx4, Bx5, mx5, dx5, Bx6, mx6, dx6, rfl, -⟩ := hcy'
        obtain ⟨nm, hnm0⟩ : ∃ z, z = x.name := ⟨_, rfl⟩
        obtain ⟨kd, hkd0⟩ : ∃ z, z = x.kind := ⟨_, rfl⟩
        obtain ⟨pa, hpa0⟩ : ∃ z, z = x.params := ⟨_, rfl⟩
        obtain ⟨de, hde0⟩ : ∃ z, z = x.defaults := ⟨_, rfl⟩
        obtain ⟨ge, hge0⟩ : ∃ z, z = x.gen := ⟨_, rfl⟩
        rw [← hnm0, ← hkd0, ← hpa0, ← hde0, ← hge0] at hce KS
        clear hnm0 hkd0 hpa0 hde0 hge0
        have e0 : wr.cell? ⟨be, oe + k * 11, none⟩ = some (.string nm) := hce 0 _ rfl
        have e1 : wr.cell? ⟨be, oe + k * 11 + 1, none⟩ = some (.int .i64 kd) := hce 1 _ rfl
        have e2 : wr.cell? ⟨be, oe + k * 11 + 2, none⟩ = some (.int .i64 pa) := hce 2 _ rfl
        have e3 : wr.cell? ⟨be, oe + k * 11 + 3, none⟩ = some (.int .i64 de) := hce 3 _ rfl
        have e4 : wr.cell? ⟨be, oe + k * 11 + 4, none⟩ = some (.bool ge) := hce 4 _ rfl
        have e5 : wr.cell? ⟨be, oe + k * 11 + 5, none⟩ = some (.slice Ax1 nx1 cx1) := hce 5 _ rfl
        have e6 : wr.cell? ⟨be, oe + k * 11 + 6, none⟩ = some (.slice Ax2 nx2 cx2) := hce 6 _ rfl
        have e7 : wr.cell? ⟨be, oe + k * 11 + 7, none⟩ = some (.slice Ax3 nx3 cx3) := hce 7 _ rfl
        have e8 : wr.cell? ⟨be, oe + k * 11 + 8, none⟩ = some (.slice Ax4 nx4 cx4) := hce 8 _ rfl
        have e9 : wr.cell? ⟨be, oe + k * 11 + 9, none⟩ = some (.slice Ax5 nx5 cx5) := hce 9 _ rfl
        have e10 : wr.cell? ⟨be, oe + k * 11 + 10, none⟩ = some (.slice Ax6 nx6 cx6) := hce 10 _ rfl
        obtain ⟨nm', hnm1⟩ : ∃ z, z = y.name := ⟨_, rfl⟩
        obtain ⟨kd', hkd1⟩ : ∃ z, z = y.kind := ⟨_, rfl⟩
        obtain ⟨pa', hpa1⟩ : ∃ z, z = y.params := ⟨_, rfl⟩
        obtain ⟨de', hde1⟩ : ∃ z, z = y.defaults := ⟨_, rfl⟩
        obtain ⟨ge', hge1⟩ : ∃ z, z = y.gen := ⟨_, rfl⟩
        rw [← hnm1, ← hkd1, ← hpa1, ← hde1, ← hge1] at hcf KS
        clear hnm1 hkd1 hpa1 hde1 hge1
        have f0 : wr.cell? ⟨bf, of + k * 11, none⟩ = some (.string nm') := hcf 0 _ rfl
        have f1 : wr.cell? ⟨bf, of + k * 11 + 1, none⟩ = some (.int .i64 kd') := hcf 1 _ rfl
        have f2 : wr.cell? ⟨bf, of + k * 11 + 2, none⟩ = some (.int .i64 pa') := hcf 2 _ rfl
        have f3 : wr.cell? ⟨bf, of + k * 11 + 3, none⟩ = some (.int .i64 de') := hcf 3 _ rfl
        have f4 : wr.cell? ⟨bf, of + k * 11 + 4, none⟩ = some (.bool ge') := hcf 4 _ rfl
        have f5 : wr.cell? ⟨bf, of + k * 11 + 5, none⟩ = some (.slice Bx1 mx1 dx1) := hcf 5 _ rfl
        have f6 : wr.cell? ⟨bf, of + k * 11 + 6, none⟩ = some (.slice Bx2 mx2 dx2) := hcf 6 _ rfl
        have f7 : wr.cell? ⟨bf, of + k * 11 + 7, none⟩ = some (.slice Bx3 mx3 dx3) := hcf 7 _ rfl
        have f8 : wr.cell? ⟨bf, of + k * 11 + 8, none⟩ = some (.slice Bx4 mx4 dx4) := hcf 8 _ rfl
        have f9 : wr.cell? ⟨bf, of + k * 11 + 9, none⟩ = some (.slice Bx5 mx5 dx5) := hcf 9 _ rfl
        have f10 : wr.cell? ⟨bf, of + k * 11 + 10, none⟩ = some (.slice Bx6 mx6 dx6) := hcf 10 _ rfl
        clear hce hcf
        have HD : Hid (Below wr.heap.size wr wr.drew) := Lib.hid (by repeat (first | exact Below.refl _ _ | assumption | refine Below.setCell ?_ (by first | (simp; done) | (simp; omega) | omega) _ | refine below_drewN ?_ _ | refine Below.drew ?_ | refine Below.alloc ?_ (by first | (simp; done) | (simp; omega) | omega) _))
        rcases Classical.em (x = y) with hxy | hxy
        · have K1 : Hid (∀ w', Below wr.heap.size wr w' → Calls Tryd.prog 27 #[.agg #[.string nm, .int .i64 kd, .int .i64 pa, .int .i64 de, .bool ge, .slice Ax1 nx1 cx1, .slice Ax2 nx2 cx2, .slice Ax3 nx3 cx3, .slice Ax4 nx4 cx4, .slice Ax5 nx5 cx5, .slice Ax6 nx6 cx6], .agg #[.string nm', .int .i64 kd', .int .i64 pa', .int .i64 de', .bool ge', .slice Bx1 mx1 dx1, .slice Bx2 mx2 dx2, .slice Bx3 mx3 dx3, .slice Bx4 mx4 dx4, .slice Bx5 mx5 dx5, .slice Bx6 mx6 dx6]] w' fun e w'' => e = .returned (.bool true) ∧ Below w'.heap.size w' w'') := Lib.hid fun w' hb => (KS.out w' hb).mono fun e w'' ⟨b, h1, h2, h3⟩ => ⟨by rw [h1, h2.2 hxy], h3⟩
          have HXY := Lib.hid hxy
          clear hxy KS
          go_wp2_with fail
          go_region_law (go_simp; (with_reducible refine (K1.out _ HD.out).mono ?_); rintro e w3 ⟨rfl, hb3⟩; have HB3 := Lib.hid (HB.out.trans ((HD.out.trans hb3).mono hwz)); clear hb3)
          all_goals
            clear e0 e1 e2 e3 e4 e5 e6 e7 e8 e9 e10 f0 f1 f2 f3 f4 f5 f6 f7 f8 f9 f10
            go_wp2
            go_roundw
            case rel => exact ⟨k + 1, by omega, by go_num, take_more HE.out HX.out (HXY.out ▸ HY.out), HB3.out⟩
            case measure => simp [intOf]; omega
        · have K1 : Hid (∀ w', Below wr.heap.size wr w' → Calls Tryd.prog 27 #[.agg #[.string nm, .int .i64 kd, .int .i64 pa, .int .i64 de, .bool ge, .slice Ax1 nx1 cx1, .slice Ax2 nx2 cx2, .slice Ax3 nx3 cx3, .slice Ax4 nx4 cx4, .slice Ax5 nx5 cx5, .slice Ax6 nx6 cx6], .agg #[.string nm', .int .i64 kd', .int .i64 pa', .int .i64 de', .bool ge', .slice Bx1 mx1 dx1, .slice Bx2 mx2 dx2, .slice Bx3 mx3 dx3, .slice Bx4 mx4 dx4, .slice Bx5 mx5 dx5, .slice Bx6 mx6 dx6]] w' fun e w'' => e = .returned (.bool false) ∧ Below w'.heap.size w' w'') := Lib.hid fun w' hb => (KS.out w' hb).mono fun e w'' ⟨b, h1, h2, h3⟩ => ⟨by
            cases b with
            | false => exact h1
            | true => exact absurd (h2.1 rfl) hxy, h3⟩
          have HXY := Lib.hid hxy
          clear hxy KS
          go_wp2_with fail
          go_region_law (go_simp; (with_reducible refine (K1.out _ HD.out).mono ?_); rintro e w3 ⟨rfl, hb3⟩; have HB3 := Lib.hid (HB.out.trans ((HD.out.trans hb3).mono hwz)); clear hb3)
          all_goals
            clear e0 e1 e2 e3 e4 e5 e6 e7 e8 e9 e10 f0 f1 f2 f3 f4 f5 f6 f7 f8 f9 f10
            go_wp2
            go_ret
            exact saysC_no (ne_at HX.out HY.out HXY.out) HB3.out
      · obtain rfl : k = n1 := by omega
        have he := HE.out
        rw [List.take_of_length_le (by omega), List.take_of_length_le (by omega)] at he
        have HPQ := Lib.hid he
        clear he
        go_wp2
        go_ret
        exact saysC_yes HPQ.out HB.out
  · have hno : ¬ p = q := by rintro rfl; omega
    have HNO := Lib.hid hno
    have hne : ((n1 : Int) == (n2 : Int)) = false := by simp; omega
    have hne2 : ¬ n1 = n2 := hn
    clear h1 h2 hno
    go_enter Tryd.func14, Tryd.ntmps14
    go_wp2
    go_ret
    exact saysC_no HNO.out (Below.refl _ _)
end Go.Proofs.YtcfelfhjhkenaaaDoor
