/- The reference's SameCode says no. -/
import Derived.Test.YtcfelfhjhkenaaaDoorSam
namespace Go.Proofs.YtcfelfhjhkenaaaDoor
open Go.RowKit
set_option linter.unusedVariables false
set_option linter.unusedSimpArgs false
attribute [local go_sem] Oper.semAt_some

set_option maxRecDepth 100000 in
set_option maxHeartbeats 4000000 in
theorem same_no8 {w : World} (nm : ByteArray) (kd pa de : Int) (ge : Bool) (lo ce fr na : List ByteArray)  (na' : List ByteArray)
    {A1 A2 A3 A4 A5 A6 B1 B2 B3 B4 B5 B6 : Option Addr} {n1 c1 d1 n2 c2 d2 n3 c3 d3 n4 c4 d4 n5 c5 d5 n6 c6 d6 m1 m2 m3 m4 m5 m6 : Nat}
    (hb0 : Below w.heap.size w ((w.alloc (.cells #[.string nm, .int .i64 kd, .int .i64 pa, .int .i64 de, .bool ge, .slice A1 n1 c1, .slice A2 n2 c2, .slice A3 n3 c3, .slice A4 n4 c4, .slice A5 n5 c5, .slice A6 n6 c6] 49)).alloc (.cells #[.string nm, .int .i64 kd, .int .i64 pa, .int .i64 de, .bool ge, .slice B1 m1 d1, .slice B2 m2 d2, .slice B3 m3 d3, .slice B4 m4 d4, .slice B5 m5 d5, .slice B6 m6 d6] 49)))
    (h1 : RdS w A1 n1 c1 lo) (g1 : RdS w B1 m1 d1 lo)
    (h2 : RdS w A2 n2 c2 ce) (g2 : RdS w B2 m2 d2 ce)
    (h3 : RdS w A3 n3 c3 fr) (g3 : RdS w B3 m3 d3 fr)
    (h4 : RdS w A4 n4 c4 na) (g4 : RdS w B4 m4 d4 na')
    (hne : na ≠ na') : Calls Tryd.prog 27 #[.agg #[.string nm, .int .i64 kd, .int .i64 pa, .int .i64 de, .bool ge, .slice A1 n1 c1, .slice A2 n2 c2, .slice A3 n3 c3, .slice A4 n4 c4, .slice A5 n5 c5, .slice A6 n6 c6], .agg #[.string nm, .int .i64 kd, .int .i64 pa, .int .i64 de, .bool ge, .slice B1 m1 d1, .slice B2 m2 d2, .slice B3 m3 d3, .slice B4 m4 d4, .slice B5 m5 d5, .slice B6 m6 d6]] w fun e w' => e = .returned (.bool false) ∧ Below w.heap.size w w' := by
  have HB0 := Lib.hid hb0
  clear hb0
  have H1 := Lib.hid h1
  have G1 := Lib.hid g1
  clear h1 g1
  have H2 := Lib.hid h2
  have G2 := Lib.hid g2
  clear h2 g2
  have H3 := Lib.hid h3
  have G3 := Lib.hid g3
  clear h3 g3
  have H4 := Lib.hid h4
  have G4 := Lib.hid g4
  clear h4 g4
  have HNO := Lib.hid (sameB_no hne)
  clear hne
  go_enter Tryd.func27, Tryd.ntmps27
  go_wp2_with fail
  refine (sameTexts_any (H1.out.new HB0.out) (G1.out.new HB0.out)).mono ?_
  rintro e w1 ⟨rfl, q1', rfl⟩
  rw [sameB_yes rfl]
  obtain ⟨q1, hq1⟩ : ∃ q, q = q1' := ⟨_, rfl⟩
  rw [← hq1]
  clear hq1
  go_wp2_with fail
  refine (sameTexts_any (H2.out.new (below_drewN HB0.out q1)) (G2.out.new (below_drewN HB0.out q1))).mono ?_
  rintro e w2 ⟨rfl, q2', rfl⟩
  rw [sameB_yes rfl]
  rw [drewN_add]
  obtain ⟨q2, hq2⟩ : ∃ q, q = q1 + q2' := ⟨_, rfl⟩
  rw [← hq2]
  clear hq2
  go_wp2_with fail
  refine (sameTexts_any (H3.out.new (below_drewN HB0.out q2)) (G3.out.new (below_drewN HB0.out q2))).mono ?_
  rintro e w3 ⟨rfl, q3', rfl⟩
  rw [sameB_yes rfl]
  rw [drewN_add]
  obtain ⟨q3, hq3⟩ : ∃ q, q = q2 + q3' := ⟨_, rfl⟩
  rw [← hq3]
  clear hq3
  go_wp2_with fail
  refine (sameTexts_any (H4.out.new (below_drewN HB0.out q3)) (G4.out.new (below_drewN HB0.out q3))).mono ?_
  rintro e w4 ⟨rfl, q4', rfl⟩
  rw [HNO.out]
  rw [drewN_add]
  obtain ⟨q4, hq4⟩ : ∃ q, q = q3 + q4' := ⟨_, rfl⟩
  rw [← hq4]
  clear hq4
  go_wp2_with fail
  go_ret
  exact ⟨rfl, (below_drewN HB0.out q4)⟩
end Go.Proofs.YtcfelfhjhkenaaaDoor
