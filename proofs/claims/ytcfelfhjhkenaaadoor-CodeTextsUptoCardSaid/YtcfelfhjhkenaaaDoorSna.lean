/- The reference's SameCode says no. -/
import Derived.Test.YtcfelfhjhkenaaaDoorSam
namespace Go.Proofs.YtcfelfhjhkenaaaDoor
open Go.RowKit
set_option linter.unusedVariables false
set_option linter.unusedSimpArgs false
attribute [local go_sem] Oper.semAt_some

set_option maxRecDepth 100000 in
set_option maxHeartbeats 4000000 in
theorem same_no0 {w : World} (nm : ByteArray) (kd pa de : Int) (ge : Bool) (lo ce fr na : List ByteArray) (nm' : ByteArray) (kd' : Int) (pa' : Int) (de' : Int) (ge' : Bool) (lo' : List ByteArray) (ce' : List ByteArray) (fr' : List ByteArray) (na' : List ByteArray)
    {A1 A2 A3 A4 A5 A6 B1 B2 B3 B4 B5 B6 : Option Addr} {n1 c1 d1 n2 c2 d2 n3 c3 d3 n4 c4 d4 n5 c5 d5 n6 c6 d6 m1 m2 m3 m4 m5 m6 : Nat}
    (hb0 : Below w.heap.size w ((w.alloc (.cells #[.string nm, .int .i64 kd, .int .i64 pa, .int .i64 de, .bool ge, .slice A1 n1 c1, .slice A2 n2 c2, .slice A3 n3 c3, .slice A4 n4 c4, .slice A5 n5 c5, .slice A6 n6 c6] 49)).alloc (.cells #[.string nm', .int .i64 kd', .int .i64 pa', .int .i64 de', .bool ge', .slice B1 m1 d1, .slice B2 m2 d2, .slice B3 m3 d3, .slice B4 m4 d4, .slice B5 m5 d5, .slice B6 m6 d6] 49)))
    (hne : nm ≠ nm') : Calls Tryd.prog 27 #[.agg #[.string nm, .int .i64 kd, .int .i64 pa, .int .i64 de, .bool ge, .slice A1 n1 c1, .slice A2 n2 c2, .slice A3 n3 c3, .slice A4 n4 c4, .slice A5 n5 c5, .slice A6 n6 c6], .agg #[.string nm', .int .i64 kd', .int .i64 pa', .int .i64 de', .bool ge', .slice B1 m1 d1, .slice B2 m2 d2, .slice B3 m3 d3, .slice B4 m4 d4, .slice B5 m5 d5, .slice B6 m6 d6]] w fun e w' => e = .returned (.bool false) ∧ Below w.heap.size w w' := by
  have HB0 := Lib.hid hb0
  clear hb0
  have hs1 : ¬ nm.toList = nm'.toList := fun h => hne ((toList_inj _ _).1 h)
  have hs2 : (nm.toList == nm'.toList) = false := by simpa using hs1
  clear hne
  go_enter Tryd.func27, Tryd.ntmps27
  go_wp2_with fail
  go_ret
  exact ⟨rfl, HB0.out⟩
set_option maxRecDepth 100000 in
set_option maxHeartbeats 4000000 in
theorem same_no1 {w : World} (nm : ByteArray) (kd pa de : Int) (ge : Bool) (lo ce fr na : List ByteArray) (kd' : Int) (pa' : Int) (de' : Int) (ge' : Bool) (lo' : List ByteArray) (ce' : List ByteArray) (fr' : List ByteArray) (na' : List ByteArray)
    {A1 A2 A3 A4 A5 A6 B1 B2 B3 B4 B5 B6 : Option Addr} {n1 c1 d1 n2 c2 d2 n3 c3 d3 n4 c4 d4 n5 c5 d5 n6 c6 d6 m1 m2 m3 m4 m5 m6 : Nat}
    (hb0 : Below w.heap.size w ((w.alloc (.cells #[.string nm, .int .i64 kd, .int .i64 pa, .int .i64 de, .bool ge, .slice A1 n1 c1, .slice A2 n2 c2, .slice A3 n3 c3, .slice A4 n4 c4, .slice A5 n5 c5, .slice A6 n6 c6] 49)).alloc (.cells #[.string nm, .int .i64 kd', .int .i64 pa', .int .i64 de', .bool ge', .slice B1 m1 d1, .slice B2 m2 d2, .slice B3 m3 d3, .slice B4 m4 d4, .slice B5 m5 d5, .slice B6 m6 d6] 49)))
    (hne : kd ≠ kd') : Calls Tryd.prog 27 #[.agg #[.string nm, .int .i64 kd, .int .i64 pa, .int .i64 de, .bool ge, .slice A1 n1 c1, .slice A2 n2 c2, .slice A3 n3 c3, .slice A4 n4 c4, .slice A5 n5 c5, .slice A6 n6 c6], .agg #[.string nm, .int .i64 kd', .int .i64 pa', .int .i64 de', .bool ge', .slice B1 m1 d1, .slice B2 m2 d2, .slice B3 m3 d3, .slice B4 m4 d4, .slice B5 m5 d5, .slice B6 m6 d6]] w fun e w' => e = .returned (.bool false) ∧ Below w.heap.size w w' := by
  have HB0 := Lib.hid hb0
  clear hb0
  have hs1 : (kd == kd') = false := by simpa using hne
  have hs2 : (kd != kd') = true := by simpa using hne
  have hs3 : ¬ kd = kd' := hne
  clear hne
  go_enter Tryd.func27, Tryd.ntmps27
  go_wp2_with fail
  go_ret
  exact ⟨rfl, HB0.out⟩
set_option maxRecDepth 100000 in
set_option maxHeartbeats 4000000 in
theorem same_no2 {w : World} (nm : ByteArray) (kd pa de : Int) (ge : Bool) (lo ce fr na : List ByteArray) (pa' : Int) (de' : Int) (ge' : Bool) (lo' : List ByteArray) (ce' : List ByteArray) (fr' : List ByteArray) (na' : List ByteArray)
    {A1 A2 A3 A4 A5 A6 B1 B2 B3 B4 B5 B6 : Option Addr} {n1 c1 d1 n2 c2 d2 n3 c3 d3 n4 c4 d4 n5 c5 d5 n6 c6 d6 m1 m2 m3 m4 m5 m6 : Nat}
    (hb0 : Below w.heap.size w ((w.alloc (.cells #[.string nm, .int .i64 kd, .int .i64 pa, .int .i64 de, .bool ge, .slice A1 n1 c1, .slice A2 n2 c2, .slice A3 n3 c3, .slice A4 n4 c4, .slice A5 n5 c5, .slice A6 n6 c6] 49)).alloc (.cells #[.string nm, .int .i64 kd, .int .i64 pa', .int .i64 de', .bool ge', .slice B1 m1 d1, .slice B2 m2 d2, .slice B3 m3 d3, .slice B4 m4 d4, .slice B5 m5 d5, .slice B6 m6 d6] 49)))
    (hne : pa ≠ pa') : Calls Tryd.prog 27 #[.agg #[.string nm, .int .i64 kd, .int .i64 pa, .int .i64 de, .bool ge, .slice A1 n1 c1, .slice A2 n2 c2, .slice A3 n3 c3, .slice A4 n4 c4, .slice A5 n5 c5, .slice A6 n6 c6], .agg #[.string nm, .int .i64 kd, .int .i64 pa', .int .i64 de', .bool ge', .slice B1 m1 d1, .slice B2 m2 d2, .slice B3 m3 d3, .slice B4 m4 d4, .slice B5 m5 d5, .slice B6 m6 d6]] w fun e w' => e = .returned (.bool false) ∧ Below w.heap.size w w' := by
  have HB0 := Lib.hid hb0
  clear hb0
  have hs1 : (pa == pa') = false := by simpa using hne
  have hs2 : (pa != pa') = true := by simpa using hne
  have hs3 : ¬ pa = pa' := hne
  clear hne
  go_enter Tryd.func27, Tryd.ntmps27
  go_wp2_with fail
  go_ret
  exact ⟨rfl, HB0.out⟩
end Go.Proofs.YtcfelfhjhkenaaaDoor
