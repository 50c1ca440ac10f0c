/- DictClones: the walk. -/
import Derived.Test.YtfdihmbmlhlkgaaLPla
namespace Go.Proofs.Ytfdihmbmlhlkgaa
open Go.RowKit
attribute [local go_sem high] guardV eqV neqV guardP neqP
attribute [local go_sem] V.v

/-- clones of both, made since w1 -/
theorem both_clone {w0 w1 w2 w3 : World} {S : Nat → Prop} {g y g2 y2 : Nat} {L : List (V × V)} (h : HasB w0 w1 S g y L) (h2 : NewD w1 w2 g2 L) (h3 : IsRef w3 (Grew (fun _ => False) w2 w3) y2 L) (hb : Below w2.heap.size w2 w3) :
    HasB w0 w3 S g y L ∧ ∃ T, HasB w0 w3 T g2 y2 L ∧ Far S T := by
  obtain ⟨S1, d1, d2, d3⟩ := h2
  have hz := d3.size
  have hz3 := hb.size
  have h0 := h.z.bel.size
  refine ⟨(h.new d3).new hb, fun i => w1.heap.size ≤ i ∧ i < w3.heap.size, ⟨⟨S1, _, d1.new hb, h3, fun i hi hj => ?_, fun i hi => ⟨d2 i hi, by have := d1.lt i hi; omega⟩, fun i hi => hi.elim False.elim (fun h => ⟨by omega, h.2⟩)⟩, ⟨fun i hi => hi.2, fun i hi => by omega, (h.z.bel.trans (d3.mono h0)).trans (hb.mono (by omega))⟩⟩, fun i hi ht => by have := h.z.lt i hi; omega⟩
  exact hj.elim False.elim (fun h => by have := d1.lt i hi; omega)

set_option maxRecDepth 100000 in
set_option maxHeartbeats 4000000 in
theorem clones_walk (A0 : Option Addr) (n0 c0 : Nat) (l0 : List CallD) (A1 : Option Addr) (n1 c1 : Nat) (l1 : List CallD) (A2 : Option Addr) (n2 c2 : Nat) (l2 : List CallD) (w : World) (h0 : RdC w A0 n0 c0 l0) (h1 : RdC w A1 n1 c1 l1) (h2 : RdC w A2 n2 c2 l2) :
    Calls Try.prog 11 #[.slice A0 n0 c0, .slice A1 n1 c1, .slice A2 n2 c2] w fun e w' => e = .returned (.bool true) ∧ Below w.heap.size w w' := by
  have hn1 := h1.le
  have hn2 := h2.le
  have H0 := Lib.hid h0
  have HA := Lib.hid h1
  have HB := Lib.hid h2
  clear h0 h1 h2
  go_enter Try.func11, Try.ntmps11
  go_wp2_with fail
  refine (shown_any _).mono ?_
  rintro e w0 ⟨rfl, hb0⟩
  go_wp2_with fail
  refine (made_any A0 n0 c0 l0 w0 (H0.out.new hb0)).mono ?_
  rintro e w1 ⟨g, y, S, rfl, hB1⟩
  have hB1 : HasB w w1 S g y _ := ⟨hB1.two, hB1.z.lt, fun i hi => Nat.le_trans hb0.size (hB1.z.own i hi), hb0.trans (hB1.z.bel.mono hb0.size)⟩
  generalize madeAll (l0.take 40) = L at *
  clear hb0 H0
  go_wp2_with fail
  refine (clone_any hB1.dict.d).mono ?_
  rintro e w2 ⟨g2, rfl, hd2⟩
  obtain ⟨S0, hd2', -, hb2⟩ := id hd2
  have hB2 := hB1.new hb2
  obtain ⟨T1, T2, -, hr, -, -, -⟩ := hB2.two
  have hlen := hB2.facts.2.2
  clear hd2' hb2 S0
  go_wp2_with fail
  refine (rclone_any hr hlen).mono ?_
  rintro e w3 ⟨y2, rfl, hr3, hb3⟩
  obtain ⟨hX, T, hZ, hF⟩ := both_clone hB1 hd2 hr3 hb3
  clear hB1 hd2 hr3 hb3 hr hB2 hlen
  obtain ⟨U1, U2, hd, hr, -, -, -⟩ := id hZ.two
  go_wp2_with fail
  refine (alike_yes hd hr).mono ?_
  rintro e w4 ⟨rfl, hb4⟩
  have HX := Lib.hid (hX.new hb4)
  have HZ := Lib.hid (hZ.new hb4)
  have HF := Lib.hid hF
  clear hX hZ hF hd hr hb4
  go_wp2_with fail
  go_loopw [12] (fun i wr => ∃ (k : Nat) (S T : Nat → Prop) (L M : List (V × V)), k ≤ 40 ∧ i = .int .i64 k ∧ HasB w wr S g y L ∧ HasB w wr T g2 y2 M ∧ Far S T) (fun i _ => 40 - (intOf i).toNat)
  case atStart => exact ⟨0, S, T, L, L, Nat.zero_le _, rfl, HX.out, HZ.out, HF.out⟩
  case round =>
    clear HX HZ HF
    obtain ⟨k, S, T, L, M, hk40, rfl, hX, hZ, hF⟩ := hrel
    have HX := Lib.hid hX
    have HZ := Lib.hid hZ
    have HF := Lib.hid hF
    clear hX hZ hF
    by_cases h40 : k < 40
    · skip
      by_cases hlt1 : k < n1
      · by_cases hlt2 : k < n2
        · skip
          obtain ⟨b1, o1, x1, rfl, hb1, -, hok1, hc1⟩ := (HA.out.new HX.out.z.bel).at_ hlt1
          obtain ⟨d, ⟨q1, q2, q3⟩, ⟨q4, q5, q6⟩, raw⟩ := x1
          have z0 := hc1 0 (.int .i64 d) rfl
          have z1 := hc1 1 (.int .i64 q1) rfl
          have z2 := hc1 2 (.int .i64 q2) rfl
          have z3 := hc1 3 (.string q3) rfl
          have z4 := hc1 4 (.int .i64 q4) rfl
          have z5 := hc1 5 (.int .i64 q5) rfl
          have z6 := hc1 6 (.string q6) rfl
          have z7 := hc1 7 (.bool raw) rfl
          simp only [Nat.add_zero] at z0
          have HOK := Lib.hid hok1
          have HFO := Lib.hid (CallD.fit_ok (c := ⟨d, ⟨q1, q2, q3⟩, ⟨q4, q5, q6⟩, raw⟩) HOK.out)
          clear hc1 hok1
          go_wp2_with fail
          refine (fitc_any ⟨d, ⟨q1, q2, q3⟩, ⟨q4, q5, q6⟩, raw⟩ HOK.out.2.2 _).mono ?_
          rintro e w2 ⟨rfl, hb2'⟩
          have HX' := Lib.hid (HX.out.new hb2')
          have HZ' := Lib.hid (HZ.out.new hb2')
          clear HX HZ hb2' z0 z1 z2 z3 z4 z5 z6 z7 hb1
          generalize CallD.fit ⟨d, ⟨q1, q2, q3⟩, ⟨q4, q5, q6⟩, raw⟩ = f at *
          go_wp2_with fail
          refine (does_any HX'.out f HFO.out).mono ?_
          rintro e w3 ⟨rfl, hB3, hm3⟩
          generalize didL _ _ = L' at hB3
          have HZ := Lib.hid (HZ'.out.far HF.out.symm HX'.out.z.own hm3)
          have HF' := Lib.hid (Far.step (w' := w3) HF.out HZ'.out.z.lt)
          have HX := Lib.hid hB3
          clear HX' HZ' HF hB3 hm3 HOK HFO
          have HF := HF'
          clear HF'
          obtain ⟨b2, o2, x2, rfl, hb2, -, hok2, hc2⟩ := (HB.out.new HX.out.z.bel).at_ hlt2
          obtain ⟨d, ⟨q1, q2, q3⟩, ⟨q4, q5, q6⟩, raw⟩ := x2
          have z0 := hc2 0 (.int .i64 d) rfl
          have z1 := hc2 1 (.int .i64 q1) rfl
          have z2 := hc2 2 (.int .i64 q2) rfl
          have z3 := hc2 3 (.string q3) rfl
          have z4 := hc2 4 (.int .i64 q4) rfl
          have z5 := hc2 5 (.int .i64 q5) rfl
          have z6 := hc2 6 (.string q6) rfl
          have z7 := hc2 7 (.bool raw) rfl
          simp only [Nat.add_zero] at z0
          have HOK := Lib.hid hok2
          have HFO := Lib.hid (CallD.fit_ok (c := ⟨d, ⟨q1, q2, q3⟩, ⟨q4, q5, q6⟩, raw⟩) HOK.out)
          clear hc2 hok2
          go_wp2_with fail
          refine (fitc_any ⟨d, ⟨q1, q2, q3⟩, ⟨q4, q5, q6⟩, raw⟩ HOK.out.2.2 _).mono ?_
          rintro e w2 ⟨rfl, hb2'⟩
          have HX' := Lib.hid (HX.out.new hb2')
          have HZ' := Lib.hid (HZ.out.new hb2')
          clear HX HZ hb2' z0 z1 z2 z3 z4 z5 z6 z7 hb2
          generalize CallD.fit ⟨d, ⟨q1, q2, q3⟩, ⟨q4, q5, q6⟩, raw⟩ = f at *
          go_wp2_with fail
          refine (does_any HZ'.out f HFO.out).mono ?_
          rintro e w3 ⟨rfl, hB3, hm3⟩
          generalize didL _ _ = L' at hB3
          have HX := Lib.hid (HX'.out.far HF.out HZ'.out.z.own hm3)
          have HF' := Lib.hid (Far.symm (Far.step (w' := w3) HF.out.symm HX'.out.z.lt))
          have HZ := Lib.hid hB3
          clear HX' HZ' HF hB3 hm3 HOK HFO
          have HF := HF'
          clear HF'
          go_wp2
          go_roundw
          case rel => exact ⟨k + 1, _, _, _, _, by omega, by go_num, HX.out, HZ.out, HF.out⟩
          case measure => simp [intOf]; omega
        · skip
          obtain ⟨b1, o1, x1, rfl, hb1, -, hok1, hc1⟩ := (HA.out.new HX.out.z.bel).at_ hlt1
          obtain ⟨d, ⟨q1, q2, q3⟩, ⟨q4, q5, q6⟩, raw⟩ := x1
          have z0 := hc1 0 (.int .i64 d) rfl
          have z1 := hc1 1 (.int .i64 q1) rfl
          have z2 := hc1 2 (.int .i64 q2) rfl
          have z3 := hc1 3 (.string q3) rfl
          have z4 := hc1 4 (.int .i64 q4) rfl
          have z5 := hc1 5 (.int .i64 q5) rfl
          have z6 := hc1 6 (.string q6) rfl
          have z7 := hc1 7 (.bool raw) rfl
          simp only [Nat.add_zero] at z0
          have HOK := Lib.hid hok1
          have HFO := Lib.hid (CallD.fit_ok (c := ⟨d, ⟨q1, q2, q3⟩, ⟨q4, q5, q6⟩, raw⟩) HOK.out)
          clear hc1 hok1
          go_wp2_with fail
          refine (fitc_any ⟨d, ⟨q1, q2, q3⟩, ⟨q4, q5, q6⟩, raw⟩ HOK.out.2.2 _).mono ?_
          rintro e w2 ⟨rfl, hb2'⟩
          have HX' := Lib.hid (HX.out.new hb2')
          have HZ' := Lib.hid (HZ.out.new hb2')
          clear HX HZ hb2' z0 z1 z2 z3 z4 z5 z6 z7 hb1
          generalize CallD.fit ⟨d, ⟨q1, q2, q3⟩, ⟨q4, q5, q6⟩, raw⟩ = f at *
          go_wp2_with fail
          refine (does_any HX'.out f HFO.out).mono ?_
          rintro e w3 ⟨rfl, hB3, hm3⟩
          generalize didL _ _ = L' at hB3
          have HZ := Lib.hid (HZ'.out.far HF.out.symm HX'.out.z.own hm3)
          have HF' := Lib.hid (Far.step (w' := w3) HF.out HZ'.out.z.lt)
          have HX := Lib.hid hB3
          clear HX' HZ' HF hB3 hm3 HOK HFO
          have HF := HF'
          clear HF'
          go_wp2
          go_roundw
          case rel => exact ⟨k + 1, _, _, _, _, by omega, by go_num, HX.out, HZ.out, HF.out⟩
          case measure => simp [intOf]; omega
      · by_cases hlt2 : k < n2
        · skip
          obtain ⟨b2, o2, x2, rfl, hb2, -, hok2, hc2⟩ := (HB.out.new HX.out.z.bel).at_ hlt2
          obtain ⟨d, ⟨q1, q2, q3⟩, ⟨q4, q5, q6⟩, raw⟩ := x2
          have z0 := hc2 0 (.int .i64 d) rfl
          have z1 := hc2 1 (.int .i64 q1) rfl
          have z2 := hc2 2 (.int .i64 q2) rfl
          have z3 := hc2 3 (.string q3) rfl
          have z4 := hc2 4 (.int .i64 q4) rfl
          have z5 := hc2 5 (.int .i64 q5) rfl
          have z6 := hc2 6 (.string q6) rfl
          have z7 := hc2 7 (.bool raw) rfl
          simp only [Nat.add_zero] at z0
          have HOK := Lib.hid hok2
          have HFO := Lib.hid (CallD.fit_ok (c := ⟨d, ⟨q1, q2, q3⟩, ⟨q4, q5, q6⟩, raw⟩) HOK.out)
          clear hc2 hok2
          go_wp2_with fail
          refine (fitc_any ⟨d, ⟨q1, q2, q3⟩, ⟨q4, q5, q6⟩, raw⟩ HOK.out.2.2 _).mono ?_
          rintro e w2 ⟨rfl, hb2'⟩
          have HX' := Lib.hid (HX.out.new hb2')
          have HZ' := Lib.hid (HZ.out.new hb2')
          clear HX HZ hb2' z0 z1 z2 z3 z4 z5 z6 z7 hb2
          generalize CallD.fit ⟨d, ⟨q1, q2, q3⟩, ⟨q4, q5, q6⟩, raw⟩ = f at *
          go_wp2_with fail
          refine (does_any HZ'.out f HFO.out).mono ?_
          rintro e w3 ⟨rfl, hB3, hm3⟩
          generalize didL _ _ = L' at hB3
          have HX := Lib.hid (HX'.out.far HF.out HZ'.out.z.own hm3)
          have HF' := Lib.hid (Far.symm (Far.step (w' := w3) HF.out.symm HX'.out.z.lt))
          have HZ := Lib.hid hB3
          clear HX' HZ' HF hB3 hm3 HOK HFO
          have HF := HF'
          clear HF'
          go_wp2
          go_roundw
          case rel => exact ⟨k + 1, _, _, _, _, by omega, by go_num, HX.out, HZ.out, HF.out⟩
          case measure => simp [intOf]; omega
        · skip
          go_wp2
          go_roundw
          case rel => exact ⟨k + 1, _, _, _, _, by omega, by go_num, HX.out, HZ.out, HF.out⟩
          case measure => simp [intOf]; omega
    · obtain ⟨T1, T2, hd, hr, -, -, -⟩ := HX.out.two
      go_wp2_with fail
      refine (alike_yes hd hr).mono ?_
      rintro e w5 ⟨rfl, hb5⟩
      have HX' := Lib.hid (HX.out.new hb5)
      obtain ⟨U1, U2, hd2, hr2, -, -, -⟩ := (HZ.out.new hb5).two
      clear hd hr hb5 HX HZ
      go_wp2_with fail
      refine (alike_yes hd2 hr2).mono ?_
      rintro e w6 ⟨rfl, hb6⟩
      have HX := Lib.hid (HX'.out.new hb6)
      clear HX' hd2 hr2 hb6
      go_wp2_with fail
      go_ret
      exact ⟨rfl, HX.out.z.bel⟩
end Go.Proofs.Ytfdihmbmlhlkgaa
