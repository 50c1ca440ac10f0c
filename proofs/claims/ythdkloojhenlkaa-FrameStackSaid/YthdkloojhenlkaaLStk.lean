/- FrameStack: the walk. -/
import Derived.Test.YthdkloojhenlkaaRws
import Derived.IntWalk
namespace Go.Proofs.Ythdkloojhenlkaa
open Go.RowKit
attribute [local go_sem high] guardV eqV neqV
attribute [local go_sem] V.v

set_option maxRecDepth 100000 in
set_option maxHeartbeats 4000000 in
theorem stack_walk (A B : Option Addr) (na nb ca cb : Nat) (xa xb : List V) (w : World) (hA : RdV w A na ca xa) (hB : RdV w B nb cb xb) :
    Calls Try.prog 7 #[.slice A na ca, .slice B nb cb] w fun e w' => e = .returned (.bool true) ∧ Below w.heap.size w w' := by
  go_enter Try.func7, Try.ntmps7
  go_wp2_with fail
  refine (shown_any _).mono ?_
  rintro e w1 ⟨rfl, hb1⟩
  have HB1 := hb1
  have hA := hA.new hb1
  have hB := hB.new hb1
  have hz1 := hb1.size
  clear hb1
  go_wp2_with fail
  refine (empty_env _).mono ?_
  rintro e w2 ⟨S2, g, rfl, E2⟩
  have hA := hA.new E2.bel
  have hB := hB.new E2.bel
  go_wp2_with fail
  refine (row_env E2 hA).mono ?_
  rintro e w3 ⟨Ax, cx, rfl, RX, E3, hb3⟩
  have hB := hB.new hb3
  clear hA E2 hb3
  have hX := cutRow_length xa
  generalize cutRow xa = X at *
  go_wp2_with fail
  refine (row_env E3 hB).mono ?_
  rintro e w4 ⟨Ay, cy, rfl, RY, E4, hb4⟩
  have RX := RX.below hb4
  clear hB E3 hb4
  have hY := cutRow_length xb
  generalize cutRow xb = Y at *
  go_wp2_with fail
  refine (push_env E4 _ _ _ _ RX.rd (by simp [Fr.empty, Fr.new, Fr.at_]; omega)).mono ?_
  rintro e w5 ⟨S5, rfl, E5, K5⟩
  have RX := RX.kept K5
  have RY := RY.kept K5
  clear E4 K5
  have E5 : Env w1 w5 S5 g (fv X) := E5
  go_wp2_with fail
  refine (push_env E5 _ _ _ _ RY.rd (by simp [fv]; omega)).mono ?_
  rintro e w6 ⟨S6, rfl, E6, K6⟩
  have RX := RX.kept K6
  have RY := RY.kept K6
  clear E5 K6
  have E6 : Env w1 w6 S6 g (fv (X ++ Y)) := E6
  go_wp2_with fail
  refine (push_env E6 _ _ _ _ (nil_rdV _) (by simp [fv]; omega)).mono ?_
  rintro e w7 ⟨S7, rfl, E7, K7⟩
  have RX := RX.kept K7
  have RY := RY.kept K7
  clear E6 K7
  have E7 : Env w1 w7 S7 g (fv (X ++ Y)) := by
    have := E7
    rw [fv_push, List.append_nil] at this
    exact this
  have hn7 : Below w7.heap.size w7 (w7.alloc (.cells #[] 44)) := (by repeat (first | exact Below.refl _ _ | assumption | refine Below.setCell ?_ (by first | (simp; done) | (simp; omega) | omega) _ | refine below_drewN ?_ _ | refine Below.drew ?_ | refine Below.alloc ?_ (by first | (simp; done) | (simp; omega) | omega) _))
  have RX8 := RX.rd.new hn7
  have hlen : X.length + Y.length ≤ 24 := by omega
  go_wp2_with (first
    | (at_builtin; refine wpList_appendV _ rfl (.tmp 50) (.tmp 51) rfl (.slice (some ⟨w7.heap.size, 0, none⟩) 0 0) [] rfl (empty_own w7) Ax X.length cx X rfl RX8 (by simp; omega) ?_; intro v1 wa hv1 hg1 hat1; have HA1 := Lib.hid (hn7.grown hg1 (by simp) (fun k e => by simp [Value.ownBlock] at e; omega)); have HV1 := Lib.hid hv1; have HAT1 := Lib.hid hat1; have RYa := RY.rd.new HA1.out; clear hv1 hg1 hat1)
    | (at_builtin; refine wpList_appendV _ rfl (.tmp 52) (.tmp 53) rfl v1 ([] ++ X) rfl HV1.out Ay Y.length cy Y rfl RYa (by simp; omega) ?_; intro v2 wb hv2 hg2 hat2; have HV2 := Lib.hid hv2; have HG2 := Lib.hid hg2; have HAT2 := Lib.hid hat2; clear hv2 hg2 hat2 RYa))
  have hbA := HA1.out
  have hbB : Below w7.heap.size w7 wb := hbA.grown HG2.out hbA.size (fun k e => by
    rcases HAT1.out with e' | e' <;> rw [e'] at e <;> simp [Value.ownBlock] at e <;> omega)
  have hV2 := HV2.out
  obtain ⟨AZ, N, cz, rfl, RZ⟩ := RowR.of_ownN (S := S7) hV2 (fun b e hs => by
    have h7 := E7.lt hs
    have hs1 := hbA.size
    rcases HAT2.out with e' | e' <;> rw [e'] at e
    · rcases HAT1.out with e2 | e2 <;> rw [e2] at e <;> simp [Value.ownBlock] at e <;> omega
    · simp at e; omega)
  have EL := E7.new hbB
  have RXL := RX.below hbB
  have RYL := RY.below hbB
  simp only [List.nil_append] at RZ
  have hNN : X.length + Y.length = N := by have := RZ.rd.1; rw [List.length_append] at this; exact this
  clear HA1 HV1 HAT1 HV2 HG2 HAT2 hbA hbB hV2 E7 RX RY RX8 hn7
  have HNN := Lib.hid hNN
  have hN24 : N ≤ 24 := by omega
  clear hNN
  go_loopw [10] (fun i wr => ∃ k : Nat, k ≤ N ∧ i = .int .i64 k ∧ Env w1 wr S7 g (fv (X ++ Y)) ∧ RowR wr S7 Ax X.length cx X ∧ RowR wr S7 Ay Y.length cy Y ∧ RowR wr S7 AZ N cz (X ++ Y)) (fun i _ => N - (intOf i).toNat)
  case atStart => exact ⟨0, by omega, rfl, EL, RXL, RYL, RZ⟩
  case round =>
    clear EL RXL RYL RZ
    obtain ⟨k, hk, rfl, EL, RXL, RYL, RZ⟩ := hrel
    by_cases hlt : k < N
    · obtain ⟨t1, t2⟩ := fv_top (l := X ++ Y) (i := k) (by rw [List.length_append, HNN.out]; exact hlt)
      have HT1 := Lib.hid t1
      have HT2 := Lib.hid t2
      clear t1 t2
      go_wp2_with fail
      refine (top_env EL k).mono ?_
      rintro e wt ⟨rfl, Et, hbt⟩
      rw [HT1.out, HT2.out]
      have RXt := RXL.below hbt
      have RYt := RYL.below hbt
      have RZt := RZ.below hbt
      clear EL RXL RYL RZ hbt
      obtain ⟨b, o, rfl, hbz, z0, z1, z2⟩ := RZt.at_ (i := N - 1 - k) (by omega)
      have eix : (X ++ Y)[(X ++ Y).length - 1 - k]'(by rw [List.length_append, HNN.out]; omega) = (X ++ Y)[N - 1 - k]'(by rw [List.length_append, HNN.out]; omega) := by congr 1; rw [List.length_append, HNN.out]
      rw [eix]
      generalize (X ++ Y)[N - 1 - k]'(by rw [List.length_append, HNN.out]; omega) = v at *
      clear eix HT1 HT2
      have hnt : Below wt.heap.size wt (wt.alloc (.cells #[.int .i64 v.k, .int .i64 v.n, .string v.s] 44)) := (by repeat (first | exact Below.refl _ _ | assumption | refine Below.setCell ?_ (by first | (simp; done) | (simp; omega) | omega) _ | refine below_drewN ?_ _ | refine Below.drew ?_ | refine Below.alloc ?_ (by first | (simp; done) | (simp; omega) | omega) _))
      have En := Et.new hnt
      have RXn := RXt.below hnt
      have RYn := RYt.below hnt
      have RZn := RZt.below hnt
      clear Et RXt RYt RZt hnt
      have svv : V.same v v = true := V.same_iff.2 rfl
      go_wp2_with fail
      have a1 : IntKind.i64.wrap ((N : Int) - 1) = (N : Int) - 1 := IntWalk.i64_in _ (by omega)
      have a2 : IntKind.i64.wrap ((N : Int) - 1 - (k : Int)) = (N : Int) - 1 - (k : Int) := IntWalk.i64_in _ (by omega)
      have a3 : (0 : Int) ≤ (N : Int) - 1 - (k : Int) := by omega
      have a5 : (N : Int) - 1 - (k : Int) < (N : Int) := by omega
      have a4 : ((N : Int) - 1 - (k : Int)).toNat = N - 1 - k := by omega
      go_quiet (fail)
      clear a1 a2 a3 a4 a5
      go_wp2
      go_roundw
      case rel => exact ⟨k + 1, by omega, by go_num, En.new (by repeat (first | exact Below.refl _ _ | assumption | refine Below.setCell ?_ (by first | (simp; done) | (simp; omega) | omega) _ | refine below_drewN ?_ _ | refine Below.drew ?_ | refine Below.alloc ?_ (by first | (simp; done) | (simp; omega) | omega) _)), RXn.below (by repeat (first | exact Below.refl _ _ | assumption | refine Below.setCell ?_ (by first | (simp; done) | (simp; omega) | omega) _ | refine below_drewN ?_ _ | refine Below.drew ?_ | refine Below.alloc ?_ (by first | (simp; done) | (simp; omega) | omega) _)), RYn.below (by repeat (first | exact Below.refl _ _ | assumption | refine Below.setCell ?_ (by first | (simp; done) | (simp; omega) | omega) _ | refine below_drewN ?_ _ | refine Below.drew ?_ | refine Below.alloc ?_ (by first | (simp; done) | (simp; omega) | omega) _)), RZn.below (by repeat (first | exact Below.refl _ _ | assumption | refine Below.setCell ?_ (by first | (simp; done) | (simp; omega) | omega) _ | refine below_drewN ?_ _ | refine Below.drew ?_ | refine Below.alloc ?_ (by first | (simp; done) | (simp; omega) | omega) _))⟩
      case measure => simp [intOf]; omega
    · have hkN : k = N := by omega
      have HKN := Lib.hid hkN
      clear hkN
      -- BEHIND
      have hlN : (X ++ Y).length = N := by rw [List.length_append]; exact HNN.out
      have HLN := Lib.hid hlN
      clear hlN
      go_wp2_with fail
      refine (top_env EL N).mono ?_
      rintro e wt1 ⟨rfl, Et1, hbt1⟩
      rw [fv_topNo (l := X ++ Y) (i := N) (by rw [HLN.out]; omega)]
      generalize (fv (X ++ Y)).top N = va1 at *
      have RX1 := RXL.below hbt1
      clear RXL
      have RY1 := RYL.below hbt1
      clear RYL
      have RZ1 := RZ.below hbt1
      clear RZ
      clear EL hbt1
      have hnt2 : Below wt1.heap.size wt1 (wt1.alloc (.cells #[.int .i64 va1.k, .int .i64 va1.n, .string va1.s] 44)) := (by repeat (first | exact Below.refl _ _ | assumption | refine Below.setCell ?_ (by first | (simp; done) | (simp; omega) | omega) _ | refine below_drewN ?_ _ | refine Below.drew ?_ | refine Below.alloc ?_ (by first | (simp; done) | (simp; omega) | omega) _))
      have E2 := Et1.new hnt2
      have RX2 := RX1.below hnt2
      clear RX1
      have RY2 := RY1.below hnt2
      clear RY1
      have RZ2 := RZ1.below hnt2
      clear RZ1
      clear Et1 hnt2
      go_wp2_with fail
      refine (top_env E2 (-1)).mono ?_
      rintro e wt3 ⟨rfl, Et3, hbt3⟩
      rw [fv_topNo (l := X ++ Y) (i := (-1)) (by rw [HLN.out]; omega)]
      generalize (fv (X ++ Y)).top (-1) = va3 at *
      have RX3 := RX2.below hbt3
      clear RX2
      have RY3 := RY2.below hbt3
      clear RY2
      have RZ3 := RZ2.below hbt3
      clear RZ2
      clear E2 hbt3
      have hnt4 : Below wt3.heap.size wt3 (wt3.alloc (.cells #[.int .i64 va3.k, .int .i64 va3.n, .string va3.s] 44)) := (by repeat (first | exact Below.refl _ _ | assumption | refine Below.setCell ?_ (by first | (simp; done) | (simp; omega) | omega) _ | refine below_drewN ?_ _ | refine Below.drew ?_ | refine Below.alloc ?_ (by first | (simp; done) | (simp; omega) | omega) _))
      have E4 := Et3.new hnt4
      have RX4 := RX3.below hnt4
      clear RX3
      have RY4 := RY3.below hnt4
      clear RY3
      have RZ4 := RZ3.below hnt4
      clear RZ3
      clear Et3 hnt4
      go_wp2_with fail
      refine (take_env E4 ((N : Int) + 1) (by rw [show (fv (X ++ Y)).values.length = N from HLN.out]; omega)).mono ?_
      rintro e wk5 ⟨Sk5, vk5, rfl, Ok5, Nk5, Ek5, Kk5⟩
      obtain ⟨f1, f2, f3⟩ := fv_takeNo (l := X ++ Y) (i := (N : Int) + 1) (by rw [HLN.out]; omega)
      rw [f1]
      rw [f2] at Ok5
      rw [f3] at Ek5
      clear f1 f2 f3
      have RX5 := RX4.kept Kk5
      clear RX4
      have RY5 := RY4.kept Kk5
      clear RY4
      have RZ5 := RZ4.kept Kk5
      clear RZ4
      clear E4 Kk5
      obtain ⟨At5, nt5, ct5, rfl, Rt5⟩ := RowR.of_ownN (S := Sk5) Ok5 (fun b e => (Nk5 b e).2)
      clear Ok5 Nk5 Rt5
      go_wp2_with fail
      refine (take_env Ek5 (-1) (by rw [show (fv (X ++ Y)).values.length = N from HLN.out]; omega)).mono ?_
      rintro e wk6 ⟨Sk6, vk6, rfl, Ok6, Nk6, Ek6, Kk6⟩
      obtain ⟨f1, f2, f3⟩ := fv_takeNo (l := X ++ Y) (i := -1) (by omega)
      rw [f1]
      rw [f2] at Ok6
      rw [f3] at Ek6
      clear f1 f2 f3
      have RX6 := RX5.kept Kk6
      clear RX5
      have RY6 := RY5.kept Kk6
      clear RY5
      have RZ6 := RZ5.kept Kk6
      clear RZ5
      clear Ek5 Kk6
      obtain ⟨At6, nt6, ct6, rfl, Rt6⟩ := RowR.of_ownN (S := Sk6) Ok6 (fun b e => (Nk6 b e).2)
      clear Ok6 Nk6 Rt6
      go_wp2_with fail
      refine (take_env Ek6 Y.length (by rw [show (fv (X ++ Y)).values.length = N from HLN.out]; omega)).mono ?_
      rintro e wk7 ⟨Sk7, vk7, rfl, Ok7, Nk7, Ek7, Kk7⟩
      obtain ⟨f1, f2, f3⟩ := fv_take X Y
      rw [f1]
      rw [f2] at Ok7
      rw [f3] at Ek7
      clear f1 f2 f3
      have RX7 := RX6.kept Kk7
      clear RX6
      have RY7 := RY6.kept Kk7
      clear RY6
      have RZ7 := RZ6.kept Kk7
      clear RZ6
      clear Ek6 Kk7
      obtain ⟨AT, nT, cT, rfl, RT⟩ := RowR.of_ownN (S := Sk7) Ok7 (fun b e => (Nk7 b e).2)
      clear Ok7 Nk7
      go_wp2_with fail
      refine (row_same AT Ay nT Y.length cT cy Y Y _ RT.rd RY7.rd).mono ?_
      rintro e wq ⟨rfl, q, rfl⟩
      rw [rowSame_self]
      have Eq := Ek7.new (w' := wk7.drewN q) (by repeat (first | exact Below.refl _ _ | assumption | refine Below.setCell ?_ (by first | (simp; done) | (simp; omega) | omega) _ | refine below_drewN ?_ _ | refine Below.drew ?_ | refine Below.alloc ?_ (by first | (simp; done) | (simp; omega) | omega) _))
      have RXq := RX7.below (w' := wk7.drewN q) (by repeat (first | exact Below.refl _ _ | assumption | refine Below.setCell ?_ (by first | (simp; done) | (simp; omega) | omega) _ | refine below_drewN ?_ _ | refine Below.drew ?_ | refine Below.alloc ?_ (by first | (simp; done) | (simp; omega) | omega) _))
      clear Ek7 RX7 RY7 RZ7 RT
      obtain ⟨Av, nv, cv, v8, hv, _⟩ := Eq.values
      obtain rfl : X.length = nv := hv.1
      clear hv
      have hne : ((X.length : Int) != (X.length : Int)) = false := by simp
      go_wp2
      clear v8 hne
      go_loopw [23] (fun i wr => ∃ (k : Nat) (S : Nat → Prop), k ≤ X.length ∧ i = .int .i64 ((k : Int) - 1) ∧ Env w1 wr S g (fv (X.take k)) ∧ RowR wr S Ax X.length cx X) (fun i _ => (intOf i + 1).toNat)
      case atStart => exact ⟨X.length, Sk7, Nat.le_refl _, rfl, by rw [List.take_length]; exact Eq, RXq⟩
      case round =>
        clear Eq RXq
        obtain ⟨k, S, hk, rfl, Eq, RXq⟩ := hrel
        cases k with
        | zero =>
          rw [show (((0 : Nat) : Int) - 1) = -1 from rfl]
          have Eq : Env w1 _ S g (fv []) := Eq
          go_wp2_with fail
          refine (pop_env Eq).mono ?_
          rintro e wp ⟨Sp, rfl, Ep, Kp⟩
          rw [fv_topNo (l := []) (i := 0) (by simp)]
          generalize (fv []).top 0 = va at *
          have Ep : Env w1 wp Sp g (fv []) := Ep
          have En := Ep.new (w' := wp.alloc (.cells #[.int .i64 va.k, .int .i64 va.n, .string va.s] 44)) (by repeat (first | exact Below.refl _ _ | assumption | refine Below.setCell ?_ (by first | (simp; done) | (simp; omega) | omega) _ | refine below_drewN ?_ _ | refine Below.drew ?_ | refine Below.alloc ?_ (by first | (simp; done) | (simp; omega) | omega) _))
          clear Ep Eq RXq Kp
          go_wp2_with fail
          refine (take_env En 0 (by decide)).mono ?_
          rintro e wz ⟨Sz, vz, rfl, Oz, Nz, Ez, Kz⟩
          obtain ⟨f1, f2, f3⟩ := fv_take [] []
          simp only [List.append_nil, List.length_nil, Int.natCast_zero] at f1 f2 f3
          rw [f1]
          rw [f2] at Oz
          obtain ⟨Az, nz, cz2, rfl, Rz⟩ := RowR.of_ownN (S := Sz) Oz (fun b e => (Nz b e).2)
          obtain rfl : 0 = nz := Rz.rd.1
          have HEz := Lib.hid Ez.bel
          clear f1 f2 f3 Oz Nz Ez Kz Rz En
          go_wp2
          go_ret
          exact ⟨rfl, HB1.trans (HEz.out.mono hz1)⟩
        | succ j =>
          rw [show (((j + 1 : Nat) : Int) - 1) = (j : Int) from by omega]
          have hjx : j < X.length := by omega
          have hlj : (X.take (j + 1)).length = j + 1 := by rw [List.length_take]; omega
          obtain ⟨t1, t2⟩ := fv_top (l := X.take (j + 1)) (i := 0) (by omega)
          have t3 : (X.take (j + 1))[(X.take (j + 1)).length - 1 - 0]'(by omega) = X[j] := by
            rw [List.getElem_take]
            congr 1
            omega
          rw [t3] at t2
          have HT1 := Lib.hid t1
          have HT2 := Lib.hid t2
          clear t1 t2 t3
          go_wp2_with fail
          refine (pop_env Eq).mono ?_
          rintro e wp ⟨Sp, rfl, Ep, Kp⟩
          rw [show (fv (X.take (j + 1))).topOk 0 = true from HT1.out, show (fv (X.take (j + 1))).top 0 = X[j] from HT2.out]
          have RXp := RXq.kept Kp
          have Ep : Env w1 wp Sp g (fv (X.take j)) := by
            have := Ep
            rw [fv_pop, List.dropLast_eq_take, hlj, List.take_take] at this
            simpa using this
          clear Eq RXq Kp HT1 HT2 hlj
          obtain ⟨b, o, rfl, hbx, z0, z1, z2⟩ := RXp.at_ hjx
          generalize X[j] = v at *
          have hnt : Below wp.heap.size wp (wp.alloc (.cells #[.int .i64 v.k, .int .i64 v.n, .string v.s] 44)) := (by repeat (first | exact Below.refl _ _ | assumption | refine Below.setCell ?_ (by first | (simp; done) | (simp; omega) | omega) _ | refine below_drewN ?_ _ | refine Below.drew ?_ | refine Below.alloc ?_ (by first | (simp; done) | (simp; omega) | omega) _))
          have En := Ep.new hnt
          have RXn := RXp.below hnt
          clear Ep RXp hnt
          have svv : V.same v v = true := V.same_iff.2 rfl
          go_wp2_with fail
          go_quiet (fail)
          go_wp2
          go_roundw
          case rel => exact ⟨j, Sp, by omega, rfl, En.new (by repeat (first | exact Below.refl _ _ | assumption | refine Below.setCell ?_ (by first | (simp; done) | (simp; omega) | omega) _ | refine below_drewN ?_ _ | refine Below.drew ?_ | refine Below.alloc ?_ (by first | (simp; done) | (simp; omega) | omega) _)), RXn.below (by repeat (first | exact Below.refl _ _ | assumption | refine Below.setCell ?_ (by first | (simp; done) | (simp; omega) | omega) _ | refine below_drewN ?_ _ | refine Below.drew ?_ | refine Below.alloc ?_ (by first | (simp; done) | (simp; omega) | omega) _))⟩
          case measure => simp [intOf]
end Go.Proofs.Ythdkloojhenlkaa
