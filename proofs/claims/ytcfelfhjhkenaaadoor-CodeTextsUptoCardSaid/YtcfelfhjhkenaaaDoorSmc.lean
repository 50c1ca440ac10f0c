/- The reference's SameCode. -/
import Derived.Test.YtcfelfhjhkenaaaDoorSam
namespace Go.Proofs.YtcfelfhjhkenaaaDoor
open Go.RowKit
set_option linter.unusedVariables false
set_option linter.unusedSimpArgs false
attribute [local go_sem] Oper.semAt_some
attribute [local go_sem high] guardV neqV

/-- it answers whether P -/
def SaysC (w : World) (P : Prop) (e : Ending) (w' : World) : Prop := ∃ b : Bool, e = .returned (.bool b) ∧ (b = true ↔ P) ∧ Below w.heap.size w w'
theorem saysC_no {w w' : World} {P : Prop} (h : ¬ P) (hb : Below w.heap.size w w') : SaysC w P (.returned (.bool false)) w' := ⟨false, rfl, ⟨fun h' => absurd h' (by decide), fun h' => absurd h' h⟩, hb⟩
theorem saysC_yes {w w' : World} {P : Prop} (h : P) (hb : Below w.heap.size w w') : SaysC w P (.returned (.bool true)) w' := ⟨true, rfl, ⟨fun _ => h, fun _ => rfl⟩, hb⟩
theorem guardI (w : World) (op : BinOp) (x y : Operand) (xs ys : Array Value) : (eqGuard op 64 x y (.agg xs) (.agg ys)).run Tryd.prog w = .ok () w :=
  run_eqGuard_agg w op 64 x y xs ys (by kernel_rfl)
theorem stoodI : Tryd.prog.stoodInHeld 64 = false := by kernel_rfl
theorem neqI (w : World) (a b a' b' : Int) : (binOp .neq 64 (.agg #[.int .i64 a, .int .i64 b]) (.agg #[.int .i64 a', .int .i64 b'])).run Tryd.prog w = .ok (.bool (!decide (a = a' ∧ b = b'))) w := by
  rw [run_neq_struct, run_equalIn_agg w 9999 64 _ _ (by kernel_rfl) stoodI]
  simp [Op.eqFields, go_sem, Program.fieldsOf, Tryd.underlying64]
  by_cases h1 : a = a' <;> by_cases h2 : b = b' <;> simp [h1, h2]
attribute [local go_sem high] guardI neqI
set_option maxRecDepth 100000 in
set_option maxHeartbeats 4000000 in
theorem same_rest {w : World} (nm : ByteArray) (kd pa de : Int) (ge : Bool) (lo ce fr na : List ByteArray) (co : List ValD) (is : List (Int × Int)) (co' : List ValD) (is' : List (Int × Int))
    {A1 A2 A3 A4 A5 A6 B1 B2 B3 B4 B5 B6 : Option Addr} {n1 c1 n2 c2 n3 c3 n4 c4 n5 c5 n6 c6 m1 d1 m2 d2 m3 d3 m4 d4 d5 d6 : Nat}
    (hb0 : Below w.heap.size w ((w.alloc (.cells #[.string nm, .int .i64 kd, .int .i64 pa, .int .i64 de, .bool ge, .slice A1 n1 c1, .slice A2 n2 c2, .slice A3 n3 c3, .slice A4 n4 c4, .slice A5 n5 c5, .slice A6 n6 c6] 49)).alloc (.cells #[.string nm, .int .i64 kd, .int .i64 pa, .int .i64 de, .bool ge, .slice B1 m1 d1, .slice B2 m2 d2, .slice B3 m3 d3, .slice B4 m4 d4, .slice B5 n5 d5, .slice B6 n6 d6] 49))) 
    (h1 : RdS w A1 n1 c1 lo) (h2 : RdS w A2 n2 c2 ce) (h3 : RdS w A3 n3 c3 fr) (h4 : RdS w A4 n4 c4 na) (h5 : RdF valCs 3 w A5 n5 c5 co) (h6 : RdF insCs 2 w A6 n6 c6 is)
    (g1 : RdS w B1 m1 d1 lo) (g2 : RdS w B2 m2 d2 ce) (g3 : RdS w B3 m3 d3 fr) (g4 : RdS w B4 m4 d4 na) (g5 : RdF valCs 3 w B5 n5 d5 co') (g6 : RdF insCs 2 w B6 n6 d6 is') :
    Calls Tryd.prog 27 #[.agg #[.string nm, .int .i64 kd, .int .i64 pa, .int .i64 de, .bool ge, .slice A1 n1 c1, .slice A2 n2 c2, .slice A3 n3 c3, .slice A4 n4 c4, .slice A5 n5 c5, .slice A6 n6 c6], .agg #[.string nm, .int .i64 kd, .int .i64 pa, .int .i64 de, .bool ge, .slice B1 m1 d1, .slice B2 m2 d2, .slice B3 m3 d3, .slice B4 m4 d4, .slice B5 n5 d5, .slice B6 n6 d6]] w (SaysC w ((⟨nm, kd, pa, de, ge, lo, ce, fr, na, co, is⟩ : CodeD) = ⟨nm, kd, pa, de, ge, lo, ce, fr, na, co', is'⟩)) := by
  have HB0 := Lib.hid hb0
  clear hb0
  have H1 := Lib.hid h1
  have G1 := Lib.hid g1
  have H2 := Lib.hid h2
  have G2 := Lib.hid g2
  have H3 := Lib.hid h3
  have G3 := Lib.hid g3
  have H4 := Lib.hid h4
  have G4 := Lib.hid g4
  have H5 := Lib.hid h5
  have G5 := Lib.hid g5
  have H6 := Lib.hid h6
  have G6 := Lib.hid g6
  have hl5 := h5.1
  have gl5 := g5.1
  have hz5 := h5.2.le
  have gz5 := g5.2.le
  have hl6 := h6.1
  have gl6 := g6.1
  have hz6 := h6.2.le
  have gz6 := g6.2.le
  clear h1 h2 h3 h4 h5 h6 g1 g2 g3 g4 g5 g6
  go_enter Tryd.func27, Tryd.ntmps27
  go_wp2_with fail
  refine (sameTexts_any (H1.out.new HB0.out) (G1.out.new HB0.out)).mono ?_
  rintro e w1 ⟨rfl, q1', rfl⟩
  rw [sameB_yes rfl]
  obtain ⟨q1, hq1⟩ : ∃ q, q = q1' := ⟨_, rfl⟩
  rw [← hq1]
  clear hq1
  go_wp2_with fail
  refine (sameTexts_any (H2.out.new (below_drewN HB0.out q1)) (G2.out.new (below_drewN HB0.out q1))).mono ?_
  rintro e w2 ⟨rfl, q2', rfl⟩
  rw [sameB_yes rfl]
  rw [drewN_add]
  obtain ⟨q2, hq2⟩ : ∃ q, q = q1 + q2' := ⟨_, rfl⟩
  rw [← hq2]
  clear hq2
  go_wp2_with fail
  refine (sameTexts_any (H3.out.new (below_drewN HB0.out q2)) (G3.out.new (below_drewN HB0.out q2))).mono ?_
  rintro e w3 ⟨rfl, q3', rfl⟩
  rw [sameB_yes rfl]
  rw [drewN_add]
  obtain ⟨q3, hq3⟩ : ∃ q, q = q2 + q3' := ⟨_, rfl⟩
  rw [← hq3]
  clear hq3
  go_wp2_with fail
  refine (sameTexts_any (H4.out.new (below_drewN HB0.out q3)) (G4.out.new (below_drewN HB0.out q3))).mono ?_
  rintro e w4 ⟨rfl, q4', rfl⟩
  rw [sameB_yes rfl]
  rw [drewN_add]
  obtain ⟨q4, hq4⟩ : ∃ q, q = q3 + q4' := ⟨_, rfl⟩
  rw [← hq4]
  clear hq4
  go_wp2_with fail
  have x9 := (Blk.new w 49 #[.string nm, .int .i64 kd, .int .i64 pa, .int .i64 de, .bool ge, .slice A1 n1 c1, .slice A2 n2 c2, .slice A3 n3 c3, .slice A4 n4 c4, .slice A5 n5 c5, .slice A6 n6 c6]).new' (show Below (w.alloc (.cells #[.string nm, .int .i64 kd, .int .i64 pa, .int .i64 de, .bool ge, .slice A1 n1 c1, .slice A2 n2 c2, .slice A3 n3 c3, .slice A4 n4 c4, .slice A5 n5 c5, .slice A6 n6 c6] 49)).heap.size (w.alloc (.cells #[.string nm, .int .i64 kd, .int .i64 pa, .int .i64 de, .bool ge, .slice A1 n1 c1, .slice A2 n2 c2, .slice A3 n3 c3, .slice A4 n4 c4, .slice A5 n5 c5, .slice A6 n6 c6] 49)) ((w.alloc (.cells #[.string nm, .int .i64 kd, .int .i64 pa, .int .i64 de, .bool ge, .slice A1 n1 c1, .slice A2 n2 c2, .slice A3 n3 c3, .slice A4 n4 c4, .slice A5 n5 c5, .slice A6 n6 c6] 49)).alloc (.cells #[.string nm, .int .i64 kd, .int .i64 pa, .int .i64 de, .bool ge, .slice B1 m1 d1, .slice B2 m2 d2, .slice B3 m3 d3, .slice B4 m4 d4, .slice B5 n5 d5, .slice B6 n6 d6] 49)) from (by repeat (first | exact Below.refl _ _ | assumption | refine Below.setCell ?_ (by first | (simp; done) | (simp; omega) | omega) _ | refine below_drewN ?_ _ | refine Below.drew ?_ | refine Below.alloc ?_ (by first | (simp; done) | (simp; omega) | omega) _)))
  have y9 := Blk.new (w.alloc (.cells #[.string nm, .int .i64 kd, .int .i64 pa, .int .i64 de, .bool ge, .slice A1 n1 c1, .slice A2 n2 c2, .slice A3 n3 c3, .slice A4 n4 c4, .slice A5 n5 c5, .slice A6 n6 c6] 49)) 49 #[.string nm, .int .i64 kd, .int .i64 pa, .int .i64 de, .bool ge, .slice B1 m1 d1, .slice B2 m2 d2, .slice B3 m3 d3, .slice B4 m4 d4, .slice B5 n5 d5, .slice B6 n6 d6]
  rw [show (w.alloc (.cells #[.string nm, .int .i64 kd, .int .i64 pa, .int .i64 de, .bool ge, .slice A1 n1 c1, .slice A2 n2 c2, .slice A3 n3 c3, .slice A4 n4 c4, .slice A5 n5 c5, .slice A6 n6 c6] 49)).heap.size = w.heap.size + 1 by simp] at y9
  have HBX := Lib.hid x9
  have HBY := Lib.hid y9
  clear x9 y9
  generalize (w.alloc (.cells #[.string nm, .int .i64 kd, .int .i64 pa, .int .i64 de, .bool ge, .slice A1 n1 c1, .slice A2 n2 c2, .slice A3 n3 c3, .slice A4 n4 c4, .slice A5 n5 c5, .slice A6 n6 c6] 49)).alloc (.cells #[.string nm, .int .i64 kd, .int .i64 pa, .int .i64 de, .bool ge, .slice B1 m1 d1, .slice B2 m2 d2, .slice B3 m3 d3, .slice B4 m4 d4, .slice B5 n5 d5, .slice B6 n6 d6] 49) = W at *
  have p9 := HBX.out.cell 9
  have p10 := HBX.out.cell 10
  have r9 := HBY.out.cell 9
  have r10 := HBY.out.cell 10
  have pl := HBX.out.lt
  have rl := HBY.out.lt
  simp only [List.getElem?_toArray, List.getElem?_cons_zero, List.getElem?_cons_succ] at p9 p10 r9 r10
  generalize w.heap.size + 1 = yb at *
  go_loopw [5] (fun i wr => ∃ k q : Nat, k ≤ n5 ∧ i = .int .i64 k ∧ co.take k = co'.take k ∧ wr = W.drewN q) (fun i _ => n5 - (intOf i).toNat)
  case atStart => exact ⟨0, q4, by omega, rfl, rfl, rfl⟩
  case round =>
    obtain ⟨k, q, hk, rfl, he, rfl⟩ := hrel
    have HE := Lib.hid he
    clear he
    by_cases hlt : k < n5
    · obtain ⟨u, hu⟩ : ∃ u, co[k]? = some u := ⟨_, List.getElem?_eq_getElem (by omega)⟩
      obtain ⟨v, hv⟩ : ∃ v, co'[k]? = some v := ⟨_, List.getElem?_eq_getElem (by omega)⟩
      obtain ⟨b1, o1, rfl, hb1, e1⟩ := (H5.out.new HB0.out).at_ (f := valCs) (m := 3) (fun _ => rfl) hu
      obtain ⟨b2, o2, rfl, hb2, e2⟩ := (G5.out.new HB0.out).at_ (f := valCs) (m := 3) (fun _ => rfl) hv
      have HU := Lib.hid hu
      have HV := Lib.hid hv
      obtain ⟨uk, un, us⟩ := u
      obtain ⟨vk, vn, vs⟩ := v
      have f0 : W.cell? ⟨b1, o1 + k * 3, none⟩ = some (.int .i64 uk) := e1 0 _ rfl
      have f1 : W.cell? ⟨b1, o1 + k * 3 + 1, none⟩ = some (.int .i64 un) := e1 1 _ rfl
      have f2 : W.cell? ⟨b1, o1 + k * 3 + 2, none⟩ = some (.string us) := e1 2 _ rfl
      have g0 : W.cell? ⟨b2, o2 + k * 3, none⟩ = some (.int .i64 vk) := e2 0 _ rfl
      have g1 : W.cell? ⟨b2, o2 + k * 3 + 1, none⟩ = some (.int .i64 vn) := e2 1 _ rfl
      have g2 : W.cell? ⟨b2, o2 + k * 3 + 2, none⟩ = some (.string vs) := e2 2 _ rfl
      clear hu hv e1 e2
      rcases Classical.em ((⟨uk, un, us⟩ : ValD) = ⟨vk, vn, vs⟩) with huv | huv
      · simp only [ValD.mk.injEq] at huv
        obtain ⟨rfl, rfl, rfl⟩ := huv
        have hsm : V.same ⟨uk, un, us⟩ ⟨uk, un, us⟩ = true := V.same_iff.2 rfl
        go_wp2_with fail
        go_quiet (fail)
        go_wp2
        go_roundw
        case rel => exact ⟨k + 1, q + nq, by omega, by go_num, take_more HE.out HU.out HV.out, rfl⟩
        case measure => simp [intOf]; omega
      · have hsm : V.same ⟨uk, un, us⟩ ⟨vk, vn, vs⟩ = false := V.same_not.2 (fun h => by simp only [V.mk.injEq] at h; exact huv (by rw [h.1, h.2.1, h.2.2]))
        have HX : Hid (¬ co = co') := Lib.hid (ne_at HU.out HV.out huv)
        clear huv
        go_wp2_with fail
        go_quiet (fail)
        go_wp2
        go_ret
        exact saysC_no (fun h => HX.out (congrArg CodeD.consts h)) (by rw [drewN_add]; exact below_drewN HB0.out _)
    · obtain rfl : k = n5 := by omega
      have hco := HE.out
      rw [List.take_of_length_le (by omega), List.take_of_length_le (by omega)] at hco
      have HCO := Lib.hid hco
      clear hco HE
      go_wp2_with fail
      go_loopw [6] (fun i wr => ∃ k q : Nat, k ≤ n6 ∧ i = .int .i64 k ∧ is.take k = is'.take k ∧ wr = W.drewN q) (fun i _ => n6 - (intOf i).toNat)
      case atStart => exact ⟨0, q, by omega, rfl, rfl, rfl⟩
      case round =>
        obtain ⟨j, r, hj, rfl, he, rfl⟩ := hrel
        have HE := Lib.hid he
        clear he
        by_cases hlt2 : j < n6
        · obtain ⟨u, hu⟩ : ∃ u, is[j]? = some u := ⟨_, List.getElem?_eq_getElem (by omega)⟩
          obtain ⟨v, hv⟩ : ∃ v, is'[j]? = some v := ⟨_, List.getElem?_eq_getElem (by omega)⟩
          obtain ⟨b1, o1, rfl, hb1, e1⟩ := (H6.out.new HB0.out).at_ (f := insCs) (m := 2) (fun _ => rfl) hu
          obtain ⟨b2, o2, rfl, hb2, e2⟩ := (G6.out.new HB0.out).at_ (f := insCs) (m := 2) (fun _ => rfl) hv
          have HU := Lib.hid hu
          have HV := Lib.hid hv
          obtain ⟨uo, ua⟩ := u
          obtain ⟨vo, va⟩ := v
          have f0 : W.cell? ⟨b1, o1 + j * 2, none⟩ = some (.int .i64 uo) := e1 0 _ rfl
          have f1 : W.cell? ⟨b1, o1 + j * 2 + 1, none⟩ = some (.int .i64 ua) := e1 1 _ rfl
          have g0 : W.cell? ⟨b2, o2 + j * 2, none⟩ = some (.int .i64 vo) := e2 0 _ rfl
          have g1 : W.cell? ⟨b2, o2 + j * 2 + 1, none⟩ = some (.int .i64 va) := e2 1 _ rfl
          clear hu hv e1 e2
          by_cases huv : uo = vo ∧ ua = va
          · obtain ⟨rfl, rfl⟩ := huv
            go_wp2_with fail
            go_quiet (fail)
            go_wp2
            go_roundw
            case rel => exact ⟨j + 1, r + nq, by omega, by go_num, take_more HE.out HU.out HV.out, rfl⟩
            case measure => simp [intOf]; omega
          · have hdec := decide_eq_false huv
            have HX : Hid (¬ is = is') := Lib.hid (ne_at HU.out HV.out (fun h => by simp only [Prod.mk.injEq] at h; exact huv h))
            clear huv
            go_wp2_with fail
            go_quiet (fail)
            go_wp2
            go_ret
            exact saysC_no (fun h => HX.out (congrArg CodeD.ins h)) (by rw [drewN_add]; exact below_drewN HB0.out _)
        · obtain rfl : j = n6 := by omega
          have his := HE.out
          rw [List.take_of_length_le (by omega), List.take_of_length_le (by omega)] at his
          have HIS := Lib.hid his
          clear his HE
          go_wp2
          go_ret
          exact saysC_yes (by rw [HCO.out, HIS.out]) (below_drewN HB0.out _)
end Go.Proofs.YtcfelfhjhkenaaaDoor
