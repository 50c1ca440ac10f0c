/- The document's Right (F 27): the walk. ExpressRight, the plain part: a parse alone in a module is a right tree. ExpressRight: numbers of tokens are masked. ExpressRight: the walk. -/
import Derived.Test.YtjdcicopjipmnaaDoorRgf
import Derived.Test.YtjdcicopjipmnaaDoorBak
namespace Go.Proofs.YtjdcicopjipmnaaDoor
open Go.RowKit
set_option linter.unusedVariables false
set_option linter.unusedSimpArgs false
set_option maxRecDepth 100000 in
set_option maxHeartbeats 8000000 in
theorem right_any {w : World} {A : Option Addr} {n c : Nat} {T : List NodeD} (h : RdT w A n c T) (hR : RightT T) (hbig : n ≤ 1099511627776) : Calls Tryd.prog 27 #[.slice A n c] w fun e w' => e = .returned (.bool true) ∧ Below w.heap.size w w' := by
  have H := Lib.hid h
  have HN := Lib.hid h.len
  have HR := Lib.hid hR
  have HMK := Lib.hid (make_I n (by omega) w)
  have HR0 : Hid (OwnI _ _ (List.replicate n 0)) := Lib.hid (OwnI.made0 w n (by omega))
  have HB0 : Hid (Below w.heap.size w (w.alloc (.cells (List.replicate n (.int .i64 0)).toArray 3))) := Lib.hid (by repeat (first | exact Below.refl _ _ | assumption | refine Below.setCell ?_ (by first | (simp; done) | (simp; omega) | omega) _ | refine below_drewN ?_ _ | refine Below.drew ?_ | refine Below.alloc ?_ (by first | (simp; done) | (simp; omega) | omega) _))
  have hmk := HMK.out
  clear h hR HMK
  go_enter Tryd.func27, Tryd.ntmps27
  go_wp2_with (go_at_call 37; go_must (refine (depths3_any (H.out.stay (StayC.bel (by exact (by repeat (first | exact Below.refl _ _ | assumption | refine Below.setCell ?_ (by first | (simp; done) | (simp; omega) | omega) _ | refine below_drewN ?_ _ | refine Below.drew ?_ | refine Below.alloc ?_ (by first | (simp; done) | (simp; omega) | omega) _))))) HR.out.kids HR.out.len hbig).mono ?_); rintro e w2 ⟨v, rfl, hn⟩; obtain ⟨A4, c4, rfl, -, -⟩ := Own.rd hn.own; have HD := Lib.hid hn.own; have HO0 : Hid (OwnI w2 (.slice (some ⟨w.heap.size, 0, none⟩) n n) (List.replicate n 0)) := Lib.hid (OwnI.bel HR0.out hn.bel); have HB2 := Lib.hid (HB0.out.trans (below_low hn.bel HB0.out.size)); have HNE : Hid (∀ b, (Value.slice A4 (dpL T).length c4).ownBlock = some b → w.heap.size ≠ b) := Lib.hid (fun b e => by have := hn.new b e; simp at this; omega); clear hn)
  clear HR0 hmk HB0
  go_loopw [5, 6] (fun v5 v6 wr => ∃ (i : Nat), i ≤ n ∧ v5 = .int .i64 i ∧ Hid (OwnI wr (.slice (some ⟨w.heap.size, 0, none⟩) n n) (cntL n (kidsAll (T.take i)))) ∧ Hid (OwnI wr (.slice A4 (dpL T).length c4) (dpL T)) ∧ Hid (Below w.heap.size w wr)) (fun v5 _ _ => n - (intOf v5).toNat)
  case atStart => exact ⟨0, Nat.zero_le _, rfl, Lib.hid (by have := HO0.out; rw [← cntL_nil] at this; exact this), HD, HB2⟩
  case round =>
    obtain ⟨i, hi, rfl, HO, HDP, HB⟩ := hrel
    clear HO0 HD HB2
    by_cases hlt : i < n
    · obtain ⟨x, hx⟩ : ∃ x, T[i]? = some x := ⟨_, List.getElem?_eq_getElem (by have := HN.out; omega)⟩
      have HX := Lib.hid hx
      obtain ⟨b, o, K, d, rfl, hb, p0, p1, p2, p3, p4, hrk⟩ := H.out.nth hx
      obtain ⟨km, hkm⟩ : ∃ km, x.kids.length = km := ⟨_, rfl⟩
      have hkl := HR.out.len i x hx
      rw [hkm] at hkl
      rw [hkm] at p4 hrk
      have HKM := Lib.hid hkm
      have hin : n ≤ 9223372036854775807 := by omega
      have hws : IntKind.i64.wrap ((n : Int) - 1) = (n : Int) - 1 := IntWalk.i64_in _ (by omega)
      have hge : w.heap.size ≤ wr.heap.size := HB.out.size
      have hbb : b < wr.heap.size := by omega
      have q0 : wr.cell? ⟨b, o + i * 5, none⟩ = some (.int .i64 x.op) := (HB.out.cell hb).trans p0
      have q4 : wr.cell? ⟨b, o + i * 5 + 4, none⟩ = some (.slice K km d) := (HB.out.cell hb).trans p4
      clear hx hkm
      go_upto_region 6 with fail
      obtain ⟨q40, hq⟩ : ∃ q40, (x.op == 40) = q40 := ⟨_, rfl⟩
      have hq2 : ((i : Int) == (n : Int) - 1) = q40 := by
        rw [← hq, Bool.eq_iff_iff, beq_iff_eq, beq_iff_eq]
        have := HR.out.top i x HX.out
        have := HN.out
        omega
      go_region_held3 (fun w' => w'.cell? ⟨b, o + i * 5, none⟩ = some (.int .i64 x.op) ∧ w'.cell? ⟨b, o + i * 5 + 4, none⟩ = some (.slice K km d)) (first | exact ⟨q0, q4⟩ | exact HK3.out | go_keep) (first | (go_at_call 38; refine (kids3_any (H.out.stay (StayC.bel (by exact Below.trans HB.out (by repeat (first | exact Below.refl _ _ | assumption | refine Below.setCell ?_ (by first | (simp; done) | (simp; omega) | omega) _ | refine below_drewN ?_ _ | refine Below.drew ?_ | refine Below.alloc ?_ (by first | (simp; done) | (simp; omega) | omega) _))))) HX.out (HR.out.kids i x HX.out) (HR.out.len i x HX.out)).mono ?_; rintro e w3 ⟨v, rfl, hn⟩; obtain ⟨A5, c5, rfl, -, -⟩ := Own.rd hn.own; rw [HKM.out] at hn ⊢; have HB3 := Lib.hid (HB.out.trans (below_low (Below.trans (show Below wr.heap.size wr wr.drew from (by repeat (first | exact Below.refl _ _ | assumption | refine Below.setCell ?_ (by first | (simp; done) | (simp; omega) | omega) _ | refine below_drewN ?_ _ | refine Below.drew ?_ | refine Below.alloc ?_ (by first | (simp; done) | (simp; omega) | omega) _))) hn.bel) HB.out.size)); have HO3 : Hid (OwnI w3 (.slice (some ⟨w.heap.size, 0, none⟩) n n) (cntL n (kidsAll (T.take i)))) := Lib.hid (OwnI.bel HO.out (Below.trans (show Below wr.heap.size wr wr.drew from (by repeat (first | exact Below.refl _ _ | assumption | refine Below.setCell ?_ (by first | (simp; done) | (simp; omega) | omega) _ | refine below_drewN ?_ _ | refine Below.drew ?_ | refine Below.alloc ?_ (by first | (simp; done) | (simp; omega) | omega) _))) hn.bel)); have HD3 : Hid (OwnI w3 (.slice A4 (dpL T).length c4) (dpL T)) := Lib.hid (OwnI.bel HDP.out (Below.trans (show Below wr.heap.size wr wr.drew from (by repeat (first | exact Below.refl _ _ | assumption | refine Below.setCell ?_ (by first | (simp; done) | (simp; omega) | omega) _ | refine below_drewN ?_ _ | refine Below.drew ?_ | refine Below.alloc ?_ (by first | (simp; done) | (simp; omega) | omega) _))) hn.bel)); have hk3 : w3.cell? ⟨b, o + i * 5, none⟩ = some (.int .i64 x.op) ∧ w3.cell? ⟨b, o + i * 5 + 4, none⟩ = some (.slice K km d) := ⟨(HB3.out.cell hb).trans p0, (HB3.out.cell hb).trans p4⟩; have HK3 := Lib.hid hk3; clear hk3 hn) | fail)
      clear HO HDP HB q0 q4
      rename_i hheld
      clear hheld
      go_wp2_with fail
      go_loopw [6] (fun v6 wq => ∃ (k : Nat), k ≤ km ∧ v6 = .int .i64 k ∧ Hid (OwnI wq (.slice (some ⟨w.heap.size, 0, none⟩) n n) (cntL n (kidsAll (T.take i) ++ x.kids.take k))) ∧ Hid (OwnI wq (.slice A4 (dpL T).length c4) (dpL T)) ∧ Hid (Below w.heap.size w wq)) (fun v6 _ => km - (intOf v6).toNat)
      case atStart => exact ⟨0, Nat.zero_le _, rfl, Lib.hid (by rw [List.take_zero, List.append_nil]; exact HO3.out), HD3, HB3⟩
      case round =>
        obtain ⟨k, hk, rfl, HO, HDP, HB⟩ := hrel
        clear HO3 HD3 HB3 HK3
        have hbq : b < wr.heap.size := by have := HB.out.size; omega
        have r0 : wr.cell? ⟨b, o + i * 5, none⟩ = some (.int .i64 x.op) := (HB.out.cell hb).trans p0
        have r4 : wr.cell? ⟨b, o + i * 5 + 4, none⟩ = some (.slice K km d) := (HB.out.cell hb).trans p4
        by_cases hltk : k < km
        · obtain ⟨y, hy⟩ : ∃ y, x.kids[k]? = some y := ⟨_, List.getElem?_eq_getElem (by have := HKM.out; omega)⟩
          obtain ⟨hy0, hyi⟩ := HR.out.kids i x HX.out y (List.mem_of_getElem? hy)
          obtain ⟨yn, rfl⟩ := Int.eq_ofNat_of_zero_le hy0
          have hyn2 : yn < n := by omega
          have hcnt := HR.out.most HX.out hy
          have hat : (cntL n (kidsAll (T.take i) ++ x.kids.take k))[yn]? = some 0 := by rw [cntL_at _ hyn2, hcnt]; rfl
          have hnext : (cntL n (kidsAll (T.take i) ++ x.kids.take k)).set yn 1 = cntL n (kidsAll (T.take i) ++ x.kids.take (k + 1)) := by
            have := cntL_snoc (kidsAll (T.take i) ++ x.kids.take k) hyn2
            rw [hcnt] at this
            rw [List.take_add_one, hy, ← List.append_assoc]
            exact this
          obtain ⟨s0, f0, hset⟩ := OwnI.set_ HO.out (cntL_len _ _) hat 1
          rw [hnext] at hset
          obtain ⟨b5, o5, rfl, hb5, t0⟩ := hrk.kid hy (by omega)
          have t1 : wr.cell? ⟨b5, o5 + k, none⟩ = some (.int .i64 yn) := (HB.out.cell hb5).trans t0
          have hb5q : b5 < wr.heap.size := by have := HB.out.size; omega
          have hgl : w.heap.size < wr.heap.size := Own.lt HO.out rfl
          have HS := Lib.hid hset
          have HD6 : Hid (OwnI (wr.setCell ⟨w.heap.size, yn, none⟩ (.int .i64 1)) (.slice A4 (dpL T).length c4) (dpL T)) := Lib.hid (Own.keep HDP.out fun b e => Below.heap_setCell wr ⟨w.heap.size, yn, none⟩ _ b (Ne.symm (HNE.out b e)))
          clear hy hy0 hyi hcnt hat hnext hset t0 HO HDP
          go_wp2_with fail
          go_round
          case rel => exact ⟨k + 1, by omega, by go_num, HS, HD6, Lib.hid (Below.setCell HB.out (Nat.le_refl _) _)⟩
          case measure => simp [intOf]; omega
        · obtain rfl : k = km := by omega
          have hall : kidsAll (T.take i) ++ x.kids.take k = kidsAll (T.take (i + 1)) := by
            rw [List.take_of_length_le (l := x.kids) (by have := HKM.out; omega), List.take_add_one, HX.out]
            unfold kidsAll
            rw [List.flatMap_append]
            simp
          have HO6 : Hid (OwnI wr (.slice (some ⟨w.heap.size, 0, none⟩) n n) (cntL n (kidsAll (T.take (i + 1))))) := Lib.hid (by rw [← hall]; exact HO.out)
          have hil : i < (dpL T).length := by have := (dpL_ok T T.length (Nat.le_refl _)).1; rw [List.take_length] at this; have := HN.out; omega
          obtain ⟨dd, hdd⟩ : ∃ dd, (dpL T)[i]? = some dd := ⟨_, List.getElem?_eq_getElem hil⟩
          by_cases hx : exprB3 x.op = true
          · have hop : 1 ≤ x.op ∧ x.op ≤ 21 := by unfold exprB3 at hx; simpa using hx
            have hd40 := HR.out.deep i x dd HX.out hop.1 hop.2 hdd
            have hdec : decide (40 < dd) = false := decide_eq_false (by omega)
            obtain ⟨A4', c4', e4, hr4, -⟩ := Own.rd HDP.out
            injection e4 with e4 e5 e6
            subst e4 e6
            obtain ⟨b6, o6, rfl, hb6, t1⟩ := hr4.kid hdd (by omega)
            have HDP6 := HDP
            have HNE6 := HNE
            have HX3 := Lib.hid hx
            clear hall HO hdd hr4 e5 hd40 hop hx HDP
            go_wp2_with (go_at_call 39; go_must (refine (expr3_any x.op _).mono ?_); rintro e w5 ⟨rfl, rfl⟩; rw [HX3.out])
            go_round
            case rel => exact ⟨i + 1, by omega, by go_num, HO6, HDP6, HB⟩
            case measure => simp [intOf]; omega
          · have HX3 := Lib.hid (Bool.eq_false_iff.2 hx)
            clear hall HO hdd hx
            go_wp2_with (go_at_call 39; go_must (refine (expr3_any x.op _).mono ?_); rintro e w5 ⟨rfl, rfl⟩; rw [HX3.out])
            go_round
            case rel => exact ⟨i + 1, by omega, by go_num, HO6, HDP, HB⟩
            case measure => simp [intOf]; omega
    · obtain rfl : i = n := by omega
      have HO1 : Hid (OwnI wr (.slice (some ⟨w.heap.size, 0, none⟩) i i) (cntL i (kidsAll T))) := Lib.hid (by have := HO.out; rw [List.take_of_length_le (by have := HN.out; omega)] at this; exact this)
      clear HO HDP HNE
      go_wp2_with fail
      obtain ⟨wo, rfl⟩ : ∃ wo, wo = wr := ⟨_, rfl⟩
      go_loopw [7, 8, 9] (fun v7 v8 v9 wq => ∃ (k : Nat), k ≤ i ∧ v7 = .int .i64 k ∧ Hid (OwnI wq (.slice (some ⟨w.heap.size, 0, none⟩) i i) (cntL i (kidsAll T))) ∧ Hid (Below w.heap.size w wq)) (fun v7 _ _ _ => i - (intOf v7).toNat)
      case atStart => exact ⟨0, Nat.zero_le _, rfl, HO1, HB⟩
      case round =>
        obtain ⟨k, hk, rfl, HO, HB⟩ := hrel
        clear HO1
        by_cases hltk : k < i
        · obtain ⟨x, hx⟩ : ∃ x, T[k]? = some x := ⟨_, List.getElem?_eq_getElem (by have := HN.out; omega)⟩
          have HX := Lib.hid hx
          obtain ⟨b, o, K, d, rfl, hb, p0, p1, p2, p3, p4, hrk⟩ := H.out.nth hx
          obtain ⟨op, hop⟩ : ∃ op, x.op = op := ⟨_, rfl⟩
          obtain ⟨xa, hxa⟩ : ∃ a, x.at_ = a := ⟨_, rfl⟩
          obtain ⟨xs, hxs⟩ : ∃ a, x.s = a := ⟨_, rfl⟩
          obtain ⟨xn, hxn⟩ : ∃ a, x.n = a := ⟨_, rfl⟩
          obtain ⟨km, hkm⟩ : ∃ km, x.kids.length = km := ⟨_, rfl⟩
          rw [hop] at p0
          rw [hxa] at p1
          rw [hxs] at p2
          rw [hxn] at p3
          rw [hkm] at p4
          have HTX : ∀ w', Calls Tryd.prog 40 #[.agg #[.int .i64 op, .int .i64 xa, .string xs, .int .i64 xn, .slice K km d]] w' fun e w6 => e = .returned (.bool true) ∧ Below w'.heap.size w' w6 := fun w' => by
            rw [← hop, ← hxa, ← hxs, ← hxn]
            exact texts_any K km d (shape_ops (HR.out.shape k x hx)) (HR.out.text k x hx) w'
          have HTX := Lib.hid HTX
          have hin : i ≤ 9223372036854775807 := by omega
          have hws : IntKind.i64.wrap ((i : Int) - 1) = (i : Int) - 1 := IntWalk.i64_in _ (by omega)
          have hbq : b < wr.heap.size := by have := HB.out.size; omega
          have r0 : wr.cell? ⟨b, o + k * 5, none⟩ = some (.int .i64 op) := (HB.out.cell hb).trans p0
          have r1 : wr.cell? ⟨b, o + k * 5 + 1, none⟩ = some (.int .i64 xa) := (HB.out.cell hb).trans p1
          have r2 : wr.cell? ⟨b, o + k * 5 + 2, none⟩ = some (.string xs) := (HB.out.cell hb).trans p2
          have r3 : wr.cell? ⟨b, o + k * 5 + 3, none⟩ = some (.int .i64 xn) := (HB.out.cell hb).trans p3
          have r4 : wr.cell? ⟨b, o + k * 5 + 4, none⟩ = some (.slice K km d) := (HB.out.cell hb).trans p4
          have HNK : Hid (∀ w', Below w.heap.size w w' → Calls Tryd.prog 41 #[.slice (some ⟨b, o, none⟩) i c, .int .i64 k] w' fun e w6 => e = .returned (.bool true) ∧ Below w'.heap.size w' w6) := Lib.hid fun w' hb' => node_any (H.out.stay (StayC.bel hb')) HX.out (HR.out.kids k x HX.out) (HR.out.len k x HX.out) (HR.out.shape k x HX.out)
          clear hx hop hxa hxs hxn hkm hrk p0 p1 p2 p3 p4
          by_cases hlast : k + 1 < i
          · have hdl : decide ((k : Int) < (i : Int) - 1) = true := decide_eq_true (by omega)
            have hat : (cntL i (kidsAll T))[k]? = some 1 := by
              rw [cntL_at _ hltk, HR.out.use k, if_pos (by have := HN.out; omega)]
              rfl
            have HAT := Lib.hid hat
            clear hat
            go_upto_region 18 with (go_at_call 40; go_must (refine (HTX.out _).mono ?_); rintro e w5 ⟨rfl, hb⟩; have HO5 := Lib.hid (OwnI.bel HO.out hb); have HB5 := Lib.hid (HB.out.trans (below_low hb HB.out.size)); clear hb)
            clear HO HB r0 r1 r2 r3 r4
            go_upto_region 19 with (go_at_call 41; go_must (refine (HNK.out _ HB5.out).mono ?_); rintro e w6 ⟨rfl, hb⟩; have HO := Lib.hid (OwnI.bel HO5.out hb); have HB := Lib.hid (HB5.out.trans (below_low hb HB5.out.size)); clear hb)
            clear HO5 HB5
            have s0 := OwnI.cell HO.out (cntL_len _ _) HAT.out
            have hgl : w.heap.size < w6.heap.size := Own.lt HO.out rfl
            go_wp2_with fail
            go_round
            case rel => exact ⟨k + 1, by omega, by go_num, HO, HB⟩
            case measure => simp [intOf]; omega
          · have hdl : decide ((k : Int) < (i : Int) - 1) = false := decide_eq_false (by omega)
            go_upto_region 18 with (go_at_call 40; go_must (refine (HTX.out _).mono ?_); rintro e w5 ⟨rfl, hb⟩; have HO5 := Lib.hid (OwnI.bel HO.out hb); have HB5 := Lib.hid (HB.out.trans (below_low hb HB.out.size)); clear hb)
            clear HO HB r0 r1 r2 r3 r4
            go_upto_region 19 with (go_at_call 41; go_must (refine (HNK.out _ HB5.out).mono ?_); rintro e w6 ⟨rfl, hb⟩; have HO := Lib.hid (OwnI.bel HO5.out hb); have HB := Lib.hid (HB5.out.trans (below_low hb HB5.out.size)); clear hb)
            clear HO5 HB5
            go_wp2_with fail
            go_round
            case rel => exact ⟨k + 1, by omega, by go_num, HO, HB⟩
            case measure => simp [intOf]; omega
        · obtain rfl : k = i := by omega
          have hpos : 0 < k := by have := HR.out.pos; have := HN.out; omega
          have hp2 : decide ((0 : Int) < (k : Int)) = true := decide_eq_true (by omega)
          go_wp2_with (go_at_call 42; go_must (refine (blocks3_any (H.out.stay (StayC.bel HB.out)) HR.out.kids HR.out.len HR.out.no41 hbig).mono ?_); rintro e w5 ⟨rfl, hb⟩; have HB5 := Lib.hid (HB.out.trans (below_low hb HB.out.size)); clear hb)
          go_ret
          exact ⟨rfl, HB5.out⟩

/-- with a statement around it, and a module -/
def modT (ns : List NodeD) : List NodeD := ns ++ [⟨42, 0, ⟨#[]⟩, 0, [(ns.length : Int) - 1]⟩, ⟨40, 0, ⟨#[]⟩, 0, [(ns.length : Int)]⟩]
theorem mod_at0 {ns : List NodeD} {i : Nat} (h : i < ns.length) : (modT ns)[i]? = ns[i]? := by
  unfold modT
  rw [List.getElem?_append_left h]
theorem mod_at1 (ns : List NodeD) : (modT ns)[ns.length]? = some ⟨42, 0, ⟨#[]⟩, 0, [(ns.length : Int) - 1]⟩ := by
  unfold modT
  rw [List.getElem?_append_right (Nat.le_refl _), Nat.sub_self]
  rfl
theorem mod_at2 (ns : List NodeD) : (modT ns)[ns.length + 1]? = some ⟨40, 0, ⟨#[]⟩, 0, [(ns.length : Int)]⟩ := by
  unfold modT
  rw [List.getElem?_append_right (by omega), show ns.length + 1 - ns.length = 1 from by omega]
  rfl
theorem mod_len (ns : List NodeD) : (modT ns).length = ns.length + 2 := by simp [modT]
/-- a node of it -/
theorem mod_cases {ns : List NodeD} {i : Nat} {x : NodeD} (h : (modT ns)[i]? = some x) : (i < ns.length ∧ ns[i]? = some x) ∨ (i = ns.length ∧ x = ⟨42, 0, ⟨#[]⟩, 0, [(ns.length : Int) - 1]⟩) ∨ (i = ns.length + 1 ∧ x = ⟨40, 0, ⟨#[]⟩, 0, [(ns.length : Int)]⟩) := by
  have hl := (List.getElem?_eq_some_iff.1 h).1
  rw [mod_len] at hl
  have : i < ns.length ∨ i = ns.length ∨ i = ns.length + 1 := by omega
  rcases this with h1 | rfl | rfl
  · rw [mod_at0 h1] at h
    exact .inl ⟨h1, h⟩
  · rw [mod_at1] at h
    exact .inr (.inl ⟨rfl, (Option.some.inj h).symm⟩)
  · rw [mod_at2] at h
    exact .inr (.inr ⟨rfl, (Option.some.inj h).symm⟩)
/-- depths as the parser has them -/
theorem dpL_app : ∀ (U T : List NodeD), ∃ d, dpL (T ++ U) = dpL T ++ d
  | [], T => ⟨[], by simp⟩
  | x :: U, T => by
    obtain ⟨d, hd⟩ := dpL_app U (T ++ [x])
    rw [dpL_snoc, List.append_assoc, List.append_assoc] at hd
    exact ⟨_, hd⟩
theorem txt_plain {op : Int} (kids : List Int) (h : op ≠ 5 ∧ op ≠ 6 ∧ op ≠ 18 ∧ op ≠ 22 ∧ op ≠ 12 ∧ op ≠ 13) : TxtOk ⟨op, 0, ⟨#[]⟩, 0, kids⟩ :=
  ⟨by show (⟨#[]⟩ : ByteArray).size ≤ 65536; decide, .inl rfl, .inr (.inr (.inr (.inr ⟨h.1, h.2.1, h.2.2.1, h.2.2.2.1, h.2.2.2.2.1, h.2.2.2.2.2, rfl⟩)))⟩
theorem dp_same {s : PS} (hl : s.dp.length = s.ns.length) (hk : ∀ (i : Nat) (x : NodeD), s.ns[i]? = some x → (∀ k ∈ x.kids, 0 ≤ k ∧ k < (i : Int)) ∧ s.dp[i]? = some (deepest s x.kids + 1)) : ∀ j, j ≤ s.ns.length → dpL (s.ns.take j) = s.dp.take j
  | 0, h => by simp [dpL]
  | j + 1, h => by
    have ih := dp_same hl hk j (by omega)
    obtain ⟨x, hx⟩ : ∃ x, s.ns[j]? = some x := ⟨_, List.getElem?_eq_getElem (by omega)⟩
    obtain ⟨h1, h2⟩ := hk j x hx
    rw [dpL_take hx, ih, List.take_add_one, h2]
    have e : maxK (s.dp.take j) x.kids = deepest s x.kids := by
      unfold maxK deepest
      have key : ∀ (kids : List Int) (m : Int), (∀ k ∈ kids, 0 ≤ k ∧ k < (j : Int)) → kids.foldl (fun m k => max m (atI (s.dp.take j) k)) m = kids.foldl (fun m k => max m (deepOf s k)) m := by
        intro kids
        induction kids with
        | nil => exact fun m _ => rfl
        | cons k kids ihk =>
          intro m hkk
          obtain ⟨k0, k1⟩ := hkk k (.head _)
          have : atI (s.dp.take j) k = deepOf s k := by
            unfold atI deepOf
            rw [if_neg (by omega), List.getElem?_take, if_pos (by omega)]
          simp only [List.foldl_cons, this]
          exact ihk _ fun k hk => hkk k (.tail _ hk)
      exact key x.kids 0 h1
    rw [e]
    rfl
/-- what goes well is a right tree, alone in a module -/
theorem right_plain {L : List TokD} {m : Nat} {r : PS × Int} (h : exprE L m startS = some r) (he : r.1.e = 0) (hlen : ∀ (i : Nat) (x : NodeD), r.1.ns[i]? = some x → x.kids.length ≤ 4398046511103) (hs : ∀ t ∈ L, t.s.size ≤ 64) (hn : ∀ t ∈ L, 0 ≤ t.n) : RightT (modT r.1.ns) ∧ 0 < r.1.ns.length ∧ r.2 = (r.1.ns.length : Int) - 1 ∧ 0 < r.1.at_ := by
  obtain ⟨hb, hx⟩ := parsed_bk h he
  obtain ⟨k, hk1, hk2⟩ := hb.last
  have hpos : 0 < r.1.ns.length := by omega
  have hr2 : r.2 = (r.1.ns.length : Int) - 1 := by omega
  have hxt : XAt (modT r.1.ns) ((r.1.ns.length : Int) - 1) := by
    rw [← hr2]
    exact hx.mono
  refine ⟨⟨?_, ?_, ?_, ?_, ?_, ?_, ?_, ?_⟩, hpos, hr2, ?_⟩
  · intro i x hi
    rcases mod_cases hi with ⟨h1, h2⟩ | ⟨rfl, rfl⟩ | ⟨rfl, rfl⟩
    · exact (hb.node i x h2).kids
    · intro k hk
      rw [List.mem_singleton.1 hk]
      omega
    · intro k hk
      rw [List.mem_singleton.1 hk]
      omega
  · intro i x hi
    rcases mod_cases hi with ⟨h1, h2⟩ | ⟨rfl, rfl⟩ | ⟨rfl, rfl⟩
    · exact hlen i x h2
    · show 1 ≤ 4398046511103; decide
    · show 1 ≤ 4398046511103; decide
  · intro i x hi
    rcases mod_cases hi with ⟨h1, h2⟩ | ⟨rfl, rfl⟩ | ⟨rfl, rfl⟩
    · exact .inl (hb.node i x h2).shape.mono
    · exact .inr (.inl ⟨rfl, rfl, fun k hk => by rw [List.mem_singleton.1 hk]; exact hxt⟩)
    · refine .inr (.inr ⟨rfl, ?_⟩)
      unfold opsOf
      simp [mod_at1]
  · intro i x hi
    rcases mod_cases hi with ⟨h1, h2⟩ | ⟨rfl, rfl⟩ | ⟨rfl, rfl⟩
    · obtain ⟨t1, t2⟩ := (hb.node i x h2).text
      have hsz : x.s.size ≤ 65536 := by
        rcases t2 with ⟨_, u, hu, e⟩ | ⟨_, _, u, hu, e⟩ | ⟨_, e⟩ | ⟨_, e⟩ | ⟨_, _, _, _, _, _, e⟩
        · rw [e]; exact Nat.le_trans (hs u hu) (by decide)
        · rw [e]; exact Nat.le_trans (hs u hu) (by decide)
        · simp only [binaries, List.mem_cons, List.not_mem_nil, or_false] at e
          rcases e with e | e | e | e | e | e <;> rw [e] <;> decide
        · simp only [comparers, List.mem_cons, List.not_mem_nil, or_false] at e
          rcases e with e | e | e | e | e | e | e | e | e | e <;> rw [e] <;> decide
        · rw [e]; decide
      refine ⟨hsz, ?_, ?_⟩
      · rcases t1 with t1 | ⟨t1, u, hu, e⟩
        · exact .inl t1
        · exact .inr ⟨t1, by rw [e]; exact hn u hu⟩
      · rcases t2 with ⟨e1, _⟩ | ⟨e1, e2, _⟩ | e1 | e1 | e1
        · exact .inl e1
        · exact .inr (.inl ⟨e1, e2⟩)
        · exact .inr (.inr (.inl e1))
        · exact .inr (.inr (.inr (.inl e1)))
        · exact .inr (.inr (.inr (.inr e1)))
    · exact txt_plain _ (by decide)
    · exact txt_plain _ (by decide)
  · intro i x hi
    rw [mod_len]
    rcases mod_cases hi with ⟨h1, h2⟩ | ⟨rfl, rfl⟩ | ⟨rfl, rfl⟩
    · have := (hb.node i x h2).shape
      have h3 : 1 ≤ x.op ∧ x.op ≤ 22 := by
        rcases this with ⟨h1, h2, _⟩ | ⟨h1, _⟩ | ⟨h1, _⟩ | ⟨h1, _⟩ | ⟨h1, _⟩ | ⟨h1, _⟩ | ⟨h1, _⟩ | ⟨h1, _⟩ | ⟨h1, _⟩ <;> omega
      constructor
      · intro e; omega
      · intro e; omega
    · constructor
      · intro e; exact absurd e (show ¬ (42 : Int) = 40 by decide)
      · intro e; omega
    · exact ⟨fun _ => rfl, fun _ => rfl⟩
  · intro i x d hi h1 h21 hd
    rcases mod_cases hi with ⟨h1, h2⟩ | ⟨rfl, rfl⟩ | ⟨rfl, rfl⟩
    · have hnd := hb.node i x h2
      obtain ⟨dd, hdd⟩ := dpL_app [⟨42, 0, ⟨#[]⟩, 0, [(r.1.ns.length : Int) - 1]⟩, ⟨40, 0, ⟨#[]⟩, 0, [(r.1.ns.length : Int)]⟩] r.1.ns
      have hds := dp_same hb.len (fun i x hx => ⟨(hb.node i x hx).kids, (hb.node i x hx).deep⟩) r.1.ns.length (Nat.le_refl _)
      rw [List.take_length, ← hb.len, List.take_length] at hds
      change (dpL (r.1.ns ++ _))[i]? = some d at hd
      rw [hdd, hds, List.getElem?_append_left (by rw [hb.len]; exact h1), hnd.deep] at hd
      have := hnd.lim
      have := Option.some.inj hd
      omega
    · exact absurd h21 (show ¬ (42 : Int) ≤ 21 by decide)
    · exact absurd h21 (show ¬ (40 : Int) ≤ 21 by decide)
  · intro i
    rw [mod_len]
    have hu := hb.use i
    have e : (kidsAll (modT r.1.ns)).count (i : Int) = (kidsAll r.1.ns).count (i : Int) + (if i + 1 = r.1.ns.length then 1 else 0) + (if i = r.1.ns.length then 1 else 0) := by
      unfold kidsAll modT
      rw [List.flatMap_append, List.count_append]
      simp only [List.flatMap_cons, List.flatMap_nil, List.append_nil, List.singleton_append, List.count_cons, List.count_nil, beq_iff_eq]
      have e1 : ((r.1.ns.length : Int) - 1 = (i : Int)) ↔ i + 1 = r.1.ns.length := by omega
      have e2 : ((r.1.ns.length : Int) = (i : Int)) ↔ i = r.1.ns.length := by omega
      simp only [e1, e2]
      omega
    rw [hr2] at hu
    rw [List.count_singleton] at hu
    rw [e]
    by_cases h1 : i + 1 = r.1.ns.length
    · rw [show ((r.1.ns.length : Int) - 1 == (i : Int)) = true from by rw [beq_iff_eq]; omega] at hu
      rw [if_pos h1, if_neg (by omega), if_pos (by omega)]
      rw [if_pos rfl, if_pos (by omega)] at hu
      omega
    · rw [show ((r.1.ns.length : Int) - 1 == (i : Int)) = false from by rw [beq_eq_false_iff_ne]; omega] at hu
      rw [if_neg (by decide)] at hu
      rw [if_neg h1]
      by_cases h2 : i = r.1.ns.length
      · rw [if_pos h2, if_pos (by omega)]
        rw [if_neg (by omega)] at hu
        omega
      · rw [if_neg h2]
        split at hu
        · rw [if_pos (by omega)]
          omega
        · rw [if_neg (by omega)]
          omega
  · rw [mod_len]
    omega
  · obtain ⟨x, hx0⟩ : ∃ x, r.1.ns[0]? = some x := ⟨_, List.getElem?_eq_getElem hpos⟩
    obtain ⟨k, t, hk, _⟩ := (hb.node 0 x hx0).place
    omega

def maskI (n : Int) : Int := bits .and .i64 n 9223372036854775807
theorem maskI_ok (n : Int) : 0 ≤ maskI n ∧ maskI n ≤ 9223372036854775807 := by
  have h : (BitVec.ofInt 64 n &&& BitVec.ofInt 64 9223372036854775807).toNat ≤ 9223372036854775807 := by
    rw [BitVec.toNat_and]
    exact Nat.le_trans Nat.and_le_right (by decide)
  have e : maskI n = IntKind.i64.wrap ((BitVec.ofInt 64 n &&& BitVec.ofInt 64 9223372036854775807).toNat : Int) := rfl
  rw [e, IntWalk.i64_in _ (by omega)]
  omega
def maskT (t : TokD) : TokD := { t with n := maskI t.n }
theorem flat_setN : ∀ (M : List TokD) (i : Nat) (t : TokD) (u : Int), M[i]? = some t → (M.flatMap tcs).set (i * 4 + 3) (.int .i64 u) = (M.set i { t with n := u }).flatMap tcs
  | [], i, t, u, h => by cases h
  | x :: M, 0, t, u, h => by
    obtain rfl := Option.some.inj h
    rfl
  | x :: M, i + 1, t, u, h => by
    have h4 : (tcs x).length = 4 := rfl
    rw [List.flatMap_cons, List.set_append_right _ _ (by omega), h4, show (i + 1) * 4 + 3 - 4 = i * 4 + 3 from by omega, flat_setN M i t u h, List.set_cons_succ, List.flatMap_cons]
theorem Hold.setTokN {B b n c i : Nat} {w : World} {M : List TokD} {t : TokD} {l : List (Value × Item)} (h : Hold B w ((.slice (some ⟨b, 0, none⟩) n c, .row M) :: l)) (hB : B ≤ w.heap.size) (hn : M.length = n) (hi : M[i]? = some t) (u : Int) :
    Hold B (w.setCell ⟨b, i * 4 + 3, none⟩ (.int .i64 u)) ((.slice (some ⟨b, 0, none⟩) n c, .row (M.set i { t with n := u })) :: l) :=
  h.turn hB (by simp) fun S hS1 hS2 => by
    obtain ⟨ho, hb⟩ := hS1
    have hbS : S b := hb b rfl
    have hlt := (List.getElem?_eq_some_iff.1 hi).1
    refine ⟨⟨by simp, fun k hk hn2 => Below.heap_setCell w ⟨b, i * 4 + 3, none⟩ _ k fun e => hn2 (e ▸ ⟨hbS, ho.turns rfl⟩)⟩, ?_, fun g e => ?_⟩
    · subst hn
      have h2 := (Own.set_ (j := i * 4 + 3) ho (by omega) (.int .i64 u)).2.2
      unfold OwnT
      rw [List.length_set, ← flat_setN M i t u hi]
      exact h2
    · have e2 : b = g := by simpa [Value.ownBlock] using e
      subst e2
      exact ⟨hS2 b hbS, .inr hbS⟩
/-- cells that were just made, as a slice -/
theorem Rd.cellsG {g : Nat} {w : World} (hg : g = w.heap.size) (cs : Array Value) (t : TypeId) (l : List Value) (hl : cs.toList = l) (n sz : Nat) (hs : l.length = n * sz) (hn : n ≤ 9223372036854775807) : Rd (w.alloc (.cells cs t)) (some ⟨g, 0, none⟩) n n sz l := by
  subst hg hl
  obtain ⟨A, c, e, hr, _⟩ := Own.rd (Own.made (t := t) (sz := sz) w cs n hn (by simpa using hs))
  injection e with e1 e2 e3
  subst e1 e3
  exact hr
def mod1 (g t1 : Nat) : NdS := ⟨⟨42, 0, ⟨#[]⟩, 0, [(t1 : Int) - 1]⟩, some ⟨g, 0, none⟩, 1⟩
def mod2 (g t1 : Nat) : NdS := ⟨⟨40, 0, ⟨#[]⟩, 0, [(t1 : Int)]⟩, some ⟨g + 1, 0, none⟩, 1⟩
theorem rdT_mod {W1 w6 w7 : World} {A11 A12 : Option Addr} {t1 c11 c12 : Nat} {Z : List NdS} {T1 : List NodeD} (hZ : Z.map (·.x) = T1) (hl : Z.length = t1) (hk : ∀ z ∈ Z, Rd W1 z.A z.x.kids.length z.c 1 (ics z.x.kids)) (ho6 : OwnZ w6 (.slice A11 t1 c11) Z)
    {W7 : World} (hW7 : W7 = ((w6.alloc (.cells #[.int .i64 ((t1 : Int) - 1)] 3)).alloc (.cells #[.int .i64 (t1 : Int)] 3)).alloc (.cells #[.int .i64 42, .int .i64 0, .string ⟨#[]⟩, .int .i64 0, .slice (some ⟨w6.heap.size, 0, none⟩) 1 1, .int .i64 40, .int .i64 0, .string ⟨#[]⟩, .int .i64 0, .slice (some ⟨w6.heap.size + 1, 0, none⟩) 1 1] 51))
    (ho7 : OwnZ w7 (.slice A12 (t1 + 2) c12) (Z ++ [mod1 w6.heap.size t1, mod2 w6.heap.size t1])) (hg : W7.grownBy w7 (Value.slice A11 t1 c11).ownBlock) (hb : Below W1.heap.size W1 w7) : RdT w7 A12 (t1 + 2) c12 (modT T1) := by
  obtain ⟨A', c', e, hr, _⟩ := Own.rd ho7
  have hln : (Z ++ [mod1 w6.heap.size t1, mod2 w6.heap.size t1]).length = t1 + 2 := by simp [hl]
  rw [hln] at e hr
  injection e with e1 e2 e3
  subst e1 e3
  have hne : ∀ g, w6.heap.size ≤ g → some g ≠ (Value.slice A11 t1 c11).ownBlock := fun g hg e => by
    have := Own.lt ho6 e.symm
    omega
  have r1 : Rd w7 (some ⟨w6.heap.size, 0, none⟩) 1 1 1 (ics [(t1 : Int) - 1]) := by
    have h1 : Rd (w6.alloc (.cells #[.int .i64 ((t1 : Int) - 1)] 3)) (some ⟨w6.heap.size, 0, none⟩) 1 1 1 (ics [(t1 : Int) - 1]) := Rd.cellsG rfl _ _ _ rfl 1 1 rfl (by decide)
    have h2 : Below (w6.alloc (.cells #[.int .i64 ((t1 : Int) - 1)] 3)).heap.size (w6.alloc (.cells #[.int .i64 ((t1 : Int) - 1)] 3)) W7 := by subst hW7; exact (by repeat (first | exact Below.refl _ _ | assumption | refine Below.setCell ?_ (by first | (simp; done) | (simp; omega) | omega) _ | refine below_drewN ?_ _ | refine Below.drew ?_ | refine Below.alloc ?_ (by first | (simp; done) | (simp; omega) | omega) _))
    have hs := hg.size
    refine (h1.bel h2).keep hs fun b o e hbb => ?_
    cases e
    exact hg.block _ hbb (hne _ (Nat.le_refl _))
  have r2 : Rd w7 (some ⟨w6.heap.size + 1, 0, none⟩) 1 1 1 (ics [(t1 : Int)]) := by
    have h1 : Rd ((w6.alloc (.cells #[.int .i64 ((t1 : Int) - 1)] 3)).alloc (.cells #[.int .i64 (t1 : Int)] 3)) (some ⟨w6.heap.size + 1, 0, none⟩) 1 1 1 (ics [(t1 : Int)]) := Rd.cellsG (by simp) _ _ _ rfl 1 1 rfl (by decide)
    have h2 : Below ((w6.alloc (.cells #[.int .i64 ((t1 : Int) - 1)] 3)).alloc (.cells #[.int .i64 (t1 : Int)] 3)).heap.size ((w6.alloc (.cells #[.int .i64 ((t1 : Int) - 1)] 3)).alloc (.cells #[.int .i64 (t1 : Int)] 3)) W7 := by subst hW7; exact (by repeat (first | exact Below.refl _ _ | assumption | refine Below.setCell ?_ (by first | (simp; done) | (simp; omega) | omega) _ | refine below_drewN ?_ _ | refine Below.drew ?_ | refine Below.alloc ?_ (by first | (simp; done) | (simp; omega) | omega) _))
    have hs := hg.size
    refine (h1.bel h2).keep hs fun b o e hbb => ?_
    cases e
    exact hg.block _ hbb (hne _ (by omega))
  refine ⟨Z ++ [mod1 w6.heap.size t1, mod2 w6.heap.size t1], ?_, hln, hr, fun z hz => ?_⟩
  · rw [List.map_append, hZ]
    have : T1.length = t1 := by rw [← hZ, List.length_map, hl]
    unfold modT
    rw [this]
    rfl
  · rcases List.mem_append.1 hz with h | h
    · exact (hk z h).bel hb
    · simp only [List.mem_cons, List.not_mem_nil, or_false] at h
      rcases h with rfl | rfl
      · exact r1
      · exact r2

set_option maxRecDepth 100000 in
set_option maxHeartbeats 40000000 in
theorem right_walk {w : World} {A : Option Addr} {n c : Nat} {L : List TokD} (hl : Rd w A n c 4 (L.flatMap tcs)) (hn : L.length = n) (htab : Asp w) : Calls Tryd.prog 9 #[.slice A n c] w fun e w' => e = .returned (.bool true) ∧ Below w.heap.size w w' := by
  have HT := Lib.hid htab
  have HLR := Lib.hid hl
  have HNL := Lib.hid hn
  obtain ⟨W, hW⟩ : ∃ W, fewL L = W := ⟨_, rfl⟩
  have hWl : W.length ≤ 40 := by rw [← hW]; exact few_len L
  have HWs : Hid (∀ t ∈ W, t.s.size ≤ 12) := Lib.hid (by
    rw [← hW]
    intro t ht
    obtain ⟨u, hu, rfl⟩ := List.mem_map.1 ht
    exact cut_small u)
  have HW := Lib.hid hW
  clear htab hl hn hW
  go_enter Tryd.func9, Tryd.ntmps9
  go_upto_region 2 with (go_at_call 14; go_must (refine (shown_any _ HT.out).mono ?_); rintro e w1 ⟨rfl, hb⟩; have HB : Hid (Below w.heap.size w w1) := Lib.hid hb; clear hb)
  go_upto_region 3 with (go_at_call 20; go_must (refine (few_any (HLR.out.bel HB.out) HNL.out).mono ?_); rintro e w2 ⟨v, rfl, hn⟩; rw [HW.out] at hn; obtain ⟨A6, c6, rfl, -, -⟩ := Own.rd hn.own; have HH := Lib.hid ((Hold.nil w.heap.size w1).new (it := .row W) hn.bel HB.out.size ⟨hn.own, hn.new⟩); replace HB := Lib.hid (HB.out.trans (below_low hn.bel HB.out.size)); clear hn)
  obtain ⟨m, hm⟩ : ∃ m, W.length = m := ⟨_, rfl⟩
  rw [hm] at HH hWl ⊢
  have HWm := Lib.hid hm
  have HB0 := HB
  have HH0 : Hid (Hold w.heap.size w2 [(.slice A6 m c6, .row W)]) := HH
  clear hm HH HB
  go_wp2_with fail
  go_loopw [5] (fun v5 wr => ∃ (i : Nat) (M : List TokD), i ≤ m ∧ v5 = .int .i64 i ∧ Hid (M = (W.take i).map maskT ++ W.drop i) ∧ Hid (M.length = m) ∧ Hid (Hold w.heap.size wr [(.slice A6 m c6, .row M)]) ∧ Hid (Below w.heap.size w wr)) (fun v5 _ => m - (intOf v5).toNat)
  case atStart => exact ⟨0, W, Nat.zero_le _, rfl, Lib.hid (by simp), HWm, HH0, HB0⟩
  case round =>
    obtain ⟨i, M, hi, rfl, HM, HMl, HH, HB⟩ := hrel
    clear HH0 HB0
    by_cases hlt : i < m
    · obtain ⟨t, ht⟩ : ∃ t, W[i]? = some t := ⟨_, List.getElem?_eq_getElem (by have := HWm.out; omega)⟩
      have hMt : M[i]? = some t := by
        rw [HM.out, List.getElem?_append_right (by simp; omega)]
        rw [List.length_map, List.length_take, List.getElem?_drop]
        rw [show i + (i - min i W.length) = i from by have := HWm.out; omega]
        exact ht
      obtain ⟨b, rfl, cur, hcur⟩ := HH.out.own.at0 (by omega)
      have hown := HH.out.own
      obtain ⟨b2, o2, e2, hb2, -, -, -, p3⟩ := (OwnT.rd_ hown).tok hMt (by have := HMl.out; omega)
      cases e2
      simp only [Nat.zero_add] at p3
      have f3 := hcur.frozen (i * 4 + 3)
      have HS := Lib.hid (HH.out.setTokN (by have := HB.out.size; omega) HMl.out hMt (maskI t.n))
      have HBb : Hid (w.heap.size ≤ b) := Lib.hid (HH.out.head.2 b rfl)
      have HTT := Lib.hid ht
      clear hcur hown hMt ht
      go_wp2_with fail
      go_round
      case rel => exact ⟨i + 1, M.set i { t with n := maskI t.n }, by omega, by go_num, Lib.hid (by rw [HM.out]; exact mov_next maskT HTT.out), Lib.hid (by rw [List.length_set]; exact HMl.out), HS, Lib.hid (Below.setCell HB.out HBb.out _)⟩
      case measure => simp [intOf]; omega
    · obtain rfl : i = m := by omega
      have hMM : M = W.map maskT := by
        rw [HM.out]
        have := HWm.out
        rw [List.take_of_length_le (by omega), List.drop_of_length_le (by omega), List.append_nil]
      have hms : ∀ t ∈ M, t.s.size ≤ 12 := by
        intro t ht
        rw [hMM] at ht
        obtain ⟨u, hu, rfl⟩ := List.mem_map.1 ht
        exact HWs.out u hu
      have hmn : ∀ t ∈ M, 0 ≤ t.n := by
        intro t ht
        rw [hMM] at ht
        obtain ⟨u, hu, rfl⟩ := List.mem_map.1 ht
        exact (maskI_ok u.n).1
      obtain ⟨r, hr⟩ := exprE_start M
      obtain ⟨T1, hT1⟩ : ∃ T, treeOf r.1.ns = T := ⟨_, rfl⟩
      obtain ⟨N, hN⟩ : ∃ N, nodeOf r = N := ⟨_, rfl⟩
      obtain ⟨U, hU⟩ : ∃ N, usedOf r = N := ⟨_, rfl⟩
      obtain ⟨E, hE⟩ : ∃ N, r.1.e = N := ⟨_, rfl⟩
      obtain ⟨t1, ht1⟩ : ∃ t, T1.length = t := ⟨_, rfl⟩
      have HMS := Lib.hid hms
      have HMN := Lib.hid hmn
      have HR1 : Hid (parsed M = some r) := Lib.hid hr
      have HN1 := Lib.hid hN
      have HU1 := Lib.hid hU
      have HE := Lib.hid hE
      have HT1 := Lib.hid hT1
      have HL1 := Lib.hid ht1
      have HGR := Lib.hid (exprE_gd M _ _ _ hr).1
      clear hr hN hU hE hT1 ht1 hMM hlt HM hms hmn
      go_upto_region 8 with (go_at_call 16; go_must (refine (told_is (m := t1) (hm := HL1.out) (a := N) (b := U) (e := E) HR1.out HN1.out HU1.out HE.out HT1.out (OwnT.rdm (HH.out.front 0 rfl).own HMl.out) (OwnT.old (HH.out.front 0 rfl).own) HMl.out (by omega) (fun t ht => Nat.le_trans (HMS.out t ht) (by decide)) (HT.out.below HB.out)).mono ?_); rintro e w11 ⟨A9, c9, rfl, hrn, hbn⟩; have HRN := Lib.hid hrn; replace HH := Lib.hid (HH.out.bel hbn); replace HB := Lib.hid (HB.out.trans (below_low hbn HB.out.size)); clear hrn hbn)
      have hh := HH.out.got (N := N) (U := U) (E := E) HB.out.size HRN.out HL1.out
      have hb9 : Below w.heap.size w (w11.alloc (.cells #[.int .i64 N, .int .i64 U, .int .i64 E, .slice A9 t1 c9] 31)) := Below.alloc HB.out HB.out.size _
      generalize w11.alloc (.cells #[.int .i64 N, .int .i64 U, .int .i64 E, .slice A9 t1 c9] 31) = W1 at hh hb9 ⊢
      generalize w11.heap.size = g1 at hh ⊢
      clear HH HB HRN
      have HB := Lib.hid hb9
      obtain ⟨A1, c1, hk1, hn1⟩ := hh.gotOpen HL1.out
      have HK1 := Lib.hid hk1
      have HX1 := Lib.hid hn1
      have y10 := hk1.cell 0
      have y11 := hk1.cell 1
      have y12 := hk1.cell 2
      have y13 := hk1.cell 3
      have l1 := hk1.lt
      simp only [List.getElem?_toArray, List.getElem?_cons_zero, List.getElem?_cons_succ] at y10 y11 y12 y13
      clear hh hb9 hk1 hn1
      by_cases he : E = 0
      · subst he
        obtain ⟨hb1, hx1⟩ := parsed_bk HR1.out HE.out
        have htree := hb1.tree
        rw [HT1.out] at htree
        have HKL : Hid (∀ (i : Nat) (x : NodeD), r.1.ns[i]? = some x → x.kids.length ≤ 4398046511103) := Lib.hid (fun i x hx => HX1.out.kl i x (by rw [htree]; exact hx))
        obtain ⟨hrt, hpos, hr2, hat⟩ := right_plain HR1.out HE.out HKL.out (fun t ht => Nat.le_trans (HMS.out t ht) (by decide)) HMN.out
        have ht120 : t1 ≤ 120 := by
          rw [← HL1.out, htree]
          have h1 := HGR.out.cnt
          have h2 := HGR.out.le (Nat.zero_le _)
          simp only [startS, List.length_nil] at h1
          have := HMl.out
          omega
        have htl : r.1.ns.length = t1 := by rw [← htree]; exact HL1.out
        have ht0 : 0 < t1 := by omega
        have hNt : N = (t1 : Int) - 1 := by
          rw [← HN1.out]
          unfold nodeOf
          rw [if_neg (fun h => h HE.out), hr2, htl]
        obtain ⟨ua, hua⟩ : ∃ ua, r.1.at_ = ua := ⟨_, rfl⟩
        have hUa : U = (ua : Int) := by rw [← HU1.out, used_ok HE.out, hua]
        have hua0 : 0 < ua := by omega
        have huai : ua ≤ i := by
          have := HGR.out.le (Nat.zero_le _)
          have := HMl.out
          omega
        subst hUa hNt
        rw [← htree] at hrt
        obtain ⟨A', c', e9, hr9⟩ := HX1.out.rdT
        injection e9 with e9 e10 e11
        subst e9 e11
        rw [← e10] at hr9
        obtain ⟨Z, hZ, hZl, hzr, hzk⟩ := hr9
        have HZ : Hid (Z.map (·.x) = T1) := Lib.hid hZ
        have HZL := Lib.hid hZl
        have HZR := Lib.hid hzr
        have HZK := Lib.hid hzk
        have HRT := Lib.hid hrt
        have hin : t1 ≤ 9223372036854775807 := by omega
        have hws : IntKind.i64.wrap ((t1 : Int) - 1) = (t1 : Int) - 1 := IntWalk.i64_in _ (by omega)
        have hd0 : decide ((0 : Int) < (t1 : Int)) = true := decide_eq_true (by omega)
        have hd1 : decide ((0 : Int) < (ua : Int)) = true := decide_eq_true (by omega)
        have hd2 : decide ((ua : Int) ≤ (i : Int)) = true := decide_eq_true (by omega)
        clear e10 hZ hZl hzr hzk hrt hb1 hx1 htree hr2 hat hua htl HKL HMS HMN HGR HN1 HU1 HE HR1 HT1 hpos
        go_upto_region 11 with fail
        go_upto_region 12 with (first | (at_builtin; have hg0 := HOZ.out; go_must (refine wpList_appendZ _ rfl _ _ rfl (.slice A11 t1 c11) Z rfl (Own.new HOZ.out (by exact (by repeat (first | exact Below.refl _ _ | assumption | refine Below.setCell ?_ (by first | (simp; done) | (simp; omega) | omega) _ | refine below_drewN ?_ _ | refine Below.drew ?_ | refine Below.alloc ?_ (by first | (simp; done) | (simp; omega) | omega) _)))) _ 2 2 [mod1 w6.heap.size t1, mod2 w6.heap.size t1] rfl (Rd.cellsG (by simp) _ _ _ rfl 2 5 rfl (by decide)) rfl (by have := HZL.out; omega) ?_); intro v7 w7 ho7 hg7 hn7; have HO7 := Lib.hid ho7; have HG7 := Lib.hid hg7; clear ho7 hg7 hn7) | (at_builtin; go_must (refine wpList_appendZ _ rfl _ _ rfl (.slice (some ⟨W1.heap.size, 0, none⟩) 0 0) [] rfl (Own.made W1 #[] 0 (by omega) rfl) A1 t1 c1 Z rfl (HZR.out.bel (by repeat (first | exact Below.refl _ _ | assumption | refine Below.setCell ?_ (by first | (simp; done) | (simp; omega) | omega) _ | refine below_drewN ?_ _ | refine Below.drew ?_ | refine Below.alloc ?_ (by first | (simp; done) | (simp; omega) | omega) _))) HZL.out (by simp only [List.length_nil]; omega) ?_); intro v6 w6 ho6 hg6 hn6; simp only [List.nil_append] at ho6; have HBZ0 : Hid (Below W1.heap.size W1 w6) := Lib.hid (Below.trans (show Below W1.heap.size W1 (W1.alloc (.cells #[] 51)) from (by repeat (first | exact Below.refl _ _ | assumption | refine Below.setCell ?_ (by first | (simp; done) | (simp; omega) | omega) _ | refine below_drewN ?_ _ | refine Below.drew ?_ | refine Below.alloc ?_ (by first | (simp; done) | (simp; omega) | omega) _))) (grown_below hg6 (by simp) (fun b e => by have e2 : W1.heap.size = b := (by simpa [Value.ownBlock] using e); omega))); have HNB : Hid (∀ b, v6.ownBlock = some b → W1.heap.size ≤ b) := Lib.hid (fun b e => by rcases hn6 with h | h <;> rw [h] at e; (have e2 : W1.heap.size = b := (by simpa [Value.ownBlock] using e); omega); (injection e with e; simp at e; omega)); obtain ⟨A11, c11, e66, -, -⟩ := Own.rd ho6; rw [HZL.out] at e66; subst e66; have HOZ : Hid (OwnZ w6 (.slice A11 t1 c11) Z) := Lib.hid ho6; clear hg6 hn6 ho6))
        have hbz : Below W1.heap.size W1 w7 := Below.trans (Below.trans HBZ0.out (show Below W1.heap.size w6 (((w6.alloc (.cells #[.int .i64 ((t1 : Int) - 1)] 3)).alloc (.cells #[.int .i64 (t1 : Int)] 3)).alloc (.cells #[.int .i64 42, .int .i64 0, .string ⟨#[]⟩, .int .i64 0, .slice (some ⟨w6.heap.size, 0, none⟩) 1 1, .int .i64 40, .int .i64 0, .string ⟨#[]⟩, .int .i64 0, .slice (some ⟨w6.heap.size + 1, 0, none⟩) 1 1] 51)) from by have := HBZ0.out.size; exact (by repeat (first | exact Below.refl _ _ | assumption | refine Below.setCell ?_ (by first | (simp; done) | (simp; omega) | omega) _ | refine below_drewN ?_ _ | refine Below.drew ?_ | refine Below.alloc ?_ (by first | (simp; done) | (simp; omega) | omega) _)))) (grown_below HG7.out (by have := HBZ0.out.size; simp; omega) (fun b e => HNB.out b e))
        obtain ⟨A12, c12, e77, -, -⟩ := Own.rd HO7.out
        rw [show (Z ++ [mod1 w6.heap.size t1, mod2 w6.heap.size t1]).length = t1 + 2 from by simp [HZL.out]] at e77
        subst e77
        have HRD := Lib.hid (rdT_mod HZ.out HZL.out HZK.out HOZ.out rfl HO7.out HG7.out hbz)
        have HB7 := Lib.hid (HB.out.trans (below_low hbz HB.out.size))
        have k1 := HK1.out.bel hbz
        clear y10 y11 y12 y13 l1
        have y10 := k1.cell 0
        have y11 := k1.cell 1
        have l1 := k1.lt
        simp only [List.getElem?_toArray, List.getElem?_cons_zero, List.getElem?_cons_succ] at y10 y11
        clear k1 hbz HO7 HG7 HOZ HNB HBZ0 HZ HZL HZK HZR HX1 HK1
        go_wp2_with (go_at_call 27; go_must (refine (right_any HRD.out HRT.out (by omega)).mono ?_); rintro e w20 ⟨rfl, hb⟩; have HBF := Lib.hid (HB7.out.trans (below_low hb HB7.out.size)); clear hb)
        go_ret
        exact ⟨rfl, HBF.out⟩
      · obtain ⟨h30, k, hk, hki⟩ : (E = 30 ∨ E = 32) ∧ ∃ k : Nat, r.1.bad = k ∧ k ≤ M.length := by
          rcases HGR.out.er (Nat.zero_le _) rfl with h1 | h1
          · exact absurd (HE.out ▸ h1) he
          · rw [← HE.out]; exact h1
        have hNt : N = -1 := by
          rw [← HN1.out]
          unfold nodeOf
          rw [if_pos (by rw [HE.out]; exact he)]
        have hUk : U = (k : Int) := by
          rw [← HU1.out]
          unfold usedOf
          rw [if_pos (by rw [HE.out]; exact he), hk]
        have hki2 : k ≤ i := by have := HMl.out; omega
        subst hNt hUk
        have hd2 : decide ((k : Int) ≤ (i : Int)) = true := decide_eq_true (by omega)
        have hd0 : decide ((0 : Int) ≤ (k : Int)) = true := decide_eq_true (by omega)
        clear hk hki HGR HE HR1 HT1 HX1 HMS HMN HN1 HU1
        rcases h30 with rfl | rfl
        · go_wp2_with fail
          go_ret
          exact ⟨rfl, HB.out⟩
        · go_wp2_with fail
          go_ret
          exact ⟨rfl, HB.out⟩

end Go.Proofs.YtjdcicopjipmnaaDoor
