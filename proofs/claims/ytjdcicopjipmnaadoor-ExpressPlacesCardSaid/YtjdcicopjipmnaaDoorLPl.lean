/- ExpressPlaces: the walk. -/
import Derived.Test.YtjdcicopjipmnaaDoorBak
namespace Go.Proofs.YtjdcicopjipmnaaDoor
open Go.RowKit
set_option linter.unusedVariables false
set_option linter.unusedSimpArgs false
set_option maxRecDepth 100000 in
set_option maxHeartbeats 40000000 in
theorem places_walk {w : World} {A : Option Addr} {n c : Nat} {L : List TokD} (by_ : Int) (hl : Rd w A n c 4 (L.flatMap tcs)) (hn : L.length = n) (hat : ∀ t ∈ L, -9223372036854775808 ≤ t.at_ ∧ t.at_ ≤ 9223372036854775807) (htab : Asp w) : Calls Tryd.prog 8 #[.slice A n c, .int .i64 by_] w fun e w' => e = .returned (.bool true) ∧ Below w.heap.size w w' := by
  have HT := Lib.hid htab
  have HLR := Lib.hid hl
  have HNL := Lib.hid hn
  obtain ⟨W, hW⟩ : ∃ W, fewL L = W := ⟨_, rfl⟩
  have hWl : W.length ≤ 40 := by rw [← hW]; exact few_len L
  have HWs : Hid (∀ t ∈ W, t.s.size ≤ maxLen) := Lib.hid (by rw [← hW]; exact few_small L)
  have HWa : Hid (∀ t ∈ W, -9223372036854775808 ≤ t.at_ ∧ t.at_ ≤ 9223372036854775807) := Lib.hid (by
    intro t ht
    rw [← hW] at ht
    obtain ⟨u, hu, rfl⟩ := List.mem_map.1 ht
    exact hat u (List.mem_of_mem_take hu))
  have HW := Lib.hid hW
  have HM1 := Lib.hid True.intro
  clear htab hl hn hat hW
  go_enter Tryd.func8, Tryd.ntmps8
  go_upto_region 2 with (go_at_call 14; go_must (refine (shown_any _ HT.out).mono ?_); rintro e w1 ⟨rfl, hb⟩; have HB : Hid (Below w.heap.size w w1) := Lib.hid hb; clear hb)
  go_upto_region 3 with (go_at_call 20; go_must (refine (few_any (HLR.out.bel HB.out) HNL.out).mono ?_); rintro e w2 ⟨v, rfl, hn⟩; rw [HW.out] at hn; obtain ⟨A6, c6, rfl, -, -⟩ := Own.rd hn.own; have HH := Lib.hid ((Hold.nil w.heap.size w1).new (it := .row W) hn.bel HB.out.size ⟨hn.own, hn.new⟩); replace HB := Lib.hid (HB.out.trans (below_low hn.bel HB.out.size)); clear hn)
  go_upto_region 4 with (go_at_call 20; go_must (refine (few_any (HLR.out.bel HB.out) HNL.out).mono ?_); rintro e w3 ⟨v, rfl, hn⟩; rw [HW.out] at hn; obtain ⟨A7, c7, rfl, -, -⟩ := Own.rd hn.own; replace HH := Lib.hid (HH.out.new (it := .row W) hn.bel HB.out.size ⟨hn.own, hn.new⟩); replace HB := Lib.hid (HB.out.trans (below_low hn.bel HB.out.size)); clear hn)
  obtain ⟨m, hm⟩ : ∃ m, W.length = m := ⟨_, rfl⟩
  rw [hm] at HH hWl ⊢
  have HWm := Lib.hid hm
  have HB0 := HB
  have HH0 : Hid (Hold w.heap.size w3 [(.slice A7 m c7, .row W), (.slice A6 m c6, .row W)]) := HH
  clear hm HH HB
  go_wp2_with fail
  go_loopw [8] (fun v8 wr => ∃ (i : Nat) (M : List TokD), i ≤ m ∧ v8 = .int .i64 i ∧ Hid (M = (W.take i).map (shT (movI by_)) ++ W.drop i) ∧ Hid (M.length = m) ∧ Hid (Hold w.heap.size wr [(.slice A7 m c7, .row M), (.slice A6 m c6, .row W)]) ∧ Hid (Below w.heap.size w wr)) (fun v8 _ => m - (intOf v8).toNat)
  case atStart => exact ⟨0, W, Nat.zero_le _, rfl, Lib.hid (by simp), HWm, HH0, HB0⟩
  case round =>
    obtain ⟨i, M, hi, rfl, HM, HMl, HH, HB⟩ := hrel
    clear HH0 HB0
    by_cases hlt : i < m
    · obtain ⟨t, ht⟩ : ∃ t, W[i]? = some t := ⟨_, List.getElem?_eq_getElem (by have := HWm.out; omega)⟩
      have hMt : M[i]? = some t := by
        rw [HM.out, List.getElem?_append_right (by simp; omega)]
        rw [List.length_map, List.length_take, List.getElem?_drop]
        rw [show i + (i - min i W.length) = i from by have := HWm.out; omega]
        exact ht
      obtain ⟨b, rfl, cur, hcur⟩ := HH.out.own.at0 (by omega)
      have hown := HH.out.own
      obtain ⟨b2, o2, e2, hb2, -, p1, -, -⟩ := (OwnT.rd_ hown).tok hMt (by have := HMl.out; omega)
      cases e2
      simp only [Nat.zero_add] at p1
      have f1 := hcur.frozen (i * 4 + 1)
      have HS := Lib.hid (HH.out.setTok (by have := HB.out.size; omega) HMl.out hMt (movI by_ t.at_))
      have HBb : Hid (w.heap.size ≤ b) := Lib.hid (HH.out.head.2 b rfl)
      have HTT := Lib.hid ht
      clear hcur hown hMt ht
      go_wp2_with fail
      go_round
      case rel => exact ⟨i + 1, M.set i { t with at_ := movI by_ t.at_ }, by omega, by go_num, Lib.hid (by rw [HM.out]; exact mov_next (shT (movI by_)) HTT.out), Lib.hid (by rw [List.length_set]; exact HMl.out), HS, Lib.hid (Below.setCell HB.out HBb.out _)⟩
      case measure => simp [intOf]; omega
    · obtain rfl : i = m := by omega
      have hMM : M = W.map (shT (movI by_)) := by
        rw [HM.out]
        have := HWm.out
        rw [List.take_of_length_le (by omega), List.drop_of_length_le (by omega), List.append_nil]
      obtain ⟨r, hr⟩ := exprE_start W
      have hpl := places_plain (movI by_) (r := r) hr
      obtain ⟨hp1, hp2, hp3, hp4⟩ := hpl
      rw [← hMM] at hp1
      obtain ⟨T1, hT1⟩ : ∃ T, treeOf r.1.ns = T := ⟨_, rfl⟩
      obtain ⟨T2, hT2⟩ : ∃ T, treeOf (shS (movI by_) r.1).ns = T := ⟨_, rfl⟩
      obtain ⟨N, hN⟩ : ∃ N, nodeOf r = N := ⟨_, rfl⟩
      obtain ⟨U, hU⟩ : ∃ N, usedOf r = N := ⟨_, rfl⟩
      obtain ⟨E, hE⟩ : ∃ N, r.1.e = N := ⟨_, rfl⟩
      obtain ⟨t1, ht1⟩ : ∃ t, T1.length = t := ⟨_, rfl⟩
      obtain ⟨t2, ht2⟩ : ∃ t, T2.length = t := ⟨_, rfl⟩
      have HR1 : Hid (parsed W = some r) := Lib.hid hr
      have HR2 := Lib.hid hp1
      have HN1 := Lib.hid hN
      have HU1 := Lib.hid hU
      have HN2 := Lib.hid (hp2.trans hN)
      have HU2 := Lib.hid (hp3.trans hU)
      have HE := Lib.hid hE
      have HT1 := Lib.hid hT1
      have HT2 := Lib.hid hT2
      have HL1 := Lib.hid ht1
      have HL2 := Lib.hid ht2
      have HPL := Lib.hid hp4
      have HCN : Hid (r.1.ns.length ≤ 120) := Lib.hid (by
        have hg := (exprE_gd W _ _ _ hr).1
        have h1 := hg.cnt
        have h2 := hg.le (Nat.zero_le _)
        simp only [startS, List.length_nil] at h1
        have := HWm.out
        omega)
      have HMs : Hid (∀ t ∈ M, t.s.size ≤ maxLen) := Lib.hid (by
        intro t ht
        rw [hMM] at ht
        obtain ⟨u, hu, rfl⟩ := List.mem_map.1 ht
        exact HWs.out u hu)
      clear hr hp1 hp2 hp3 hp4 hN hU hE hT1 hT2 ht1 ht2 hMM hlt HM
      go_upto_region 9 with (go_at_call 16; go_must (refine (told_is (m := t1) (hm := HL1.out) (a := N) (b := U) (e := E) HR1.out HN1.out HU1.out HE.out HT1.out (OwnT.rdm (HH.out.front 1 rfl).own HWm.out) (OwnT.old (HH.out.front 1 rfl).own) HWm.out (by omega) HWs.out (HT.out.below HB.out)).mono ?_); rintro e w11 ⟨A9, c9, rfl, hrn, hbn⟩; have HRN := Lib.hid hrn; replace HH := Lib.hid (HH.out.bel hbn); replace HB := Lib.hid (HB.out.trans (below_low hbn HB.out.size)); clear hrn hbn)
      have hh := HH.out.got (N := N) (U := U) (E := E) HB.out.size HRN.out HL1.out
      have hb9 : Below w.heap.size w (w11.alloc (.cells #[.int .i64 N, .int .i64 U, .int .i64 E, .slice A9 t1 c9] 31)) := Below.alloc HB.out HB.out.size _
      generalize w11.alloc (.cells #[.int .i64 N, .int .i64 U, .int .i64 E, .slice A9 t1 c9] 31) = W1 at hh hb9 ⊢
      generalize w11.heap.size = g1 at hh ⊢
      clear HH HB HRN
      have HH := Lib.hid hh
      have HB := Lib.hid hb9
      clear hh hb9
      go_upto_region 10 with (go_at_call 16; go_must (refine (told_is (m := t2) (hm := HL2.out) (a := N) (b := U) (e := E) HR2.out HN2.out HU2.out HE.out HT2.out (OwnT.rdm (HH.out.front 1 rfl).own HMl.out) (OwnT.old (HH.out.front 1 rfl).own) HMl.out (by omega) HMs.out (HT.out.below HB.out)).mono ?_); rintro e w12 ⟨A10, c10, rfl, hrn, hbn⟩; have HRN := Lib.hid hrn; replace HH := Lib.hid (HH.out.bel hbn); replace HB := Lib.hid (HB.out.trans (below_low hbn HB.out.size)); clear hrn hbn)
      have hh := HH.out.got (N := N) (U := U) (E := E) HB.out.size HRN.out HL2.out
      have hb9 : Below w.heap.size w (w12.alloc (.cells #[.int .i64 N, .int .i64 U, .int .i64 E, .slice A10 t2 c10] 31)) := Below.alloc HB.out HB.out.size _
      generalize w12.alloc (.cells #[.int .i64 N, .int .i64 U, .int .i64 E, .slice A10 t2 c10] 31) = W2 at hh hb9 ⊢
      generalize w12.heap.size = g2 at hh ⊢
      clear HH HB HRN
      have HB := Lib.hid hb9
      obtain ⟨A1, c1, hk1, hn1⟩ := hh.tail.gotOpen HL1.out
      obtain ⟨A2, c2, hk2, hn2⟩ := hh.gotOpen HL2.out
      have HWR := Lib.hid (OwnT.rdm hh.tail.tail.tail.own HWm.out)
      have HK1 := Lib.hid hk1
      have HK2 := Lib.hid hk2
      have HX1 := Lib.hid hn1
      have HX2 := Lib.hid hn2
      have y10 := hk1.cell 0
      have y11 := hk1.cell 1
      have y12 := hk1.cell 2
      have y13 := hk1.cell 3
      have y20 := hk2.cell 0
      have y21 := hk2.cell 1
      have y22 := hk2.cell 2
      have y23 := hk2.cell 3
      have l1 := hk1.lt
      have l2 := hk2.lt
      simp only [List.getElem?_toArray, List.getElem?_cons_zero, List.getElem?_cons_succ] at y10 y11 y12 y13 y20 y21 y22 y23
      clear hh hb9 hk1 hk2 hn1 hn2
      by_cases he : E = 0
      · subst he
        obtain ⟨hq1, hq2, hq3⟩ := HPL.out HE.out
        rw [HT1.out] at hq1
        rw [HT2.out] at hq2
        have hT1r : T1 = r.1.ns := HT1.out.symm.trans (HT1.out.trans hq1)
        have hT2r : T2 = T1.map (shN (movI by_)) := by rw [hT1r]; exact hq2
        have h12 : t2 = t1 := by rw [← HL1.out, ← HL2.out, hT2r, List.length_map]
        subst h12
        have ht120 : t2 ≤ 120 := by rw [← HL1.out, hT1r]; exact HCN.out
        have HPQ : Hid (∀ (j : Nat) (x : NodeD), T1[j]? = some x → PlaceOk W r.1.at_ x.at_) := Lib.hid (fun j x hx => hq3 j x (by rw [← hT1r]; exact hx))
        have HTA : Hid (∀ x ∈ T1, -9223372036854775808 ≤ x.at_ ∧ x.at_ ≤ 9223372036854775807) := Lib.hid (by
          intro x hx
          obtain ⟨j, hj⟩ := List.getElem?_of_mem hx
          obtain ⟨k, t, _, h2, h3⟩ := HPQ.out j x hj
          rw [← h3]
          exact HWa.out t (List.mem_of_getElem? h2))
        obtain ⟨A', c', e9, hr9⟩ := HX2.out.rdT
        injection e9 with e9 e10 e11
        subst e9 e11
        rw [← e10] at hr9
        obtain ⟨Z, hZ, hZl, hzr, hzk⟩ := hr9
        have HZ : Hid (Z.map (·.x) = T1.map (shN (movI by_))) := Lib.hid (hZ.trans hT2r)
        have HZL := Lib.hid hZl
        have HZR := Lib.hid hzr
        have HZK := Lib.hid hzk
        obtain ⟨ua, hua⟩ : ∃ ua, r.1.at_ = ua := ⟨_, rfl⟩
        have hUa : U = (ua : Int) := by rw [← HU1.out, used_ok HE.out, hua]
        subst hUa
        rw [hua] at HPQ
        clear e10 hZ hZl hzr hzk hq1 hq2 hq3 hT1r hT2r HPL HCN HN1 HN2 HU1 HU2 HE HR1 HR2 HT1 HT2 hua
        go_upto_region 17 with (at_builtin; go_must (refine wpList_appendZ _ rfl _ _ rfl (.slice (some ⟨W2.heap.size, 0, none⟩) 0 0) [] rfl (Own.made W2 #[] 0 (by omega) rfl) A2 t2 c2 Z rfl (HZR.out.bel (by repeat (first | exact Below.refl _ _ | assumption | refine Below.setCell ?_ (by first | (simp; done) | (simp; omega) | omega) _ | refine below_drewN ?_ _ | refine Below.drew ?_ | refine Below.alloc ?_ (by first | (simp; done) | (simp; omega) | omega) _))) HZL.out (by simp only [List.length_nil]; omega) ?_); intro v6 w6 ho6 hg6 hn6; simp only [List.nil_append] at ho6; have HOZ0 := Lib.hid ho6; have HBZ0 : Hid (Below W2.heap.size W2 w6) := Lib.hid (Below.trans (show Below W2.heap.size W2 (W2.alloc (.cells #[] 51)) from (by repeat (first | exact Below.refl _ _ | assumption | refine Below.setCell ?_ (by first | (simp; done) | (simp; omega) | omega) _ | refine below_drewN ?_ _ | refine Below.drew ?_ | refine Below.alloc ?_ (by first | (simp; done) | (simp; omega) | omega) _))) (grown_below hg6 (by simp) (fun b e => by have e2 : W2.heap.size = b := (by simpa [Value.ownBlock] using e); omega))); have HNB : Hid (∀ b, v6.ownBlock = some b → W2.heap.size ≤ b) := Lib.hid (fun b e => by rcases hn6 with h | h <;> rw [h] at e; (have e2 : W2.heap.size = b := (by simpa [Value.ownBlock] using e); omega); (injection e with e; simp at e; omega)); clear hg6 hn6)
        obtain ⟨A11, c11, rfl, -, -⟩ := Own.rd HOZ0.out
        have HOZ : Hid (OwnZ w6 (.slice A11 t2 c11) Z) := Lib.hid (by have := HOZ0.out; rw [HZL.out] at this; exact this)
        rw [HZL.out] at HNB ⊢
        clear HOZ0 ho6
        go_wp2_with fail
        go_loopw [12, 13, 14] (fun v12 v13 v14 wr => ∃ (j : Nat) (Y : List NdS), j ≤ t2 ∧ v12 = .int .i64 j ∧ Hid (Y = (Z.take j).map (fun z => setZ (wrap64 (z.x.at_ - by_)) z) ++ Z.drop j) ∧ Hid (Y.length = t2) ∧ Hid (OwnZ wr (.slice A11 t2 c11) Y) ∧ Hid (Below W2.heap.size W2 wr)) (fun v12 _ _ _ => t2 - (intOf v12).toNat)
        case atStart => exact ⟨0, Z, Nat.zero_le _, rfl, Lib.hid (by simp), HZL, HOZ, HBZ0⟩
        case round =>
          obtain ⟨j, Y, hj, rfl, HY, HYl, HO, HBW⟩ := hrel
          clear HOZ HBZ0
          have hbw := HBW.out
          have k1 := HK1.out.bel hbw
          have k2 := HK2.out.bel hbw
          clear y10 y11 y12 y13 y20 y21 y22 y23 l1 l2
          have y11 := k1.cell 1
          have y13 := k1.cell 3
          have l1 := k1.lt
          simp only [List.getElem?_toArray, List.getElem?_cons_zero, List.getElem?_cons_succ] at y11 y13
          clear k1 k2 hbw
          by_cases hltj : j < t2
          · obtain ⟨z, hz⟩ : ∃ z, Z[j]? = some z := ⟨_, List.getElem?_eq_getElem (by have := HZL.out; omega)⟩
            have hYz : Y[j]? = some z := by
              have := HZL.out
              rw [HY.out, List.getElem?_append_right (by simp; omega), List.length_map, List.length_take, List.getElem?_drop, show j + (j - min j Z.length) = j from by omega]
              exact hz
            obtain ⟨b, rfl, cur, hcur⟩ := HO.out.at0 (by omega)
            obtain ⟨p1, f1, hset⟩ := HO.out.set_ HYl.out hYz (wrap64 (z.x.at_ - by_))
            have hbb : W2.heap.size ≤ b := HNB.out b rfl
            have hblt := hcur.lt
            have HS := Lib.hid hset
            have HZz := Lib.hid hz
            obtain ⟨x, hx⟩ : ∃ x, T1[j]? = some x := ⟨_, List.getElem?_eq_getElem (by have := HL1.out; omega)⟩
            obtain ⟨k0, tk, hk0, hkW, hka⟩ := HPQ.out j x hx
            have hk0i : k0 < i := by
              have := (List.getElem?_eq_some_iff.1 hkW).1
              have := HWm.out
              omega
            have HKW := Lib.hid hkW
            have HKA := Lib.hid hka
            have HXX := Lib.hid hx
            clear hz hYz hset hcur hkW hka hx
            go_wp2_with fail
            have HB2 : Hid (Below W2.heap.size W2 (wr.setCell ⟨b, j * 5 + 1, none⟩ (.int .i64 (wrap64 (z.x.at_ - by_))))) := Lib.hid (Below.setCell HBW.out hbb _)
            generalize wr.setCell ⟨b, j * 5 + 1, none⟩ (.int .i64 (wrap64 (z.x.at_ - by_))) = wo at HS HB2 ⊢
            clear p1 f1 HO HBW y11 y13 l1
            go_loopw [13, 14] (fun v13 v14 wq => ∃ (k : Nat) (t : Bool), k ≤ 40 ∧ v14 = .int .i64 k ∧ v13 = .bool t ∧ (t = true ∨ k ≤ k0) ∧ Hid (Below wo.heap.size wo wq)) (fun _ v14 _ => 40 - (intOf v14).toNat)
            case atStart => exact ⟨0, false, by decide, rfl, rfl, .inr (Nat.zero_le _), Lib.hid (Below.refl _ _)⟩
            case round =>
              obtain ⟨k, t, hk40, rfl, rfl, hkt, HQ⟩ := hrel
              have hbq : Below W2.heap.size W2 wr := HB2.out.trans (below_low HQ.out HB2.out.size)
              have k1 := HK1.out.bel hbq
              have y11 := k1.cell 1
              have y13 := k1.cell 3
              have l1 := k1.lt
              simp only [List.getElem?_toArray, List.getElem?_cons_zero, List.getElem?_cons_succ] at y11 y13
              obtain ⟨xop, xat, xs, xn, xks⟩ := x
              obtain ⟨b1, o1, K1, d1, rfl, z1, x10, x11, x12, x13, x14, -⟩ := (HX1.out.belw hbq).nth HXX.out
              have hka := HKA.out
              simp only at hka
              clear k1 x10 x12 x13 x14
              have HBQ := Lib.hid hbq
              by_cases hc : k < i ∧ k < ua
              · obtain ⟨hc1, hc2⟩ := hc
                obtain ⟨tt, htt⟩ : ∃ tt, W[k]? = some tt := ⟨_, List.getElem?_eq_getElem (by have := HWm.out; omega)⟩
                obtain ⟨b6, o6, rfl, z6, -, q1, -, -⟩ := (HWR.out.bel hbq).tok htt (by omega)
                have hd1 : decide ((k : Int) < (ua : Int)) = true := decide_eq_true (by omega)
                have hki : k + 1 ≤ 40 := by omega
                have HTk := Lib.hid htt
                clear htt
                cases t with
                | true =>
                  go_wp2_with fail
                  go_quiet (fail)
                  have hd : Below wr.heap.size wr (wr.drewN nq) := (by repeat (first | exact Below.refl _ _ | assumption | refine Below.setCell ?_ (by first | (simp; done) | (simp; omega) | omega) _ | refine below_drewN ?_ _ | refine Below.drew ?_ | refine Below.alloc ?_ (by first | (simp; done) | (simp; omega) | omega) _))
                  have HQ2 := Lib.hid (HQ.out.trans (below_low hd HQ.out.size))
                  clear hd
                  generalize wr.drewN nq = wz at HQ2 ⊢
                  go_wp2_with fail
                  go_round
                  case rel => exact ⟨k + 1, true, hki, by go_num, rfl, .inl rfl, HQ2⟩
                  case measure => simp [intOf]; omega
                | false =>
                  by_cases heq : tt.at_ = xat
                  · have he1 : (tt.at_ == xat) = true := by simp [heq]
                    go_wp2_with fail
                    go_quiet (fail)
                    have hd : Below wr.heap.size wr (wr.drewN nq) := (by repeat (first | exact Below.refl _ _ | assumption | refine Below.setCell ?_ (by first | (simp; done) | (simp; omega) | omega) _ | refine below_drewN ?_ _ | refine Below.drew ?_ | refine Below.alloc ?_ (by first | (simp; done) | (simp; omega) | omega) _))
                    have HQ2 := Lib.hid (HQ.out.trans (below_low hd HQ.out.size))
                    clear hd
                    generalize wr.drewN nq = wz at HQ2 ⊢
                    go_wp2_with fail
                    go_round
                    case rel => exact ⟨k + 1, true, hki, by go_num, rfl, .inl rfl, HQ2⟩
                    case measure => simp [intOf]; omega
                  · have he1 : (tt.at_ == xat) = false := by simp [heq]
                    have hk1 : k + 1 ≤ k0 := by
                      rcases hkt with h | h
                      · cases h
                      · refine Nat.lt_of_le_of_ne h fun e => heq ?_
                        have h1 := HTk.out
                        rw [e, HKW.out] at h1
                        rw [← Option.some.inj h1]
                        exact hka
                    go_wp2_with fail
                    go_quiet (fail)
                    have hd : Below wr.heap.size wr (wr.drewN nq) := (by repeat (first | exact Below.refl _ _ | assumption | refine Below.setCell ?_ (by first | (simp; done) | (simp; omega) | omega) _ | refine below_drewN ?_ _ | refine Below.drew ?_ | refine Below.alloc ?_ (by first | (simp; done) | (simp; omega) | omega) _))
                    have HQ2 := Lib.hid (HQ.out.trans (below_low hd HQ.out.size))
                    clear hd
                    generalize wr.drewN nq = wz at HQ2 ⊢
                    go_wp2_with fail
                    go_round
                    case rel => exact ⟨k + 1, false, hki, by go_num, rfl, .inr hk1, HQ2⟩
                    case measure => simp [intOf]; omega
              · obtain rfl : t = true := hkt.resolve_right (fun h => hc ⟨by omega, by omega⟩)
                have HO2 : Hid (OwnZ wr (.slice (some ⟨b, 0, none⟩) t2 c11) (Y.set j (setZ (wrap64 (z.x.at_ - by_)) z))) := Lib.hid (Own.new HS.out HQ.out)
                have hyn : Y.set j (setZ (wrap64 (z.x.at_ - by_)) z) = (Z.take (j + 1)).map (fun z => setZ (wrap64 (z.x.at_ - by_)) z) ++ Z.drop (j + 1) := by rw [HY.out]; exact mov_next (fun z => setZ (wrap64 (z.x.at_ - by_)) z) HZz.out
                have HYN := Lib.hid hyn
                clear hyn x11 hka
                by_cases h1 : k < i
                · have hd1 : decide ((k : Int) < (ua : Int)) = false := decide_eq_false (by omega)
                  go_wp2_with fail
                  go_round
                  case rel => exact ⟨j + 1, _, by omega, by go_num, HYN, Lib.hid (by rw [List.length_set]; exact HYl.out), HO2, HBQ⟩
                  case measure => simp [intOf]; omega
                · go_wp2_with fail
                  go_round
                  case rel => exact ⟨j + 1, _, by omega, by go_num, HYN, Lib.hid (by rw [List.length_set]; exact HYl.out), HO2, HBQ⟩
                  case measure => simp [intOf]; omega
          · obtain rfl : j = t2 := by omega
            have hYY : Y = Z.map (fun z => setZ (wrap64 (z.x.at_ - by_)) z) := by
              have := HZL.out
              rw [HY.out, List.take_of_length_le (by omega), List.drop_of_length_le (by omega), List.append_nil]
            have HE1 := Lib.hid (HX1.out.belw HBW.out)
            have HE2 : Hid (RdT wr A11 j c11 T1) := Lib.hid (by
              have h := OwnZ.back (by rw [← hYY]; exact HO.out) (by rw [← hYY]; exact HYl.out) HZK.out HBW.out
              rw [back_same by_ HZ.out HTA.out] at h
              exact h)
            clear hYY
            go_wp2_with (go_at_call 17; go_must (refine (equal_same HE1.out.rdm HE2.out (fun i x hx => HE1.out.kl i x hx)).mono ?_); rintro e w20 ⟨rfl, hb⟩; have HBF := Lib.hid (HB.out.trans (below_low (HBW.out.trans (below_low hb HBW.out.size)) HB.out.size)); clear hb)
            go_ret
            exact ⟨rfl, HBF.out⟩
      · have hE : (E != 0) = true := by simp [he]
        have hE2 : (E == 0) = false := by simp [he]
        go_wp2_with fail
        go_ret
        exact ⟨rfl, HB.out⟩
end Go.Proofs.YtjdcicopjipmnaaDoor
