/- DictApart: the walk. -/
import Derived.Test.YtfdihmbmlhlkgaaLKey
import Derived.Test.YtfdihmbmlhlkgaaPla
namespace Go.Proofs.Ytfdihmbmlhlkgaa
open Go.RowKit
attribute [local go_sem high] guardV eqV neqV guardP neqP
attribute [local go_sem] V.v

theorem info_C : (Try.prog.info? 48).map (fun i => (i.zero, i.size, i.bytes)) = some (some (.agg #[.int .i64 0, .int .i64 0, .int .i64 0, .string ⟨#[]⟩, .int .i64 0, .int .i64 0, .string ⟨#[]⟩, .bool false]), 8, 80) := by kernel_rfl
theorem one_C (w : World) (c : CallD) : Rd (w.alloc (.cells c.cs.toArray 48)) (some ⟨w.heap.size, 0, none⟩) 1 1 8 (ccs [c]) :=
  ⟨Nat.le_refl _, by omega, by rw [ccs_length]; rfl, fun _ => ⟨_, 0, rfl, by simp, fun j u hu => by
    rw [(Blk.new w 48 c.cs.toArray).cell, Nat.zero_add]
    simpa [ccs] using hu⟩⟩

set_option maxRecDepth 100000 in
set_option maxHeartbeats 4000000 in
theorem apart_walk (A : Option Addr) (n c : Nat) (l : List CallD) (v : V) (w : World) (hA : RdC w A n c l) (hv : v.Ok) :
    Calls Try.prog 10 #[.slice A n c, .agg #[.int .i64 v.k, .int .i64 v.n, .string v.s]] w fun e w' => e = .returned (.bool true) ∧ Below w.heap.size w w' := by
  obtain ⟨v1, v2, v3⟩ := v
  have hn := hA.le
  have hln := hA.1
  have HA := Lib.hid hA
  have HAK := Lib.hid (fitV_ok hv)
  clear hA hv
  have hmk : ∀ W : World, (Instr.buildSlice 22 0 #[]).run Try.prog W = .ok (.slice (some ⟨W.heap.size, 0, none⟩) 0 0) (W.alloc (.cells #[] 48)) := fun W => by kernel_rfl
  go_enter Try.func10, Try.ntmps10
  go_wp2_with fail
  have h00 : Below w.heap.size w (w.alloc (.cells #[.int .i64 v1, .int .i64 v2, .string v3] 24)) := (by repeat (first | exact Below.refl _ _ | assumption | refine Below.setCell ?_ (by first | (simp; done) | (simp; omega) | omega) _ | refine below_drewN ?_ _ | refine Below.drew ?_ | refine Below.alloc ?_ (by first | (simp; done) | (simp; omega) | omega) _))
  refine (shown_any _).mono ?_
  rintro e w0 ⟨rfl, hb0⟩
  have hbw := h00.trans (hb0.mono h00.size)
  have p3 := (Blk.new w 24 #[.int .i64 v1, .int .i64 v2, .string v3]).new' hb0
  clear h00 hb0
  go_wp2_with fail
  refine (made_any A n c l w0 (HA.out.new hbw)).mono ?_
  rintro e W1 ⟨g, y, S, rfl, hB1⟩
  have hD1 := hB1.dict
  have p3 := p3.new' hD1.z.bel
  have c0 := p3.cell 0
  have c1 := p3.cell 1
  have c2 := p3.cell 2
  simp only [List.getElem?_toArray, List.getElem?_cons_zero, List.getElem?_cons_succ] at c0 c1 c2
  have hl3 := p3.lt
  have HBW := Lib.hid hbw
  have HD1 := Lib.hid hD1
  clear hB1 hbw hD1
  go_wp2_with fail
  refine (fit_any v1 v2 v3 _).mono ?_
  rintro e w2 ⟨rfl, hb⟩
  have HD2 := Lib.hid (HD1.out.new hb)
  clear c0 c1 c2 hl3 hb HD1 p3
  have HAP := Lib.hid (apart_all (fitV ⟨v1, v2, v3⟩) (l.take 40) (by rw [List.length_take]; omega))
  generalize hz : fitV ⟨v1, v2, v3⟩ = a at HAK HAP
  obtain ⟨a1, a2, a3⟩ := a
  clear hz
  dsimp only [V.v]
  have hb3 : Below w2.heap.size w2 (w2.alloc (.cells #[.int .i64 a1, .int .i64 a2, .string a3] 24)) := (by repeat (first | exact Below.refl _ _ | assumption | refine Below.setCell ?_ (by first | (simp; done) | (simp; omega) | omega) _ | refine below_drewN ?_ _ | refine Below.drew ?_ | refine Below.alloc ?_ (by first | (simp; done) | (simp; omega) | omega) _))
  have HD3 := Lib.hid (HD2.out.new hb3)
  have HBA := Lib.hid (Blk.new w2 24 #[.int .i64 a1, .int .i64 a2, .string a3])
  have HM0 := Lib.hid (NewO.empty 48 8 (w2.alloc (.cells #[.int .i64 a1, .int .i64 a2, .string a3] 24)))
  clear HD2 hb3
  go_wp2_with fail
  have hz3 : (w2.alloc (.cells #[.int .i64 a1, .int .i64 a2, .string a3] 24)).heap.size = w2.heap.size + 1 := by simp
  generalize hW3 : w2.alloc (.cells #[.int .i64 a1, .int .i64 a2, .string a3] 24) = W3 at *
  generalize w2.heap.size = ba at *
  clear hW3 hmk
  have HM1 := HM0.out
  rw [hz3] at HM1
  have HM2 := Lib.hid HM1
  have HZ3 := Lib.hid hz3
  clear HM0 HM1 hz3
  go_loopw [9, 10] (fun v i wr => ∃ k : Nat, k ≤ n ∧ k ≤ 40 ∧ i = .int .i64 k ∧ NewO 48 8 W3 wr v (mineOf ⟨a1, a2, a3⟩ (l.take k)).length (ccs (mineOf ⟨a1, a2, a3⟩ (l.take k)))) (fun _ i _ => 40 - (intOf i).toNat)
  case atStart => exact ⟨0, Nat.zero_le _, Nat.zero_le _, rfl, HM2.out⟩
  case round =>
    obtain ⟨k, hk, hk40, rfl, hN⟩ := hrel
    have HN := Lib.hid hN
    have HBR := Lib.hid (HBW.out.trans ((HD3.out.z.bel.trans (hN.bel.mono HD3.out.z.bel.size)).mono HBW.out.size))
    obtain ⟨Am, cm, rfl, -, -⟩ := Own.rd hN.own
    clear hN HM2
    by_cases hgo : k < n ∧ k < 40
    · obtain ⟨hlt, h40⟩ := hgo
      obtain ⟨b, o, x, rfl, hb, hx, hok, hc⟩ := (HA.out.new HBR.out).at_ hlt
      obtain ⟨d, ⟨k1, n1, s1⟩, ⟨k2, n2, s2⟩, raw⟩ := x
      have z0 := hc 0 (.int .i64 d) rfl
      have z1 := hc 1 (.int .i64 k1) rfl
      have z2 := hc 2 (.int .i64 n1) rfl
      have z3 := hc 3 (.string s1) rfl
      have z4 := hc 4 (.int .i64 k2) rfl
      have z5 := hc 5 (.int .i64 n2) rfl
      have z6 := hc 6 (.string s2) rfl
      have z7 := hc 7 (.bool raw) rfl
      simp only [Nat.add_zero] at z0
      have HOK := Lib.hid hok
      have HMS : Hid (mineOf ⟨a1, a2, a3⟩ (l.take (k + 1)) = if (CallD.fit ⟨d, ⟨k1, n1, s1⟩, ⟨k2, n2, s2⟩, raw⟩).k = ⟨a1, a2, a3⟩ then mineOf ⟨a1, a2, a3⟩ (l.take k) ++ [(CallD.fit ⟨d, ⟨k1, n1, s1⟩, ⟨k2, n2, s2⟩, raw⟩).asRaw] else mineOf ⟨a1, a2, a3⟩ (l.take k)) := Lib.hid (by
        obtain ⟨hl1, hl2⟩ := List.getElem?_eq_some_iff.1 hx
        rw [List.take_succ_eq_append_getElem hl1, hl2, mineOf_snoc])
      have HLM := Lib.hid (mineOf_length ⟨a1, a2, a3⟩ (l.take k))
      clear hc hok hx
      go_wp2_with fail
      refine (fitc_any ⟨d, ⟨k1, n1, s1⟩, ⟨k2, n2, s2⟩, raw⟩ HOK.out.2.2 _).mono ?_
      rintro e w4 ⟨rfl, hb4⟩
      generalize CallD.fit ⟨d, ⟨k1, n1, s1⟩, ⟨k2, n2, s2⟩, raw⟩ = f at HMS
      obtain ⟨fd, ⟨fk, fn, fs⟩, ⟨fk', fn', fs'⟩, fr⟩ := f
      dsimp only [CallD.cs]
      have hb5 : Below w4.heap.size w4 (w4.alloc (.cells #[.int .i64 fd, .int .i64 fk, .int .i64 fn, .string fs, .int .i64 fk', .int .i64 fn', .string fs', .bool fr] 48)) := (by repeat (first | exact Below.refl _ _ | assumption | refine Below.setCell ?_ (by first | (simp; done) | (simp; omega) | omega) _ | refine below_drewN ?_ _ | refine Below.drew ?_ | refine Below.alloc ?_ (by first | (simp; done) | (simp; omega) | omega) _))
      have hN5 := (HN.out.below hb4).below hb5
      have q := HBA.out.new' hN5.bel
      have c0 := q.cell 0
      have c1 := q.cell 1
      have c2 := q.cell 2
      simp only [List.getElem?_toArray, List.getElem?_cons_zero, List.getElem?_cons_succ] at c0 c1 c2
      have hlq := q.lt
      have HN5 := Lib.hid hN5
      have HN4 := Lib.hid (HN.out.below hb4)
      clear hb4 hb5 q z0 z1 z2 z3 z4 z5 z6 z7 hb HN hN5
      by_cases hs : V.mk fk fn fs = V.mk a1 a2 a3
      · have hsm : V.same ⟨fk, fn, fs⟩ ⟨a1, a2, a3⟩ = true := V.same_iff.2 hs
        have HS : Hid (mineOf ⟨a1, a2, a3⟩ (l.take (k + 1)) = mineOf ⟨a1, a2, a3⟩ (l.take k) ++ [⟨fd, ⟨fk, fn, fs⟩, ⟨fk', fn', fs'⟩, true⟩]) := Lib.hid (by
          have := HMS.out
          rw [if_pos hs] at this
          exact this)
        clear hs HMS
        have hlm : (mineOf ⟨a1, a2, a3⟩ (l.take k)).length ≤ 40 := by have := HLM.out; rw [List.length_take] at this; omega
        obtain ⟨i0, hi, hy0, hy1, hy2⟩ := info_parts info_C
        have HI := Lib.hid (And.intro hi (And.intro hy0 (And.intro hy1 hy2)))
        clear hi hy0 hy1 hy2
        have hb6 : Below w4.heap.size w4 ((w4.alloc (.cells #[.int .i64 fd, .int .i64 fk, .int .i64 fn, .string fs, .int .i64 fk', .int .i64 fn', .string fs', .bool true] 48)).alloc (.cells #[.int .i64 fd, .int .i64 fk, .int .i64 fn, .string fs, .int .i64 fk', .int .i64 fn', .string fs', .bool true] 48)) := (by repeat (first | exact Below.refl _ _ | assumption | refine Below.setCell ?_ (by first | (simp; done) | (simp; omega) | omega) _ | refine below_drewN ?_ _ | refine Below.drew ?_ | refine Below.alloc ?_ (by first | (simp; done) | (simp; omega) | omega) _))
        have HN6 := Lib.hid (HN4.out.below hb6)
        have hR6 := one_C (w4.alloc (.cells #[.int .i64 fd, .int .i64 fk, .int .i64 fn, .string fs, .int .i64 fk', .int .i64 fn', .string fs', .bool true] 48)) ⟨fd, ⟨fk, fn, fs⟩, ⟨fk', fn', fs'⟩, true⟩
        rw [World.size_alloc] at hR6
        have HR6 := Lib.hid hR6
        clear hb6 hR6
        go_wp2_with (at_builtin; refine wpList_append_Own _ rfl (.tmp 47) (.tmp 49) 22 rfl 48 i0 _ 8 80 Try.underlying22 HI.out.1 HI.out.2.1 HI.out.2.2.1 HI.out.2.2.2 rfl (.slice Am (mineOf ⟨a1, a2, a3⟩ (l.take k)).length cm) (mineOf ⟨a1, a2, a3⟩ (l.take k)).length (ccs (mineOf ⟨a1, a2, a3⟩ (l.take k))) rfl HN6.out.own (some ⟨w4.heap.size + 1, 0, none⟩) 1 1 (ccs [⟨fd, ⟨fk, fn, fs⟩, ⟨fk', fn', fs'⟩, true⟩]) rfl HR6.out (ccs_oneCell _) (by omega) (by omega) ?_; intro v7 w7 ho7 hg7 ha7; obtain ⟨A7, c7, rfl, -, -⟩ := Own.rd ho7; have HN7 := Lib.hid (HN6.out.app ho7 hg7 ha7); clear ho7 hg7 ha7)
        go_roundw
        case rel =>
          refine ⟨k + 1, by omega, by omega, by go_num, ?_⟩
          rw [HS.out, List.length_append, ccs_append]
          exact HN7.out
        case measure => simp [intOf]; omega
      · have hsm : V.same ⟨fk, fn, fs⟩ ⟨a1, a2, a3⟩ = false := V.same_not.2 hs
        have HS : Hid (mineOf ⟨a1, a2, a3⟩ (l.take (k + 1)) = mineOf ⟨a1, a2, a3⟩ (l.take k)) := Lib.hid (HMS.out.trans (if_neg hs))
        clear hs HMS
        go_wp2_with fail
        go_roundw
        case rel =>
          refine ⟨k + 1, by omega, by omega, by go_num, ?_⟩
          rw [HS.out]
          exact HN5.out
        case measure => simp [intOf]; omega
    · have hex : ¬ (k < n ∧ k < 40) := hgo
      have e : l.take k = l.take 40 := by
        by_cases h : k < n
        · obtain rfl : k = 40 := by omega
          rfl
        · rw [List.take_of_length_le (by omega), List.take_of_length_le (by omega)]
      rw [e] at HN ⊢
      generalize hm : (mineOf ⟨a1, a2, a3⟩ (l.take 40)).length = m at *
      have HM := Lib.hid hm
      have HKK : Hid ((k < n → ¬ k < 40)) := Lib.hid (fun h1 h2 => hgo ⟨h1, h2⟩)
      clear e hm hgo hex
      have HRC : Hid (RdC wr Am m cm (mineOf ⟨a1, a2, a3⟩ (l.take 40))) := by
        obtain ⟨A', c', e', hr', -⟩ := Own.rd HN.out.own
        simp only [Value.slice.injEq] at e'
        obtain ⟨rfl, _, rfl⟩ := e'
        exact ⟨HM.out, hr', fun x hx => by rw [mineOf_key hx]; exact HAK.out⟩
      by_cases hkn : k < n
      · have hk2 : ¬ k < 40 := HKK.out hkn
        go_wp2_with fail
        refine (made_any Am m cm _ wr HRC.out).mono ?_
        rintro e w5 ⟨g2, y2, T, rfl, hE⟩
        have hE2 := hE.dict
        have hek := hE.facts.1
        rw [List.take_of_length_le (by have h1 := HM.out; have h2 := mineOf_length ⟨a1, a2, a3⟩ (l.take 40); rw [List.length_take] at h2; omega)] at hE2 hek
        have HE := Lib.hid hE2
        have HL1 := Lib.hid (keyed_one hek HAP.out.2)
        have HD5 := Lib.hid ((HD3.out.new HN.out.bel).new hE.z.bel)
        have hq := (HBA.out.new' HN.out.bel).new' hE.z.bel
        have c0 := hq.cell 0
        have c1 := hq.cell 1
        have c2 := hq.cell 2
        simp only [List.getElem?_toArray, List.getElem?_cons_zero, List.getElem?_cons_succ] at c0 c1 c2
        have hlq := hq.lt
        have HQ := Lib.hid hq
        have HBE := Lib.hid (HBR.out.trans (hE.z.bel.mono HBR.out.size))
        clear hE hE2 hek hq HN HRC HBR
        go_wp2_with fail
        refine (HD5.out.get ⟨a1, a2, a3⟩ HAK.out).mono ?_
        rintro e w6 ⟨rfl, hb6⟩
        rw [HAP.out.1]
        generalize hz : (findL (madeAll (mineOf ⟨a1, a2, a3⟩ (l.take 40))) ⟨a1, a2, a3⟩).getD V.zero = z
        generalize hbb : (findL (madeAll (mineOf ⟨a1, a2, a3⟩ (l.take 40))) ⟨a1, a2, a3⟩).isSome = ib
        obtain ⟨z1, z2, z3⟩ := z
        have HZZ := Lib.hid (And.intro hz hbb)
        dsimp only [V.v]
        have hb7 : Below w5.heap.size w5 (w6.alloc (.cells #[.int .i64 z1, .int .i64 z2, .string z3] 24)) := Below.trans hb6 (Below.mono (by exact (by repeat (first | exact Below.refl _ _ | assumption | refine Below.setCell ?_ (by first | (simp; done) | (simp; omega) | omega) _ | refine below_drewN ?_ _ | refine Below.drew ?_ | refine Below.alloc ?_ (by first | (simp; done) | (simp; omega) | omega) _))) hb6.size)
        have HE7 := Lib.hid (HE.out.new hb7)
        have HBZ := Lib.hid (Blk.new w6 24 #[.int .i64 z1, .int .i64 z2, .string z3])
        have hq := HQ.out.new' hb7
        have HB7 := Lib.hid (HBE.out.trans (hb7.mono HBE.out.size))
        clear c0 c1 c2 hlq hz hbb hb6 hb7 HQ HE HD5 HBE
        have c0 := hq.cell 0
        have c1 := hq.cell 1
        have c2 := hq.cell 2
        simp only [List.getElem?_toArray, List.getElem?_cons_zero, List.getElem?_cons_succ] at c0 c1 c2
        have hlq := hq.lt
        clear hq
        go_wp2_with fail
        refine (HE7.out.get ⟨a1, a2, a3⟩ HAK.out).mono ?_
        rintro e w8 ⟨rfl, hb8⟩
        rw [HZZ.out.1, HZZ.out.2]
        dsimp only [V.v]
        have hb9 : Below (w6.alloc (.cells #[.int .i64 z1, .int .i64 z2, .string z3] 24)).heap.size (w6.alloc (.cells #[.int .i64 z1, .int .i64 z2, .string z3] 24)) (w8.alloc (.cells #[.int .i64 z1, .int .i64 z2, .string z3] 24)) := Below.trans hb8 (Below.mono (by exact (by repeat (first | exact Below.refl _ _ | assumption | refine Below.setCell ?_ (by first | (simp; done) | (simp; omega) | omega) _ | refine below_drewN ?_ _ | refine Below.drew ?_ | refine Below.alloc ?_ (by first | (simp; done) | (simp; omega) | omega) _))) hb8.size)
        have HE9 := Lib.hid (HE7.out.new hb9)
        have hq := HBZ.out.new' hb9
        have HB9 := Lib.hid (HB7.out.trans (hb9.mono HB7.out.size))
        clear c0 c1 c2 hlq hb8 hb9 HE7 HB7 HBZ
        have c0 := hq.cell 0
        have c1 := hq.cell 1
        have c2 := hq.cell 2
        simp only [List.getElem?_toArray, List.getElem?_cons_zero, List.getElem?_cons_succ] at c0 c1 c2
        have hlq := hq.lt
        have hzs : V.same ⟨z1, z2, z3⟩ ⟨z1, z2, z3⟩ = true := by simp [V.same]
        clear hq
        go_wp2_with fail
        refine (len_d HE9.out).mono ?_
        rintro e w10 ⟨rfl, rfl⟩
        have hl1 := HL1.out
        generalize (madeAll (mineOf ⟨a1, a2, a3⟩ (l.take 40))).length = ln at hl1 ⊢
        have hl2 : decide ((ln : Int) ≤ 1) = true := by simp; omega
        go_wp2_with fail
        go_ret
        exact ⟨rfl, HB9.out⟩
      · go_wp2_with fail
        refine (made_any Am m cm _ wr HRC.out).mono ?_
        rintro e w5 ⟨g2, y2, T, rfl, hE⟩
        have hE2 := hE.dict
        have hek := hE.facts.1
        rw [List.take_of_length_le (by have h1 := HM.out; have h2 := mineOf_length ⟨a1, a2, a3⟩ (l.take 40); rw [List.length_take] at h2; omega)] at hE2 hek
        have HE := Lib.hid hE2
        have HL1 := Lib.hid (keyed_one hek HAP.out.2)
        have HD5 := Lib.hid ((HD3.out.new HN.out.bel).new hE.z.bel)
        have hq := (HBA.out.new' HN.out.bel).new' hE.z.bel
        have c0 := hq.cell 0
        have c1 := hq.cell 1
        have c2 := hq.cell 2
        simp only [List.getElem?_toArray, List.getElem?_cons_zero, List.getElem?_cons_succ] at c0 c1 c2
        have hlq := hq.lt
        have HQ := Lib.hid hq
        have HBE := Lib.hid (HBR.out.trans (hE.z.bel.mono HBR.out.size))
        clear hE hE2 hek hq HN HRC HBR
        go_wp2_with fail
        refine (HD5.out.get ⟨a1, a2, a3⟩ HAK.out).mono ?_
        rintro e w6 ⟨rfl, hb6⟩
        rw [HAP.out.1]
        generalize hz : (findL (madeAll (mineOf ⟨a1, a2, a3⟩ (l.take 40))) ⟨a1, a2, a3⟩).getD V.zero = z
        generalize hbb : (findL (madeAll (mineOf ⟨a1, a2, a3⟩ (l.take 40))) ⟨a1, a2, a3⟩).isSome = ib
        obtain ⟨z1, z2, z3⟩ := z
        have HZZ := Lib.hid (And.intro hz hbb)
        dsimp only [V.v]
        have hb7 : Below w5.heap.size w5 (w6.alloc (.cells #[.int .i64 z1, .int .i64 z2, .string z3] 24)) := Below.trans hb6 (Below.mono (by exact (by repeat (first | exact Below.refl _ _ | assumption | refine Below.setCell ?_ (by first | (simp; done) | (simp; omega) | omega) _ | refine below_drewN ?_ _ | refine Below.drew ?_ | refine Below.alloc ?_ (by first | (simp; done) | (simp; omega) | omega) _))) hb6.size)
        have HE7 := Lib.hid (HE.out.new hb7)
        have HBZ := Lib.hid (Blk.new w6 24 #[.int .i64 z1, .int .i64 z2, .string z3])
        have hq := HQ.out.new' hb7
        have HB7 := Lib.hid (HBE.out.trans (hb7.mono HBE.out.size))
        clear c0 c1 c2 hlq hz hbb hb6 hb7 HQ HE HD5 HBE
        have c0 := hq.cell 0
        have c1 := hq.cell 1
        have c2 := hq.cell 2
        simp only [List.getElem?_toArray, List.getElem?_cons_zero, List.getElem?_cons_succ] at c0 c1 c2
        have hlq := hq.lt
        clear hq
        go_wp2_with fail
        refine (HE7.out.get ⟨a1, a2, a3⟩ HAK.out).mono ?_
        rintro e w8 ⟨rfl, hb8⟩
        rw [HZZ.out.1, HZZ.out.2]
        dsimp only [V.v]
        have hb9 : Below (w6.alloc (.cells #[.int .i64 z1, .int .i64 z2, .string z3] 24)).heap.size (w6.alloc (.cells #[.int .i64 z1, .int .i64 z2, .string z3] 24)) (w8.alloc (.cells #[.int .i64 z1, .int .i64 z2, .string z3] 24)) := Below.trans hb8 (Below.mono (by exact (by repeat (first | exact Below.refl _ _ | assumption | refine Below.setCell ?_ (by first | (simp; done) | (simp; omega) | omega) _ | refine below_drewN ?_ _ | refine Below.drew ?_ | refine Below.alloc ?_ (by first | (simp; done) | (simp; omega) | omega) _))) hb8.size)
        have HE9 := Lib.hid (HE7.out.new hb9)
        have hq := HBZ.out.new' hb9
        have HB9 := Lib.hid (HB7.out.trans (hb9.mono HB7.out.size))
        clear c0 c1 c2 hlq hb8 hb9 HE7 HB7 HBZ
        have c0 := hq.cell 0
        have c1 := hq.cell 1
        have c2 := hq.cell 2
        simp only [List.getElem?_toArray, List.getElem?_cons_zero, List.getElem?_cons_succ] at c0 c1 c2
        have hlq := hq.lt
        have hzs : V.same ⟨z1, z2, z3⟩ ⟨z1, z2, z3⟩ = true := by simp [V.same]
        clear hq
        go_wp2_with fail
        refine (len_d HE9.out).mono ?_
        rintro e w10 ⟨rfl, rfl⟩
        have hl1 := HL1.out
        generalize (madeAll (mineOf ⟨a1, a2, a3⟩ (l.take 40))).length = ln at hl1 ⊢
        have hl2 : decide ((ln : Int) ≤ 1) = true := by simp; omega
        go_wp2_with fail
        go_ret
        exact ⟨rfl, HB9.out⟩
end Go.Proofs.Ytfdihmbmlhlkgaa
