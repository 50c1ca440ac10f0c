/- The reference's All: the walk. -/
import Derived.Test.YtbfjkjkanckcjaaSml
namespace Go.Proofs.Ytbfjkjkanckcjaa
open Go.RowKit Go.Shelf

theorem NewR.base {t : TypeId} {w w' wr : World} {v : Value} {rs : List SlI} (h : NewR t w' wr v rs) (hb : Below w.heap.size w w') : NewR t w wr v rs := ⟨h.own, fun b e => Nat.le_trans hb.size (h.new b e), hb.trans (h.bel.mono hb.size)⟩
/-- the state of the reference's All between two classes -/
structure RAs (w W : World) (v4 : Value) (o4 : List SlI) (done : List (List Int)) : Prop where
  r4 : NewR 25 w W v4 o4
  i4 : RowsI 2 W o4
  n4 : nums o4 = done
theorem RAs.below {w W W' : World} {v4 : Value} {o4 : List SlI} {done : List (List Int)} (h : RAs w W v4 o4 done) (hb : Below W.heap.size W W') : RAs w W' v4 o4 done := ⟨h.r4.below hb, h.i4.below hb, h.n4⟩
theorem RAs.push {w W W' : World} {v4 v' : Value} {o4 : List SlI} {done : List (List Int)} (h : RAs w W v4 o4 done) {s : SlI} (hs : OwnI 2 W s.v s.xs) (ho : OwnR 25 W' v' (o4 ++ [s])) (hg : W.grownBy W' v4.ownBlock) (ha : v'.ownBlock = v4.ownBlock ∨ v'.ownBlock = some W.heap.size) :
    RAs w W' v' (o4 ++ [s]) (done ++ [s.xs]) := by
  have h1 : RowsI 2 W (o4 ++ [s]) := fun x hx => by
    rcases List.mem_append.1 hx with hx | hx
    · exact h.i4 x hx
    · rw [List.mem_singleton] at hx
      subst hx
      exact hs
  exact ⟨h.r4.app ho hg ha, h1.grown h.r4.own (by decide) hg, nums_snoc h.n4 s rfl⟩
def RAllEnd (w : World) (r : Option (List (List Int))) (e : Ending) (w' : World) : Prop :=
  ∃ v os, e = .returned (.tuple #[v, .bool r.isSome]) ∧ nums os = r.getD [] ∧ NewR 25 w w' v os ∧ RowsI 2 w' os
theorem RAllEnd.none_ {w w' : World} {r : Option (List (List Int))} (h : r = none) (hb : Below w.heap.size w w') : RAllEnd w r (.returned (.tuple #[.slice none 0 0, .bool false])) w' := by
  subst h
  exact ⟨_, [], rfl, rfl, ⟨Own.nil_ _ _ _, fun b e => (by cases e), hb⟩, RowsI.nil _ _⟩
theorem RAllEnd.some_ {w w' : World} {r : Option (List (List Int))} {v : Value} {os : List SlI} {done : List (List Int)} (h : r = some done) (hn : nums os = done) (hr : NewR 25 w w' v os) (hi : RowsI 2 w' os) : RAllEnd w r (.returned (.tuple #[v, .bool true])) w' := by
  subst h
  exact ⟨_, os, rfl, hn, hr, hi⟩

set_option maxRecDepth 100000 in
set_option maxHeartbeats 4000000 in
theorem rall_any (A : Option Addr) (n c : Nat) (bs : List SlI) (w : World) (hR : RdR w A n c bs) (hok : AllOk w bs) (hn : n ≤ 100) (hbs : ∀ s ∈ bs, s.n ≤ 100) :
    Calls Try.prog 23 #[.slice A n c] w (RAllEnd w (Lin.all (nums bs))) := by
  have hlb := hR.1
  have HR := Lib.hid hR
  have HOK := Lib.hid hok
  have HBS := Lib.hid hbs
  clear hR hok hbs
  have H0 := Lib.hid (show RAs w (w.alloc (.cells #[] 25)) (.slice (some ⟨w.heap.size, 0, none⟩) 0 0) [] [] from ⟨NewR.empty 25 w, RowsI.nil _ _, rfl⟩)
  go_enter Try.func23, Try.ntmps23
  go_wp2_with fail
  go_loopw [4, 5] (fun v4 i wr => ∃ (j : Nat) (o4 : List SlI) (done : List (List Int)), j ≤ n ∧ i = .int .i64 j ∧ RAs w wr v4 o4 done ∧ Hid (done.length = j) ∧ Hid (Neat done) ∧ Hid (Lin.all (nums bs) = Lin.allGo done (nums (bs.drop j)))) (fun _ i _ => n - (intOf i).toNat)
  case atStart => exact ⟨0, [], [], Nat.zero_le _, rfl, H0.out, rfl, Neat.nil, rfl⟩
  case round =>
    obtain ⟨j, o4, done, hj, rfl, hst, hdl, hneat, hall⟩ := hrel
    obtain ⟨W, rfl⟩ : ∃ W : World, W = wr := ⟨_, rfl⟩
    by_cases hlt : j < n
    · have hkr : j < bs.length := by omega
      obtain ⟨b, o, rfl, hb, h0⟩ := (HR.out.new hst.r4.bel).at_ hlt
      have hrow := HOK.out bs[j] (List.getElem_mem hkr)
      have hbn := HBS.out bs[j] (List.getElem_mem hkr)
      have hdr : bs.drop j = bs[j] :: bs.drop (j + 1) := List.drop_eq_getElem_cons hkr
      generalize bs[j] = r at *
      obtain ⟨Ar, nr, cr, xr⟩ := r
      have hrow : RdI w Ar nr cr xr := hrow
      have h0 : W.cell? ⟨b, o + j, none⟩ = some (.slice Ar nr cr) := h0
      have hbn : nr ≤ 100 := hbn
      have hlr := hrow.1
      have hall' : Lin.all (nums bs) = Lin.allGo done (xr :: nums (bs.drop (j + 1))) := by rw [hall.out, hdr]; rfl
      have HALL := Lib.hid hall'
      have hl4 : o4.length = j := by rw [← nums_length, hst.n4, hdl.out]
      have HL4 : o4.length ≤ 100 := by omega
      have HE4 := Lib.hid hl4
      obtain ⟨A4, c4, rfl, hr4, _⟩ := OwnR.rdL hst.r4.own
      have HR4 := Lib.hid hr4
      have HRW := Lib.hid (hrow.new hst.r4.bel)
      have HWB := Lib.hid hst.r4.bel
      have HST := Lib.hid hst
      clear hall' hall hdr hl4 hr4 hst hrow
      have hba : Below W.heap.size W (W.alloc (.cells #[] 2)) := (by repeat (first | exact Below.refl _ _ | assumption | refine Below.setCell ?_ (by first | (simp; done) | (simp; omega) | omega) _ | refine below_drewN ?_ _ | refine Below.drew ?_ | refine Below.alloc ?_ (by first | (simp; done) | (simp; omega) | omega) _))
      have hbb : Below (W.alloc (.cells #[] 2)).heap.size (W.alloc (.cells #[] 2)) ((W.alloc (.cells #[] 2)).alloc (.cells #[] 25)) := (by repeat (first | exact Below.refl _ _ | assumption | refine Below.setCell ?_ (by first | (simp; done) | (simp; omega) | omega) _ | refine below_drewN ?_ _ | refine Below.drew ?_ | refine Below.alloc ?_ (by first | (simp; done) | (simp; omega) | omega) _))
      have i8 := (NewI.empty 2 W).below hbb
      have i9 := (NewR.empty 25 (W.alloc (.cells #[] 2))).base hba
      simp only [World.size_alloc] at i9
      have I8 := Lib.hid i8
      have I9 := Lib.hid i9
      clear hba hbb i8 i9
      go_wp2_with fail
      go_loopw [6, 7, 8] (fun v8 v9 i wr => ∃ (k : Nat) (ts : List SlI), k ≤ nr ∧ i = .int .i64 k ∧ NewI 2 W wr v8 (xr.take k) ∧ NewR 25 W wr v9 ts ∧ Hid (ts = (xr.take k).map fun x => o4.getD x.toNat .none_) ∧ Hid ((xr.take k).all (fun x => decide (0 ≤ x) && decide (x < done.length)) = true)) (fun _ _ i _ => nr - (intOf i).toNat)
      case atStart => exact ⟨0, [], Nat.zero_le _, rfl, I8.out, I9.out, rfl, rfl⟩
      case round =>
        obtain ⟨k, ts, hk, rfl, h8, h9, hts, hal⟩ := hrel
        have hbel : Below w.heap.size w wr := HWB.out.trans (h8.bel.mono HWB.out.size)
        have h0r : wr.cell? ⟨b, o + j, none⟩ = some (.slice Ar nr cr) := (h8.bel.cell (p := ⟨b, o + j, none⟩) hb).trans h0
        have HBEL := Lib.hid hbel
        clear hbel
        by_cases hlk : k < nr
        · have hx : k < xr.length := by omega
          obtain ⟨b2, o2, rfl, hb2, hx0⟩ := (HRW.out.new h8.bel).at_ hlk
          have hnA := not_all (c := done.length) hx
          have hal2 := all_take (c := done.length) hx hal.out
          have htk := List.take_succ_eq_append_getElem hx
          rw [hdl.out] at hnA hal2
          have hxl : (xr.take k).length = k := by rw [List.length_take]; omega
          generalize xr[k] = x at *
          by_cases hneg : x < 0
          · have hno : Lin.all (nums bs) = none := by rw [HALL.out]; exact allGo_bad (by rw [hdl.out]; exact hnA (.inl hneg))
            have HNO := Lib.hid hno
            clear hno hnA hal2 htk hxl h8 h9
            go_wp2_with fail
            refine bodyPost_ret (results_tmp2 rfl _ _ _) rfl ?_
            exact RAllEnd.none_ HNO.out HBEL.out
          · obtain ⟨xn, rfl⟩ := Int.eq_ofNat_of_zero_le (by omega : 0 ≤ x)
            by_cases hbig : j ≤ xn
            · have hno : Lin.all (nums bs) = none := by rw [HALL.out]; exact allGo_bad (by rw [hdl.out]; exact hnA (.inr (by omega)))
              have HNO := Lib.hid hno
              clear hno hnA hal2 htk hxl h8 h9
              go_wp2_with fail
              refine bodyPost_ret (results_tmp2 rfl _ _ _) rfl ?_
              exact RAllEnd.none_ HNO.out HBEL.out
            · have hxo : xn < o4.length := by rw [HE4.out]; omega
              have HXL := Lib.hid hxl
              have HXK : (xr.take k).length ≤ 100 := by omega
              have HTK := Lib.hid htk
              have HAL := Lib.hid (hal2 (by omega) (by omega))
              have htl : ts.length = k := by rw [hts.out, List.length_map, hxl]
              have HTL : ts.length ≤ 100 := by omega
              have H8 := Lib.hid h8
              have H9 := Lib.hid h9
              have hg4 : o4.getD xn .none_ = o4[xn] := by rw [List.getD_eq_getElem?_getD, List.getElem?_eq_getElem hxo, Option.getD_some]
              have HG4 := Lib.hid hg4
              have hcell : ∀ w1, Below W.heap.size W w1 → ∃ b4 o4', A4 = some ⟨b4, o4', none⟩ ∧ w1.cell? ⟨b4, o4' + xn, none⟩ = some (.slice o4[xn].A o4[xn].n o4[xn].c) := fun w1 hb => by
                obtain ⟨b4, o4', e, _, h⟩ := (HR4.out.new hb).at_ hxo
                exact ⟨b4, o4', e, h⟩
              have HC4 := Lib.hid hcell
              have hb1 : Below wr.heap.size wr (wr.alloc (.cells #[.int .i64 (xn : Int)] 2)) := (by repeat (first | exact Below.refl _ _ | assumption | refine Below.setCell ?_ (by first | (simp; done) | (simp; omega) | omega) _ | refine below_drewN ?_ _ | refine Below.drew ?_ | refine Below.alloc ?_ (by first | (simp; done) | (simp; omega) | omega) _))
              have HO8 := Lib.hid (h8.below hb1)
              have HO9 := Lib.hid (h9.below hb1)
              have HB4 := Lib.hid (show ∃ b4 q4, A4 = some ⟨b4, q4, none⟩ from by obtain ⟨b4, q4, e, _⟩ := hcell W (Below.refl _ _); exact ⟨b4, q4, e⟩)
              clear hxl htk hal2 hnA htl h8 h9 hg4 hcell hb1
              generalize o4[xn] = s at *
              obtain ⟨As, ns, cs, xs⟩ := s
              obtain ⟨b4, q4, rfl⟩ := HB4.out
              clear HB4
              go_wp2_with (first | (at_builtin; refine wpList_appendI _ rfl (.tmp 44) (.tmp 46) rfl u6 (xr.take k) rfl HO8.out.own (some ⟨wr.heap.size, 0, none⟩) 1 1 [(xn : Int)] rfl (one_rdI wr 2 (xn : Int)) (by omega) ?_; intro v1 w1 hv1 hg1 ha1; have h18 := HO8.out.app hv1 hg1 ha1; have h19 := HO9.out.far HO8.out.own (by decide) hg1 HO8.out.new; have h1c := HC4.out w1 h18.bel; obtain ⟨b4', q4', e4, hc4⟩ := h1c; cases e4; have hc4 : w1.cell? ⟨b4, q4 + xn, none⟩ = some (.slice As ns cs) := hc4; have hb2' : Below w1.heap.size w1 (w1.alloc (.cells #[.slice As ns cs] 25)) := (by repeat (first | exact Below.refl _ _ | assumption | refine Below.setCell ?_ (by first | (simp; done) | (simp; omega) | omega) _ | refine below_drewN ?_ _ | refine Below.drew ?_ | refine Below.alloc ?_ (by first | (simp; done) | (simp; omega) | omega) _)); have HP8 := Lib.hid (h18.below hb2'); have HP9 := Lib.hid (h19.below hb2'); clear hv1 hg1 ha1 h18 h19 hb2') | (at_builtin; refine wpList_appendR _ rfl (.tmp 48) (.tmp 53) rfl u7 ts rfl HP9.out.own (some ⟨w1.heap.size, 0, none⟩) 1 1 [⟨As, ns, cs, xs⟩] rfl (one_rdR w1 25 ⟨As, ns, cs, xs⟩) (by omega) ?_; intro v2 w2 hv2 hg2 ha2; have h28 := HP8.out.far HP9.out.own (by decide) hg2 HP9.out.new; have h29 := HP9.out.app hv2 hg2 ha2; have H28 := Lib.hid h28; have H29 := Lib.hid h29; clear hv2 hg2 ha2 h28 h29))
              go_roundw
              case rel => exact ⟨k + 1, ts ++ [⟨As, ns, cs, xs⟩], by omega, by go_num, by rw [HTK.out]; exact H28.out, H29.out, by unfold Hid; rw [HTK.out, List.map_append, ← hts.out, List.map_cons, List.map_nil, Int.toNat_natCast, HG4.out], by unfold Hid; rw [hdl.out]; exact HAL.out⟩
              case measure => simp [intOf]; omega
        · obtain rfl : k = nr := by omega
          have hxt : xr.take k = xr := List.take_of_length_le (by omega)
          rw [hxt] at h8 hts hal
          obtain ⟨A8, n8, c8, rfl, hr8, _⟩ := OwnI.rd h8.own
          obtain ⟨A9, c9, e9, hA9⟩ := Own.shape h9.own
          subst e9
          have hr9 : RdR wr A9 ts.length c9 ts := by
            obtain ⟨_, _, e, h, _⟩ := OwnR.rdL h9.own
            cases e
            exact h
          have hi4 := HST.out.i4.ok
          have hok9 : AllOk wr ts := fun s hs => by
            rw [hts.out] at hs
            obtain ⟨x, hx, rfl⟩ := List.mem_map.1 hs
            by_cases hxo : x.toNat < o4.length
            · rw [List.getD_eq_getElem?_getD, List.getElem?_eq_getElem hxo, Option.getD_some]
              exact (hi4 _ (List.getElem_mem hxo)).new h9.bel
            · rw [List.getD_eq_getElem?_getD, List.getElem?_eq_none (by omega)]
              exact RdI.nil_ (c := 0) (by omega)
          have hnts : nums ts = xr.map fun x => done.getD x.toNat [] := by
            rw [hts.out]
            simp only [nums, List.map_map]
            refine List.map_congr_left fun x _ => ?_
            exact nums_getD HST.out.n4 x.toNat
          have htl : ts.length = k := by rw [hts.out, List.length_map, hlr]
          have hwt : Lin.weight (nums ts) + n8 ≤ 1000000 := by
            have h1 := hneat.out.weight xr
            rw [← hnts] at h1
            have h2 := hr8.1
            have h3 := Nat.mul_le_mul (show xr.length ≤ 100 by omega) (show done.length + 1 ≤ 101 by rw [hdl.out]; omega)
            omega
          have HORD := Lib.hid (rorder_any (j : Int) A8 n8 c8 xr A9 ts.length c9 ts wr hr8 hr9 hok9 (by omega) hwt)
          have HNTS := Lib.hid hnts
          have HB9 := Lib.hid h9.bel
          clear hxt h8 hts hr8 h9 hA9 hr9 hi4 hok9 hnts htl hwt
          go_wp2_with fail
          refine HORD.out.mono ?_
          rintro e w3 ⟨v3, rfl, hv3⟩
          have hb3 : Below W.heap.size W w3 := HB9.out.trans (hv3.bel.mono HB9.out.size)
          have hsel : Lin.order (j : Int) xr (nums ts) = Lin.order (done.length : Int) xr (xr.map fun x => done.getD x.toNat []) := by rw [HNTS.out, hdl.out]
          rw [hsel] at hv3 ⊢
          clear hsel HORD HNTS
          have hst3 := HST.out.below hb3
          have HST3 := Lib.hid hst3
          have hbel3 : Below w.heap.size w w3 := HWB.out.trans (hb3.mono HWB.out.size)
          have HBEL3 := Lib.hid hbel3
          clear hst3 hbel3 hb3 HR4
          cases ho : Lin.order (done.length : Int) xr (xr.map fun x => done.getD x.toNat []) with
          | none =>
            have hno : Lin.all (nums bs) = none := by rw [HALL.out]; exact allGo_none hal.out ho
            have HNO := Lib.hid hno
            clear hno ho hv3
            simp only [Option.isSome_none]
            go_wp2_with fail
            refine bodyPost_ret (results_tmp2 rfl _ _ _) rfl ?_
            exact RAllEnd.none_ HNO.out HBEL3.out
          | some od =>
            have hno : Lin.all (nums bs) = Lin.allGo (done ++ [od]) (nums (bs.drop (j + 1))) := by rw [HALL.out]; exact allGo_some hal.out ho
            have HNO := Lib.hid hno
            have hneat2 := hneat.out.snoc hal.out ho
            have hod : od.length ≤ 101 := by
              have := hneat2.length done.length (by simp)
              have e : (done ++ [od])[done.length]'(by simp) = od := by simp
              rw [e, hdl.out] at this
              omega
            have HNEAT2 := Lib.hid hneat2
            rw [ho] at hv3
            have hv3 : NewI 2 wr w3 v3 od := hv3
            simp only [Option.isSome_some]
            obtain ⟨A3, c3, rfl, hr3, _⟩ := OwnI.rdL hv3.own
            have hb4 : Below w3.heap.size w3 (w3.alloc (.cells #[.slice A3 od.length c3] 25)) := (by repeat (first | exact Below.refl _ _ | assumption | refine Below.setCell ?_ (by first | (simp; done) | (simp; omega) | omega) _ | refine below_drewN ?_ _ | refine Below.drew ?_ | refine Below.alloc ?_ (by first | (simp; done) | (simp; omega) | omega) _))
            have HST4 := Lib.hid (HST3.out.below hb4)
            have HO3 := Lib.hid ((hv3.below hb4).own.sl)
            have HR3 := Lib.hid (hr3.new hb4)
            clear hno ho hneat2 hv3 hr3 hb4
            go_wp2_with (at_builtin; refine wpList_appendR _ rfl (.tmp 64) (.tmp 66) rfl (.slice A4 o4.length c4) o4 rfl HST4.out.r4.own (some ⟨w3.heap.size, 0, none⟩) 1 1 [⟨A3, od.length, c3, od⟩] rfl (one_rdR w3 25 ⟨A3, od.length, c3, od⟩) (by omega) ?_; intro v5' w5 hv5 hg5 ha5; have hp := HST4.out.push (s := ⟨A3, od.length, c3, od⟩) HO3.out hv5 hg5 ha5; have HA := Lib.hid hp; clear hv5 hg5 ha5 hp)
            go_roundw
            case rel => exact ⟨j + 1, o4 ++ [⟨A3, od.length, c3, od⟩], done ++ [od], by omega, by go_num, HA.out, by unfold Hid; rw [List.length_append, hdl.out]; rfl, HNEAT2.out, HNO.out⟩
            case measure => simp [intOf]; omega
    · obtain rfl : j = n := by omega
      have hno : Lin.all (nums bs) = some done := by
        rw [hall.out, List.drop_of_length_le (by omega)]
        rfl
      have HNO := Lib.hid hno
      have HST := Lib.hid hst
      clear hno hst
      go_wp2_with fail
      refine bodyPost_ret (results_tmp2 rfl _ _ _) rfl ?_
      exact RAllEnd.some_ HNO.out HST.out.n4 HST.out.r4 HST.out.i4
end Go.Proofs.Ytbfjkjkanckcjaa
