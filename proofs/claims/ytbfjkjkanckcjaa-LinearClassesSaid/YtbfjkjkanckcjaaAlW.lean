/- All: the walk. -/
import Derived.Test.YtbfjkjkanckcjaaAll
import Derived.Test.YtbfjkjkanckcjaaMak
namespace Go.Proofs.Ytbfjkjkanckcjaa
open Go.RowKit Go.Shelf

section
variable {t t' : TypeId} {w wr w' : World} {v v' : Value} {xs ys : List Int} {rs ss : List SlI}
theorem NewI.far (h : NewI t w wr v xs) (ho : OwnR t' wr v' rs) (hne : t ≠ t') (hg : wr.grownBy w' v'.ownBlock) (hn : ∀ b, v'.ownBlock = some b → w.heap.size ≤ b) : NewI t w w' v xs :=
  ⟨Own.keep h.own fun b e => hg.block b (Own.lt h.own e) fun e' => own_own_ne h.own ho hne e e'.symm, h.new, h.bel.grown hg h.bel.size hn⟩
theorem NewR.far (h : NewR t w wr v rs) (ho : OwnI t' wr v' xs) (hne : t ≠ t') (hg : wr.grownBy w' v'.ownBlock) (hn : ∀ b, v'.ownBlock = some b → w.heap.size ≤ b) : NewR t w w' v rs :=
  ⟨Own.keep h.own fun b e => hg.block b (Own.lt h.own e) fun e' => own_own_ne h.own ho hne e e'.symm, h.new, h.bel.grown hg h.bel.size hn⟩
theorem NewR.farR (h : NewR t w wr v rs) (ho : OwnR t' wr v' ss) (hne : t ≠ t') (hg : wr.grownBy w' v'.ownBlock) (hn : ∀ b, v'.ownBlock = some b → w.heap.size ≤ b) : NewR t w w' v rs :=
  ⟨Own.keep h.own fun b e => hg.block b (Own.lt h.own e) fun e' => own_own_ne h.own ho hne e e'.symm, h.new, h.bel.grown hg h.bel.size hn⟩
theorem Own.shape {sz n : Nat} {cs : List Value} (h : Own w t sz v n cs) : ∃ A c, v = .slice A n c ∧ (A = none ∨ ∃ b o, A = some ⟨b, o, none⟩) := by
  rcases h.2 with ⟨rfl, rfl⟩ | ⟨b, c, _, rfl, _⟩
  · exact ⟨_, _, rfl, .inl rfl⟩
  · exact ⟨_, _, rfl, .inr ⟨_, _, rfl⟩⟩
end
/-- each row owns its numbers -/
def RowsI (t : TypeId) (w : World) (rs : List SlI) : Prop := ∀ s ∈ rs, OwnI t w s.v s.xs
theorem RowsI.ok {t : TypeId} {w : World} {rs : List SlI} (h : RowsI t w rs) : AllOk w rs := fun s hs => by
  obtain ⟨A, n, c, e, hr, _⟩ := OwnI.rd (h s hs)
  unfold SlI.v at e
  injection e with e1 e2 e3
  unfold SlI.Ok
  rw [e1, e2, e3]
  exact hr
theorem RowsI.below {t : TypeId} {w w' : World} {rs : List SlI} (h : RowsI t w rs) (hb : Below w.heap.size w w') : RowsI t w' rs := fun s hs => Own.new (h s hs) hb
theorem RowsI.nil (t : TypeId) (w : World) : RowsI t w [] := fun s hs => by simp at hs
/-- the row of rows is appended to: it is of another type -/
theorem RowsI.grown {t t' : TypeId} {w w' : World} {rs os : List SlI} {v : Value} (h : RowsI t w rs) (ho : OwnR t' w v os) (hne : t ≠ t') (hg : w.grownBy w' v.ownBlock) : RowsI t w' rs := fun s hs =>
  Own.keep (h s hs) fun b e => hg.block b (Own.lt (h s hs) e) fun e' => own_own_ne (h s hs) ho hne e e'.symm
/-- the state of All between two classes -/
structure ASt (w W : World) (v4 v5 : Value) (o4 o5 : List SlI) (done : List (List Int)) : Prop where
  r4 : NewR 25 w W v4 o4
  r5 : NewR 40 w W v5 o5
  i4 : RowsI 2 W o4
  i5 : RowsI 3 W o5
  n4 : nums o4 = done
  n5 : nums o5 = done
theorem ASt.below {w W W' : World} {v4 v5 : Value} {o4 o5 : List SlI} {done : List (List Int)} (h : ASt w W v4 v5 o4 o5 done) (hb : Below W.heap.size W W') : ASt w W' v4 v5 o4 o5 done :=
  ⟨h.r4.below hb, h.r5.below hb, h.i4.below hb, h.i5.below hb, h.n4, h.n5⟩
theorem OwnI.sl {t : TypeId} {w : World} {A : Option Addr} {n c : Nat} {xs : List Int} (h : OwnI t w (.slice A n c) xs) : OwnI t w (SlI.v ⟨A, n, c, xs⟩) (SlI.xs ⟨A, n, c, xs⟩) := h
/-- a class's order is appended -/
theorem ASt.push4 {w W W' : World} {v4 v5 v' : Value} {o4 o5 : List SlI} {done : List (List Int)} (h : ASt w W v4 v5 o4 o5 done) {s : SlI} (hs : OwnI 2 W s.v s.xs) (ho : OwnR 25 W' v' (o4 ++ [s])) (hg : W.grownBy W' v4.ownBlock) (ha : v'.ownBlock = v4.ownBlock ∨ v'.ownBlock = some W.heap.size) :
    NewR 25 w W' v' (o4 ++ [s]) ∧ NewR 40 w W' v5 o5 ∧ RowsI 2 W' (o4 ++ [s]) ∧ RowsI 3 W' o5 := by
  have h1 : RowsI 2 W (o4 ++ [s]) := fun x hx => by
    rcases List.mem_append.1 hx with hx | hx
    · exact h.i4 x hx
    · rw [List.mem_singleton] at hx
      subst hx
      exact hs
  exact ⟨h.r4.app ho hg ha, h.r5.farR h.r4.own (by decide) hg h.r4.new, h1.grown h.r4.own (by decide) hg, h.i5.grown h.r4.own (by decide) hg⟩
theorem ASt.push5 {w W W' : World} {v4 v5 v' : Value} {o4 o5 : List SlI} {s : SlI} (r4 : NewR 25 w W v4 o4) (r5 : NewR 40 w W v5 o5) (i4 : RowsI 2 W o4) (i5 : RowsI 3 W o5) {done : List (List Int)} (n4 : nums o4 = done) (n5 : nums (o5 ++ [s]) = done)
    (hs : OwnI 3 W s.v s.xs) (ho : OwnR 40 W' v' (o5 ++ [s])) (hg : W.grownBy W' v5.ownBlock) (ha : v'.ownBlock = v5.ownBlock ∨ v'.ownBlock = some W.heap.size) : ASt w W' v4 v' o4 (o5 ++ [s]) done := by
  have h1 : RowsI 3 W (o5 ++ [s]) := fun x hx => by
    rcases List.mem_append.1 hx with hx | hx
    · exact i5 x hx
    · rw [List.mem_singleton] at hx
      subst hx
      exact hs
  exact ⟨r4.farR r5.own (by decide) hg r5.new, r5.app ho hg ha, i4.grown r5.own (by decide) hg, h1.grown r5.own (by decide) hg, n4, n5⟩
def SlI.none_ : SlI := ⟨none, 0, 0, []⟩
theorem nums_getD {o4 : List SlI} {done : List (List Int)} (h : nums o4 = done) (k : Nat) : (o4.getD k .none_).xs = done.getD k [] := by
  subst h
  simp only [nums, List.getD_eq_getElem?_getD, List.getElem?_map]
  cases o4[k]? <;> rfl
theorem all_take {xs : List Int} {k c : Nat} (hk : k < xs.length) (h : (xs.take k).all (fun x => decide (0 ≤ x) && decide (x < c)) = true) (h0 : 0 ≤ xs[k]) (h1 : xs[k] < c) : (xs.take (k + 1)).all (fun x => decide (0 ≤ x) && decide (x < c)) = true := by
  rw [List.take_succ_eq_append_getElem hk, List.all_append, h]
  simp [h0, h1]
theorem not_all {xs : List Int} {k c : Nat} (hk : k < xs.length) (h : xs[k] < 0 ∨ (c : Int) ≤ xs[k]) : xs.all (fun x => decide (0 ≤ x) && decide (x < c)) = false := by
  rw [List.all_eq_false]
  refine ⟨xs[k], List.getElem_mem hk, ?_⟩
  simp
  omega
theorem allGo_bad {done : List (List Int)} {b : List Int} {bs : List (List Int)} (h : b.all (fun x => decide (0 ≤ x) && decide (x < done.length)) = false) : Lin.allGo done (b :: bs) = none := by
  rw [Lin.allGo, h]
  rfl
theorem allGo_none {done : List (List Int)} {b : List Int} {bs : List (List Int)} (h : b.all (fun x => decide (0 ≤ x) && decide (x < done.length)) = true) (ho : Lin.order done.length b (b.map fun x => done.getD x.toNat []) = none) : Lin.allGo done (b :: bs) = none := by
  rw [Lin.allGo, h, ho]
  rfl
theorem allGo_some {done : List (List Int)} {b o : List Int} {bs : List (List Int)} (h : b.all (fun x => decide (0 ≤ x) && decide (x < done.length)) = true) (ho : Lin.order done.length b (b.map fun x => done.getD x.toNat []) = some o) : Lin.allGo done (b :: bs) = Lin.allGo (done ++ [o]) bs := by
  rw [Lin.allGo, h, ho]
  rfl
theorem nums_snoc {rs : List SlI} {done : List (List Int)} (h : nums rs = done) (s : SlI) {xs : List Int} (e : s.xs = xs) : nums (rs ++ [s]) = done ++ [xs] := by
  subst h e
  simp [nums]
/-- what All answers -/
def AllEnd (w : World) (r : Option (List (List Int))) (e : Ending) (w' : World) : Prop :=
  ∃ v os, e = .returned (.tuple #[v, .bool r.isSome]) ∧ nums os = r.getD [] ∧ NewR 40 w w' v os ∧ RowsI 3 w' os
theorem AllEnd.none_ {w w' : World} {r : Option (List (List Int))} (h : r = none) (hb : Below w.heap.size w w') : AllEnd w r (.returned (.tuple #[.slice none 0 0, .bool false])) w' := by
  subst h
  exact ⟨_, [], rfl, rfl, ⟨Own.nil_ _ _ _, fun b e => (by cases e), hb⟩, RowsI.nil _ _⟩
theorem AllEnd.some_ {w w' : World} {r : Option (List (List Int))} {v : Value} {os : List SlI} {done : List (List Int)} (h : r = some done) (hn : nums os = done) (hr : NewR 40 w w' v os) (hi : RowsI 3 w' os) : AllEnd w r (.returned (.tuple #[v, .bool true])) w' := by
  subst h
  exact ⟨_, os, rfl, hn, hr, hi⟩

set_option maxRecDepth 100000 in
set_option maxHeartbeats 4000000 in
theorem all_any (A : Option Addr) (n c : Nat) (bs : List SlI) (w : World) (hR : RdR w A n c bs) (hok : AllOk w bs) (hn : n ≤ 100) (hbs : ∀ s ∈ bs, s.n ≤ 100) :
    Calls Try.prog 22 #[.slice A n c] w (AllEnd w (Lin.all (nums bs))) := by
  have hmk := make_RN n (by omega)
  have hlb := hR.1
  have HR := Lib.hid hR
  have HOK := Lib.hid hok
  have HBS := Lib.hid hbs
  clear hR hok hbs
  have h5 : NewR 40 w (w.alloc (.cells (List.replicate n (.slice none 0 0)).toArray 40)) (.slice (some ⟨w.heap.size, 0, none⟩) 0 n) [] := ⟨room_R w n (by omega), fun b e => by simp [Value.ownBlock] at e; omega, (by repeat (first | exact Below.refl _ _ | assumption | refine Below.setCell ?_ (by first | (simp; done) | (simp; omega) | omega) _ | refine below_drewN ?_ _ | refine Below.drew ?_ | refine Below.alloc ?_ (by first | (simp; done) | (simp; omega) | omega) _))⟩
  have hA0 : ASt w (w.alloc (.cells (List.replicate n (.slice none 0 0)).toArray 40)) (.slice none 0 0) (.slice (some ⟨w.heap.size, 0, none⟩) 0 n) [] [] [] :=
    ⟨⟨Own.nil_ _ _ _, fun b e => (by cases e), h5.bel⟩, h5, RowsI.nil _ _, RowsI.nil _ _, rfl, rfl⟩
  have HA0 := Lib.hid hA0
  clear h5 hA0
  go_enter Try.func22, Try.ntmps22
  go_wp2_with fail
  clear hmk
  go_loopw [4, 5, 22] (fun v4 v5 i wr => ∃ (j : Nat) (o4 o5 : List SlI) (done : List (List Int)), j ≤ n ∧ i = .int .i64 j ∧ ASt w wr v4 v5 o4 o5 done ∧ Hid (done.length = j) ∧ Hid (Neat done) ∧ Hid (Lin.all (nums bs) = Lin.allGo done (nums (bs.drop j)))) (fun _ _ i _ => n - (intOf i).toNat)
  case atStart => exact ⟨0, [], [], [], Nat.zero_le _, rfl, HA0.out, rfl, Neat.nil, rfl⟩
  case round =>
    obtain ⟨j, o4, o5, done, hj, rfl, hst, hdl, hneat, hall⟩ := hrel
    obtain ⟨W, rfl⟩ : ∃ W : World, W = wr := ⟨_, rfl⟩
    by_cases hlt : j < n
    · have hkr : j < bs.length := by omega
      obtain ⟨b, o, rfl, hb, h0⟩ := (HR.out.new hst.r4.bel).at_ hlt
      have hrow := HOK.out bs[j] (List.getElem_mem hkr)
      have hbn := HBS.out bs[j] (List.getElem_mem hkr)
      have hdr : bs.drop j = bs[j] :: bs.drop (j + 1) := List.drop_eq_getElem_cons hkr
      generalize bs[j] = r at *
      obtain ⟨Ar, nr, cr, xr⟩ := r
      have hrow : RdI w Ar nr cr xr := hrow
      have h0 : W.cell? ⟨b, o + j, none⟩ = some (.slice Ar nr cr) := h0
      have hbn : nr ≤ 100 := hbn
      have hlr := hrow.1
      have hall' : Lin.all (nums bs) = Lin.allGo done (xr :: nums (bs.drop (j + 1))) := by rw [hall.out, hdr]; rfl
      have HALL := Lib.hid hall'
      have hl4 : o4.length = j := by rw [← nums_length, hst.n4, hdl.out]
      have hl5 : o5.length = j := by rw [← nums_length, hst.n5, hdl.out]
      have HL4 : o4.length ≤ 100 := by omega
      have HL5 : o5.length ≤ 100 := by omega
      have HE4 := Lib.hid hl4
      have HE5 := Lib.hid hl5
      obtain ⟨A4, c4, rfl, hr4, _⟩ := OwnR.rdL hst.r4.own
      have HR4 := Lib.hid hr4
      have HRW := Lib.hid (hrow.new hst.r4.bel)
      have HWB := Lib.hid hst.r4.bel
      have HST := Lib.hid hst
      clear hall' hall hdr hl4 hl5 hr4 hst hrow
      go_wp2_with fail
      go_loopw [8, 9, 29] (fun v8 v9 i wr => ∃ (k : Nat) (ts : List SlI), k ≤ nr ∧ i = .int .i64 k ∧ NewI 2 W wr v8 (xr.take k) ∧ NewR 25 W wr v9 ts ∧ Hid (ts = (xr.take k).map fun x => o4.getD x.toNat .none_) ∧ Hid ((xr.take k).all (fun x => decide (0 ≤ x) && decide (x < done.length)) = true)) (fun _ _ i _ => nr - (intOf i).toNat)
      case atStart => exact ⟨0, [], Nat.zero_le _, rfl, NewI.nil_ _ _, NewR.nil_ _ _, rfl, rfl⟩
      case round =>
        obtain ⟨k, ts, hk, rfl, h8, h9, hts, hal⟩ := hrel
        have hbel : Below w.heap.size w wr := HWB.out.trans (h8.bel.mono HWB.out.size)
        have HBEL := Lib.hid hbel
        clear hbel
        by_cases hlk : k < nr
        · have hx : k < xr.length := by omega
          obtain ⟨b2, o2, rfl, hb2, hx0⟩ := (HRW.out.new h8.bel).at_ hlk
          have hnA := not_all (c := done.length) hx
          have hal2 := all_take (c := done.length) hx hal.out
          have htk := List.take_succ_eq_append_getElem hx
          rw [hdl.out] at hnA hal2
          have hxl : (xr.take k).length = k := by rw [List.length_take]; omega
          generalize xr[k] = x at *
          by_cases hneg : x < 0
          · have hno : Lin.all (nums bs) = none := by rw [HALL.out]; exact allGo_bad (by rw [hdl.out]; exact hnA (.inl hneg))
            have HNO := Lib.hid hno
            clear hno hnA hal2 htk hxl h8 h9
            go_wp2_with fail
            refine bodyPost_ret (results_tmp2 rfl _ _ _) rfl ?_
            exact AllEnd.none_ HNO.out HBEL.out
          · obtain ⟨xn, rfl⟩ := Int.eq_ofNat_of_zero_le (by omega : 0 ≤ x)
            by_cases hbig : j ≤ xn
            · have hno : Lin.all (nums bs) = none := by rw [HALL.out]; exact allGo_bad (by rw [hdl.out]; exact hnA (.inr (by omega)))
              have HNO := Lib.hid hno
              clear hno hnA hal2 htk hxl h8 h9
              go_wp2_with fail
              refine bodyPost_ret (results_tmp2 rfl _ _ _) rfl ?_
              exact AllEnd.none_ HNO.out HBEL.out
            · have hxo : xn < o4.length := by rw [HE4.out]; omega
              have HXL := Lib.hid hxl
              have HXK : (xr.take k).length ≤ 100 := by omega
              have HTK := Lib.hid htk
              have HAL := Lib.hid (hal2 (by omega) (by omega))
              have htl : ts.length = k := by rw [hts.out, List.length_map, hxl]
              have HTL : ts.length ≤ 100 := by omega
              have H8 := Lib.hid h8
              have H9 := Lib.hid h9
              have hg4 : o4.getD xn .none_ = o4[xn] := by rw [List.getD_eq_getElem?_getD, List.getElem?_eq_getElem hxo, Option.getD_some]
              have HG4 := Lib.hid hg4
              have hcell : ∀ w1, Below W.heap.size W w1 → ∃ b4 o4', A4 = some ⟨b4, o4', none⟩ ∧ w1.cell? ⟨b4, o4' + xn, none⟩ = some (.slice o4[xn].A o4[xn].n o4[xn].c) := fun w1 hb => by
                obtain ⟨b4, o4', e, _, h⟩ := (HR4.out.new hb).at_ hxo
                exact ⟨b4, o4', e, h⟩
              have HC4 := Lib.hid hcell
              have hb1 : Below wr.heap.size wr (wr.alloc (.cells #[.int .i64 (xn : Int)] 2)) := (by repeat (first | exact Below.refl _ _ | assumption | refine Below.setCell ?_ (by first | (simp; done) | (simp; omega) | omega) _ | refine below_drewN ?_ _ | refine Below.drew ?_ | refine Below.alloc ?_ (by first | (simp; done) | (simp; omega) | omega) _))
              have HO8 := Lib.hid (h8.below hb1)
              have HO9 := Lib.hid (h9.below hb1)
              have HB4 := Lib.hid (show ∃ b4 q4, A4 = some ⟨b4, q4, none⟩ from by obtain ⟨b4, q4, e, _⟩ := hcell W (Below.refl _ _); exact ⟨b4, q4, e⟩)
              clear hxl htk hal2 hnA htl h8 h9 hg4 hcell hb1
              generalize o4[xn] = s at *
              obtain ⟨As, ns, cs, xs⟩ := s
              obtain ⟨b4, q4, rfl⟩ := HB4.out
              clear HB4
              go_wp2_with (first | (at_builtin; refine wpList_appendI _ rfl (.tmp 40) (.tmp 42) rfl u8 (xr.take k) rfl HO8.out.own (some ⟨wr.heap.size, 0, none⟩) 1 1 [(xn : Int)] rfl (one_rdI wr 2 (xn : Int)) (by omega) ?_; intro v1 w1 hv1 hg1 ha1; have h18 := HO8.out.app hv1 hg1 ha1; have h19 := HO9.out.far HO8.out.own (by decide) hg1 HO8.out.new; have h1c := HC4.out w1 h18.bel; obtain ⟨b4', q4', e4, hc4⟩ := h1c; cases e4; have hc4 : w1.cell? ⟨b4, q4 + xn, none⟩ = some (.slice As ns cs) := hc4; have hb2' : Below w1.heap.size w1 (w1.alloc (.cells #[.slice As ns cs] 25)) := (by repeat (first | exact Below.refl _ _ | assumption | refine Below.setCell ?_ (by first | (simp; done) | (simp; omega) | omega) _ | refine below_drewN ?_ _ | refine Below.drew ?_ | refine Below.alloc ?_ (by first | (simp; done) | (simp; omega) | omega) _)); have HP8 := Lib.hid (h18.below hb2'); have HP9 := Lib.hid (h19.below hb2'); clear hv1 hg1 ha1 h18 h19 hb2') | (at_builtin; refine wpList_appendR _ rfl (.tmp 44) (.tmp 49) rfl u9 ts rfl HP9.out.own (some ⟨w1.heap.size, 0, none⟩) 1 1 [⟨As, ns, cs, xs⟩] rfl (one_rdR w1 25 ⟨As, ns, cs, xs⟩) (by omega) ?_; intro v2 w2 hv2 hg2 ha2; have h28 := HP8.out.far HP9.out.own (by decide) hg2 HP9.out.new; have h29 := HP9.out.app hv2 hg2 ha2; have H28 := Lib.hid h28; have H29 := Lib.hid h29; clear hv2 hg2 ha2 h28 h29))
              go_roundw
              case rel => exact ⟨k + 1, ts ++ [⟨As, ns, cs, xs⟩], by omega, by go_num, by rw [HTK.out]; exact H28.out, H29.out, by unfold Hid; rw [HTK.out, List.map_append, ← hts.out, List.map_cons, List.map_nil, Int.toNat_natCast, HG4.out], by unfold Hid; rw [hdl.out]; exact HAL.out⟩
              case measure => simp [intOf]; omega
        · obtain rfl : k = nr := by omega
          have hxt : xr.take k = xr := List.take_of_length_le (by omega)
          rw [hxt] at h8 hts hal
          obtain ⟨A8, n8, c8, rfl, hr8, _⟩ := OwnI.rd h8.own
          obtain ⟨A9, c9, e9, hA9⟩ := Own.shape h9.own
          subst e9
          have hr9 : RdR wr A9 ts.length c9 ts := by
            obtain ⟨_, _, e, h, _⟩ := OwnR.rdL h9.own
            cases e
            exact h
          have hi4 := HST.out.i4.ok
          have hok9 : AllOk wr ts := fun s hs => by
            rw [hts.out] at hs
            obtain ⟨x, hx, rfl⟩ := List.mem_map.1 hs
            by_cases hxo : x.toNat < o4.length
            · rw [List.getD_eq_getElem?_getD, List.getElem?_eq_getElem hxo, Option.getD_some]
              exact (hi4 _ (List.getElem_mem hxo)).new h9.bel
            · rw [List.getD_eq_getElem?_getD, List.getElem?_eq_none (by omega)]
              exact RdI.nil_ (c := 0) (by omega)
          have hnts : nums ts = xr.map fun x => done.getD x.toNat [] := by
            rw [hts.out]
            simp only [nums, List.map_map]
            refine List.map_congr_left fun x _ => ?_
            exact nums_getD HST.out.n4 x.toNat
          have htl : ts.length = k := by rw [hts.out, List.length_map, hlr]
          have hwt : Lin.weight (nums ts) + n8 ≤ 1000000 := by
            have h1 := hneat.out.weight xr
            rw [← hnts] at h1
            have h2 := hr8.1
            have h3 := Nat.mul_le_mul (show xr.length ≤ 100 by omega) (show done.length + 1 ≤ 101 by rw [hdl.out]; omega)
            omega
          have HORD := Lib.hid (order_any (j : Int) A8 n8 c8 xr A9 ts.length c9 ts wr hr8 hr9 hok9 (fun _ => hA9) (by omega) hwt)
          have HNTS := Lib.hid hnts
          have HB9 := Lib.hid h9.bel
          clear hxt h8 hts hr8 h9 hA9 hr9 hi4 hok9 hnts htl hwt
          go_wp2_with fail
          refine HORD.out.mono ?_
          rintro e w3 ⟨v3, rfl, hv3⟩
          have hb3 : Below W.heap.size W w3 := HB9.out.trans (hv3.bel.mono HB9.out.size)
          have hsel : Lin.order (j : Int) xr (nums ts) = Lin.order (done.length : Int) xr (xr.map fun x => done.getD x.toNat []) := by rw [HNTS.out, hdl.out]
          rw [hsel] at hv3 ⊢
          clear hsel HORD HNTS
          have hst3 := HST.out.below hb3
          have HST3 := Lib.hid hst3
          have hbel3 : Below w.heap.size w w3 := HWB.out.trans (hb3.mono HWB.out.size)
          have HBEL3 := Lib.hid hbel3
          clear hst3 hbel3 hb3 HR4
          cases ho : Lin.order (done.length : Int) xr (xr.map fun x => done.getD x.toNat []) with
          | none =>
            have hno : Lin.all (nums bs) = none := by rw [HALL.out]; exact allGo_none hal.out ho
            have HNO := Lib.hid hno
            clear hno ho hv3
            simp only [Option.isSome_none]
            go_wp2_with fail
            refine bodyPost_ret (results_tmp2 rfl _ _ _) rfl ?_
            exact AllEnd.none_ HNO.out HBEL3.out
          | some od =>
            have hno : Lin.all (nums bs) = Lin.allGo (done ++ [od]) (nums (bs.drop (j + 1))) := by rw [HALL.out]; exact allGo_some hal.out ho
            have HNO := Lib.hid hno
            have hneat2 := hneat.out.snoc hal.out ho
            have hod : od.length ≤ 101 := by
              have := hneat2.length done.length (by simp)
              have e : (done ++ [od])[done.length]'(by simp) = od := by simp
              rw [e, hdl.out] at this
              omega
            have HNEAT2 := Lib.hid hneat2
            rw [ho] at hv3
            have hv3 : NewI 2 wr w3 v3 od := hv3
            simp only [Option.isSome_some]
            obtain ⟨A3, c3, rfl, hr3, _⟩ := OwnI.rdL hv3.own
            have hb4 : Below w3.heap.size w3 (w3.alloc (.cells #[.slice A3 od.length c3] 25)) := (by repeat (first | exact Below.refl _ _ | assumption | refine Below.setCell ?_ (by first | (simp; done) | (simp; omega) | omega) _ | refine below_drewN ?_ _ | refine Below.drew ?_ | refine Below.alloc ?_ (by first | (simp; done) | (simp; omega) | omega) _))
            have HST4 := Lib.hid (HST3.out.below hb4)
            have HO3 := Lib.hid ((hv3.below hb4).own.sl)
            have HR3 := Lib.hid (hr3.new hb4)
            clear hno ho hneat2 hv3 hr3 hb4
            go_wp2_with (at_builtin; refine wpList_appendR _ rfl (.tmp 61) (.tmp 63) rfl (.slice A4 o4.length c4) o4 rfl HST4.out.r4.own (some ⟨w3.heap.size, 0, none⟩) 1 1 [⟨A3, od.length, c3, od⟩] rfl (one_rdR w3 25 ⟨A3, od.length, c3, od⟩) (by omega) ?_; intro v5' w5 hv5 hg5 ha5; obtain ⟨p1, p2, p3, p4⟩ := HST4.out.push4 (s := ⟨A3, od.length, c3, od⟩) HO3.out hv5 hg5 ha5; have hr5 : RdI w5 A3 od.length c3 od := (p3.ok ⟨A3, od.length, c3, od⟩ (by simp)); have P1 := Lib.hid p1; have P2 := Lib.hid p2; have P3 := Lib.hid p3; have P4 := Lib.hid p4; have HR5 := Lib.hid hr5; clear hv5 hg5 ha5 p1 p2 p3 p4 hr5)
            have hod9 : od.length ≤ 9223372036854775807 := by omega
            obtain ⟨wo, rfl⟩ : ∃ wo : World, wo = wr := ⟨_, rfl⟩
            go_loopw [14, 67] (fun v14 i wq => ∃ k : Nat, k ≤ od.length ∧ i = .int .i64 k ∧ NewI 3 w5 wq v14 (od.take k)) (fun _ i _ => od.length - (intOf i).toNat)
            case atStart => exact ⟨0, Nat.zero_le _, rfl, NewI.nil_ _ _⟩
            case round =>
              obtain ⟨q, hq, rfl, h14⟩ := hrel
              by_cases hlq : q < od.length
              · obtain ⟨b3, q3, rfl, hb3, hx3⟩ := (HR5.out.new h14.bel).at_ hlq
                have htk := List.take_succ_eq_append_getElem hlq
                generalize od[q] = x at *
                have HTK := Lib.hid htk
                have HXK : (od.take q).length ≤ 101 := by rw [List.length_take]; omega
                have hbq : Below wr.heap.size wr (wr.alloc (.cells #[.int .i64 x] 3)) := (by repeat (first | exact Below.refl _ _ | assumption | refine Below.setCell ?_ (by first | (simp; done) | (simp; omega) | omega) _ | refine below_drewN ?_ _ | refine Below.drew ?_ | refine Below.alloc ?_ (by first | (simp; done) | (simp; omega) | omega) _))
                have HO14 := Lib.hid (h14.below hbq)
                clear htk h14 hbq
                go_wp2_with (at_builtin; refine wpList_appendN _ rfl (.tmp 71) (.tmp 73) rfl u14 (od.take q) rfl HO14.out.own (some ⟨wr.heap.size, 0, none⟩) 1 1 [x] rfl (one_rdI wr 3 x) (by omega) ?_; intro v6 w6 hv6 hg6 ha6; have h16 := HO14.out.app hv6 hg6 ha6; have H16 := Lib.hid h16; clear hv6 hg6 ha6 h16)
                go_roundw
                case rel => exact ⟨q + 1, by omega, by go_num, by rw [HTK.out]; exact H16.out⟩
                case measure => simp [intOf]; omega
              · obtain rfl : q = od.length := by omega
                rw [List.take_of_length_le (Nat.le_refl _)] at h14
                obtain ⟨A6, c6, rfl, _, _⟩ := OwnI.rdL h14.own
                have hbq : Below wr.heap.size wr (wr.alloc (.cells #[.slice A6 od.length c6] 40)) := (by repeat (first | exact Below.refl _ _ | assumption | refine Below.setCell ?_ (by first | (simp; done) | (simp; omega) | omega) _ | refine below_drewN ?_ _ | refine Below.drew ?_ | refine Below.alloc ?_ (by first | (simp; done) | (simp; omega) | omega) _))
                have hb7 := (h14.below hbq).bel
                have H14 := Lib.hid ((h14.below hbq).own.sl)
                have Q1 := Lib.hid (P1.out.below hb7)
                have Q2 := Lib.hid (P2.out.below hb7)
                have Q3 := Lib.hid (P3.out.below hb7)
                have Q4 := Lib.hid (P4.out.below hb7)
                have hn4 := nums_snoc HST4.out.n4 (⟨A3, od.length, c3, od⟩ : SlI) (xs := od) rfl
                have hn5 := nums_snoc HST4.out.n5 (⟨A6, od.length, c6, od⟩ : SlI) (xs := od) rfl
                have HN4 := Lib.hid hn4
                have HN5 := Lib.hid hn5
                clear h14 hbq hb7 hn4 hn5
                go_wp2_with (at_builtin; refine wpList_appendRN _ rfl (.tmp 76) (.tmp 78) rfl u5 o5 rfl Q2.out.own (some ⟨wr.heap.size, 0, none⟩) 1 1 [⟨A6, od.length, c6, od⟩] rfl (one_rdR wr 40 ⟨A6, od.length, c6, od⟩) (by omega) ?_; intro v8 w8 hv8 hg8 ha8; have ha := ASt.push5 Q1.out Q2.out Q3.out Q4.out HN4.out HN5.out (s := ⟨A6, od.length, c6, od⟩) H14.out hv8 hg8 ha8; have HA := Lib.hid ha; clear hv8 hg8 ha8 ha)
                go_roundw
                case rel => exact ⟨j + 1, o4 ++ [⟨A3, od.length, c3, od⟩], o5 ++ [⟨A6, od.length, c6, od⟩], done ++ [od], by omega, by go_num, HA.out, by unfold Hid; rw [List.length_append, hdl.out]; rfl, HNEAT2.out, HNO.out⟩
                case measure => simp [intOf]; omega
    · obtain rfl : j = n := by omega
      have hno : Lin.all (nums bs) = some done := by
        rw [hall.out, List.drop_of_length_le (by omega)]
        rfl
      have HNO := Lib.hid hno
      have HST := Lib.hid hst
      clear hno hst
      go_wp2_with fail
      refine bodyPost_ret (results_tmp2 rfl _ _ _) rfl ?_
      exact AllEnd.some_ HNO.out HST.out.n5 HST.out.r5 HST.out.i5
end Go.Proofs.Ytbfjkjkanckcjaa
