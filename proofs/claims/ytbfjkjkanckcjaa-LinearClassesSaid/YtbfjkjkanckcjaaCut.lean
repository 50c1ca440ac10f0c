/- cut and few: rows of their own. -/
import Derived.Test.YtbfjkjkanckcjaaRmg
import Derived.Deep.RegionHeld3
namespace Go.Proofs.Ytbfjkjkanckcjaa
open Go.RowKit Go.Shelf

/-- new rows, each of its own -/
structure NewRows (t tr : TypeId) (w w' : World) (v : Value) (os : List SlI) : Prop where
  r : NewR tr w w' v os
  i : RowsI t w' os
  d : os.Pairwise fun s s' => ∀ b, s.v.ownBlock = some b → s'.v.ownBlock ≠ some b
  n : ∀ s ∈ os, ∀ b, s.v.ownBlock = some b → w.heap.size ≤ b
theorem NewRows.below {t tr : TypeId} {w w' w2 : World} {v : Value} {os : List SlI} (h : NewRows t tr w w' v os) (hb : Below w'.heap.size w' w2) : NewRows t tr w w2 v os := ⟨h.r.below hb, h.i.below hb, h.d, h.n⟩
theorem NewRows.empty (t tr : TypeId) (w : World) : NewRows t tr w (w.alloc (.cells #[] tr)) (.slice (some ⟨w.heap.size, 0, none⟩) 0 0) [] := ⟨NewR.empty tr w, RowsI.nil _ _, .nil, fun s hs => by simp at hs⟩
/-- one more -/
theorem NewRows.push {t tr : TypeId} {w w' w1 w2 : World} {v v' : Value} {os : List SlI} {s : SlI} (hne : t ≠ tr) (h : NewRows t tr w w' v os) (hb : Below w'.heap.size w' w1) (hs : OwnI t w1 s.v s.xs) (hnew : ∀ b, s.v.ownBlock = some b → w'.heap.size ≤ b) (ho : OwnR tr w2 v' (os ++ [s])) (hg : w1.grownBy w2 v.ownBlock)
    (ha : v'.ownBlock = v.ownBlock ∨ v'.ownBlock = some w1.heap.size) : NewRows t tr w w2 v' (os ++ [s]) := by
  have h1 := h.below hb
  have hi : RowsI t w1 (os ++ [s]) := fun x hx => by
    rcases List.mem_append.1 hx with hx | hx
    · exact h1.i x hx
    · rw [List.mem_singleton] at hx
      subst hx
      exact hs
  refine ⟨h1.r.app ho hg ha, hi.grown h1.r.own hne hg, ?_, ?_⟩
  · rw [List.pairwise_append]
    refine ⟨h.d, List.pairwise_singleton _ _, fun a ha' c hc b hab hcb => ?_⟩
    rw [List.mem_singleton] at hc
    subst hc
    have h2 := Own.lt (h.i a ha') hab
    have h3 := hnew b hcb
    omega
  · intro x hx b hxb
    rcases List.mem_append.1 hx with hx | hx
    · exact h.n x hx b hxb
    · rw [List.mem_singleton] at hx
      subst hx
      have := hnew b hxb
      have := h.r.bel.size
      omega
def cutTo (m : Nat) (rows : List (List Int)) (k : Nat) : List (List Int) := (rows.take k).map fun r => r.take m
theorem cutTo_step {m : Nat} {rs os : List SlI} {k : Nat} (h : k < rs.length) (e : nums os = cutTo m (nums rs) k) {s : SlI} (hs : s.xs = rs[k].xs.take m) : nums (os ++ [s]) = cutTo m (nums rs) (k + 1) := by
  unfold cutTo at *
  have hk : k < (nums rs).length := by rw [nums_length]; exact h
  rw [nums_append, e, List.take_succ_eq_append_getElem hk, List.map_append]
  simp [nums, hs]
theorem cutTo_all {m k : Nat} {rows : List (List Int)} (h : rows.length ≤ k) (q : Nat) (hq : k ≤ q) : cutTo m rows k = cutTo m rows q := by
  unfold cutTo
  rw [List.take_of_length_le h, List.take_of_length_le (by omega)]
section
variable {ops : Array Oper} {o : Oper} {a : Act} {K : Act → World → Prop} {Q : Exit → Act → World → Prop} {E : Prop}
theorem step_appendI (w : World) (hgd : o.guard = none) (s x : Operand) (ho : o.op = .call { callee := .builtin .append, args := #[s, x], argTypes := #[25, 25] })
    (v : Value) (xs : List Int) (hs : a.eval s = v) (hown : OwnI 2 w v xs) (A : Option Addr) (m c : Nat) (ys : List Int) (hx : a.eval x = .slice A m c) (hr : RdI w A m c ys) (hbound : xs.length + m ≤ 1000000000000)
    (h : ∀ v' w', OwnI 2 w' v' (xs ++ ys) → w.grownBy w' v.ownBlock → (v'.ownBlock = v.ownBlock ∨ v'.ownBlock = some w.heap.size) → K (a.put o.dst v') w') :
    if Region.wanted o (yielded ops a.tmps) = true then Oper.wp Try.prog o a w K Q else E := by
  obtain ⟨i0, hi, hz0, hz1, hz2⟩ := info_parts info_I64
  refine step_append_Own w hgd s x _ ho _ i0 _ 1 8 Try.underlying25 hi hz0 hz1 hz2 rfl v xs.length (ics xs) hs hown A m c (ics ys) hx hr.2 (ics_oneCell ys) (by omega) (by omega) (fun v' w' h1 h2 h3 => h v' w' ?_ h2 h3)
  unfold OwnI
  rw [List.length_append, ics_append, hr.1]
  exact h1
theorem step_appendN (w : World) (hgd : o.guard = none) (s x : Operand) (ho : o.op = .call { callee := .builtin .append, args := #[s, x], argTypes := #[40, 40] })
    (v : Value) (xs : List Int) (hs : a.eval s = v) (hown : OwnI 3 w v xs) (A : Option Addr) (m c : Nat) (ys : List Int) (hx : a.eval x = .slice A m c) (hr : RdI w A m c ys) (hbound : xs.length + m ≤ 1000000000000)
    (h : ∀ v' w', OwnI 3 w' v' (xs ++ ys) → w.grownBy w' v.ownBlock → (v'.ownBlock = v.ownBlock ∨ v'.ownBlock = some w.heap.size) → K (a.put o.dst v') w') :
    if Region.wanted o (yielded ops a.tmps) = true then Oper.wp Try.prog o a w K Q else E := by
  obtain ⟨i0, hi, hz0, hz1, hz2⟩ := info_parts info_Int
  refine step_append_Own w hgd s x _ ho _ i0 _ 1 8 Try.underlying40 hi hz0 hz1 hz2 rfl v xs.length (ics xs) hs hown A m c (ics ys) hx hr.2 (ics_oneCell ys) (by omega) (by omega) (fun v' w' h1 h2 h3 => h v' w' ?_ h2 h3)
  unfold OwnI
  rw [List.length_append, ics_append, hr.1]
  exact h1
theorem step_appendR (w : World) (hgd : o.guard = none) (s x : Operand) (ho : o.op = .call { callee := .builtin .append, args := #[s, x], argTypes := #[22, 22] })
    (v : Value) (xs : List SlI) (hs : a.eval s = v) (hown : OwnR 25 w v xs) (A : Option Addr) (m c : Nat) (ys : List SlI) (hx : a.eval x = .slice A m c) (hr : RdR w A m c ys) (hbound : xs.length + m ≤ 1000000000000)
    (h : ∀ v' w', OwnR 25 w' v' (xs ++ ys) → w.grownBy w' v.ownBlock → (v'.ownBlock = v.ownBlock ∨ v'.ownBlock = some w.heap.size) → K (a.put o.dst v') w') :
    if Region.wanted o (yielded ops a.tmps) = true then Oper.wp Try.prog o a w K Q else E := by
  obtain ⟨i0, hi, hz0, hz1, hz2⟩ := info_parts info_Row
  refine step_append_Own w hgd s x _ ho _ i0 _ 1 24 Try.underlying22 hi hz0 hz1 hz2 rfl v xs.length (rcs xs) hs hown A m c (rcs ys) hx hr.2 (rcs_oneCell ys) (by omega) (by omega) (fun v' w' h1 h2 h3 => h v' w' ?_ h2 h3)
  unfold OwnR
  rw [List.length_append, rcs_append, hr.1]
  exact h1
theorem step_appendRN (w : World) (hgd : o.guard = none) (s x : Operand) (ho : o.op = .call { callee := .builtin .append, args := #[s, x], argTypes := #[33, 33] })
    (v : Value) (xs : List SlI) (hs : a.eval s = v) (hown : OwnR 40 w v xs) (A : Option Addr) (m c : Nat) (ys : List SlI) (hx : a.eval x = .slice A m c) (hr : RdR w A m c ys) (hbound : xs.length + m ≤ 1000000000000)
    (h : ∀ v' w', OwnR 40 w' v' (xs ++ ys) → w.grownBy w' v.ownBlock → (v'.ownBlock = v.ownBlock ∨ v'.ownBlock = some w.heap.size) → K (a.put o.dst v') w') :
    if Region.wanted o (yielded ops a.tmps) = true then Oper.wp Try.prog o a w K Q else E := by
  obtain ⟨i0, hi, hz0, hz1, hz2⟩ := info_parts info_RowI
  refine step_append_Own w hgd s x _ ho _ i0 _ 1 24 Try.underlying33 hi hz0 hz1 hz2 rfl v xs.length (rcs xs) hs hown A m c (rcs ys) hx hr.2 (rcs_oneCell ys) (by omega) (by omega) (fun v' w' h1 h2 h3 => h v' w' ?_ h2 h3)
  unfold OwnR
  rw [List.length_append, rcs_append, hr.1]
  exact h1
end

set_option maxRecDepth 100000 in
set_option maxHeartbeats 4000000 in
theorem cut_any (A : Option Addr) (n c : Nat) (rs : List SlI) (w : World) (hR : RdR w A n c rs) (hok : AllOk w rs) :
    Calls Try.prog 15 #[.slice A n c] w fun e w' => ∃ v os, e = .returned v ∧ NewRows 2 25 w w' v os ∧ nums os = cutTo 8 (nums rs) 8 := by
  have hn := hR.le
  have hlr := hR.1
  have HR := Lib.hid hR
  have HOK := Lib.hid hok
  have H0 := Lib.hid (NewRows.empty 2 25 w)
  clear hR hok
  go_enter Try.func15, Try.ntmps15
  go_wp2_with fail
  go_loopw [3, 4] (fun v3 i wr => ∃ (k : Nat) (os : List SlI), k ≤ n ∧ k ≤ 8 ∧ i = .int .i64 k ∧ NewRows 2 25 w wr v3 os ∧ Hid (nums os = cutTo 8 (nums rs) k)) (fun _ i _ => n - (intOf i).toNat)
  case atStart => exact ⟨0, [], Nat.zero_le _, Nat.zero_le _, rfl, H0.out, rfl⟩
  case round =>
    obtain ⟨k, os, hk, hk8, rfl, hnr, hnum⟩ := hrel
    by_cases hlt : k < n
    · by_cases hlt8 : k < 8
      · have hkr : k < rs.length := by omega
        obtain ⟨b, o, rfl, hbw, h0w⟩ := HR.out.at_ hlt
        have hb : b < wr.heap.size := Nat.lt_of_lt_of_le hbw hnr.r.bel.size
        have h0 := (hnr.r.bel.cell (p := ⟨b, o + k, none⟩) hbw).trans h0w
        have hrow := (HOK.out rs[k] (List.getElem_mem hkr)).new hnr.r.bel
        have hst := fun (s : SlI) => cutTo_step (m := 8) (s := s) hkr hnum.out
        generalize rs[k] = r at *
        obtain ⟨Ar, nr, cr, xr⟩ := r
        have hrow : RdI wr Ar nr cr xr := hrow
        have h0 : wr.cell? ⟨b, o + k, none⟩ = some (.slice Ar nr cr) := h0
        have H0w := Lib.hid (show w.cell? ⟨b, o + k, none⟩ = some (.slice Ar nr cr) from h0w)
        clear h0w
        have hst : ∀ s : SlI, s.xs = xr.take 8 → nums (os ++ [s]) = cutTo 8 (nums rs) (k + 1) := hst
        have hn1 := hrow.le
        have hnc := hrow.2.1
        have hc9 := hrow.2.2.1
        have HST := Lib.hid hst
        have HNR := Lib.hid hnr
        have hos : os.length ≤ 8 := by
          have h := hnum.out
          have h2 := congrArg List.length h
          rw [nums_length] at h2
          unfold cutTo at h2
          rw [List.length_map, List.length_take] at h2
          omega
        clear hst hnr hnum
        rcases (by omega : cr = 0 ∨ cr ≠ 0) with hcz | hcz
        · obtain rfl : cr = 0 := hcz
          obtain rfl : nr = 0 := by omega
          have hx0 : xr = [] := List.eq_nil_of_length_eq_zero hrow.1
          subst hx0
          have HCUT := Lib.hid (show RdI wr Ar 0 0 (([] : List Int).take 8) from hrow)
          clear hrow
          go_wp2_with fail
          go_region_held3 (fun w' => w'.cell? ⟨b, o + k, none⟩ = some (.slice Ar 0 0)) (first | exact HC1.out | exact HC2.out _ | exact HC3.out | go_keep)
            (first
              | (refine step_appendI _ rfl (.tmp 17) (.tmp 28) rfl (.slice (some ⟨wr.heap.size, 0, none⟩) 0 0) [] rfl (by exact emptyI 2 wr.drew) Ar _ 0 (([] : List Int).take 8) rfl (by exact HCUT.out.new (by repeat (first | exact Below.refl _ _ | assumption | refine Below.setCell ?_ (by first | (simp; done) | (simp; omega) | omega) _ | refine below_drewN ?_ _ | refine Below.drew ?_ | refine Below.alloc ?_ (by first | (simp; done) | (simp; omega) | omega) _))) (by simp only [List.length_nil]; omega) ?_; intro v1 w1 hv1 hg1 ha1; obtain ⟨A1, n1, c1, rfl, _, _⟩ := OwnI.rd hv1; have hb1 : Below wr.heap.size wr w1 := Below.grown (show Below wr.heap.size wr (wr.drew.alloc (.cells #[] 2)) from (by repeat (first | exact Below.refl _ _ | assumption | refine Below.setCell ?_ (by first | (simp; done) | (simp; omega) | omega) _ | refine below_drewN ?_ _ | refine Below.drew ?_ | refine Below.alloc ?_ (by first | (simp; done) | (simp; omega) | omega) _))) hg1 (by simp) (fun q e => by simp [Value.ownBlock] at e; omega); have hnw : ∀ q, (Value.slice A1 n1 c1).ownBlock = some q → wr.heap.size ≤ q := (fun q e => by rcases ha1 with e' | e' <;> rw [e'] at e <;> simp [Value.ownBlock] at e <;> omega); have hc1 : w1.cell? ⟨b, o + k, none⟩ = some (.slice Ar 0 0) := (hb1.cell (p := ⟨b, o + k, none⟩) hb).trans h0; have HC1 := Lib.hid hc1; have HC2 := Lib.hid (fun (q : Obj) => (show (w1.alloc q).cell? ⟨b, o + k, none⟩ = some (.slice Ar 0 0) from (World.cell?_alloc_lt w1 q ⟨b, o + k, none⟩ (Nat.lt_of_lt_of_le hb hb1.size)).trans hc1)); have HV1 := Lib.hid hv1; have HB1 := Lib.hid hb1; have HN1 := Lib.hid hnw; clear hv1 hb1 hnw hc1 hg1 ha1)
              | (refine step_appendR _ rfl (.tmp 16) (.tmp 30) rfl u3 os rfl (by exact Own.new (Own.new HNR.out.r.own HB1.out) (by repeat (first | exact Below.refl _ _ | assumption | refine Below.setCell ?_ (by first | (simp; done) | (simp; omega) | omega) _ | refine below_drewN ?_ _ | refine Below.drew ?_ | refine Below.alloc ?_ (by first | (simp; done) | (simp; omega) | omega) _))) (some ⟨w1.heap.size, 0, none⟩) 1 1 [⟨A1, n1, c1, ([] : List Int).take 8⟩] rfl (by exact one_rdR w1 25 ⟨A1, n1, c1, ([] : List Int).take 8⟩) (by omega) ?_; intro v2 w2 hv2 hg2 ha2; have hn2 := NewRows.push (by decide) HNR.out (HB1.out.trans ((show Below w1.heap.size w1 (w1.alloc (.cells #[.slice A1 n1 c1] 25)) from (by repeat (first | exact Below.refl _ _ | assumption | refine Below.setCell ?_ (by first | (simp; done) | (simp; omega) | omega) _ | refine below_drewN ?_ _ | refine Below.drew ?_ | refine Below.alloc ?_ (by first | (simp; done) | (simp; omega) | omega) _))).mono HB1.out.size)) (s := ⟨A1, n1, c1, ([] : List Int).take 8⟩) (by exact Own.new HV1.out (by repeat (first | exact Below.refl _ _ | assumption | refine Below.setCell ?_ (by first | (simp; done) | (simp; omega) | omega) _ | refine below_drewN ?_ _ | refine Below.drew ?_ | refine Below.alloc ?_ (by first | (simp; done) | (simp; omega) | omega) _))) HN1.out hv2 hg2 ha2; have HC3 := Lib.hid ((hn2.r.bel.cell (p := ⟨b, o + k, none⟩) hbw).trans H0w.out); have HN2 := Lib.hid hn2; clear hv2 hg2 ha2 hn2))
          all_goals
            go_wp2_with fail
            go_roundw
            case rel => exact ⟨k + 1, os ++ [⟨A1, n1, c1, ([] : List Int).take 8⟩], by omega, by omega, by go_num, HN2.out, HST.out _ rfl⟩
            case measure => simp [intOf]; omega
        · by_cases hm : nr ≤ 8
          all_goals
            have hcutA : RdI wr Ar (if nr ≤ 8 then nr else 8) cr (xr.take 8) := by
              first
                | (rw [if_pos hm]; have := hrow.lo (Nat.le_refl nr); rw [List.take_of_length_le (by rw [hrow.1]; exact Nat.le_refl _)] at this; rw [List.take_of_length_le (by rw [hrow.1]; exact hm)]; exact this)
                | (rw [if_neg hm]; exact hrow.lo (by omega))
            first
              | rw [if_pos hm] at hcutA
              | rw [if_neg hm] at hcutA
            have HCUT := Lib.hid hcutA
            clear hrow hcutA
            have i0 : (0 : Int) ≤ (nr : Int) := by omega
            have i1 : (nr : Int) ≤ (cr : Int) := by omega
            first
              | (have i2 : (if (8 : Int) < (nr : Int) then (8 : Int) else (nr : Int)) = (nr : Int) := if_neg (by omega))
              | (have i2 : (8 : Int) < (nr : Int) := by omega
                 have i3 : (8 : Int) ≤ (cr : Int) := by omega)
            go_wp2_with fail
            go_region_held3 (fun w' => w'.cell? ⟨b, o + k, none⟩ = some (.slice Ar nr cr)) (first | exact HC1.out | exact HC2.out _ | exact HC3.out | go_keep)
              (first
                | (refine step_appendI _ rfl (.tmp 17) (.tmp 28) rfl (.slice (some ⟨wr.heap.size, 0, none⟩) 0 0) [] rfl (by exact emptyI 2 wr.drew) Ar _ cr (xr.take 8) rfl (by exact HCUT.out.new (by repeat (first | exact Below.refl _ _ | assumption | refine Below.setCell ?_ (by first | (simp; done) | (simp; omega) | omega) _ | refine below_drewN ?_ _ | refine Below.drew ?_ | refine Below.alloc ?_ (by first | (simp; done) | (simp; omega) | omega) _))) (by simp only [List.length_nil]; omega) ?_; intro v1 w1 hv1 hg1 ha1; obtain ⟨A1, n1, c1, rfl, _, _⟩ := OwnI.rd hv1; have hb1 : Below wr.heap.size wr w1 := Below.grown (show Below wr.heap.size wr (wr.drew.alloc (.cells #[] 2)) from (by repeat (first | exact Below.refl _ _ | assumption | refine Below.setCell ?_ (by first | (simp; done) | (simp; omega) | omega) _ | refine below_drewN ?_ _ | refine Below.drew ?_ | refine Below.alloc ?_ (by first | (simp; done) | (simp; omega) | omega) _))) hg1 (by simp) (fun q e => by simp [Value.ownBlock] at e; omega); have hnw : ∀ q, (Value.slice A1 n1 c1).ownBlock = some q → wr.heap.size ≤ q := (fun q e => by rcases ha1 with e' | e' <;> rw [e'] at e <;> simp [Value.ownBlock] at e <;> omega); have hc1 : w1.cell? ⟨b, o + k, none⟩ = some (.slice Ar nr cr) := (hb1.cell (p := ⟨b, o + k, none⟩) hb).trans h0; have HC1 := Lib.hid hc1; have HC2 := Lib.hid (fun (q : Obj) => (show (w1.alloc q).cell? ⟨b, o + k, none⟩ = some (.slice Ar nr cr) from (World.cell?_alloc_lt w1 q ⟨b, o + k, none⟩ (Nat.lt_of_lt_of_le hb hb1.size)).trans hc1)); have HV1 := Lib.hid hv1; have HB1 := Lib.hid hb1; have HN1 := Lib.hid hnw; clear hv1 hb1 hnw hc1 hg1 ha1)
                | (refine step_appendR _ rfl (.tmp 16) (.tmp 30) rfl u3 os rfl (by exact Own.new (Own.new HNR.out.r.own HB1.out) (by repeat (first | exact Below.refl _ _ | assumption | refine Below.setCell ?_ (by first | (simp; done) | (simp; omega) | omega) _ | refine below_drewN ?_ _ | refine Below.drew ?_ | refine Below.alloc ?_ (by first | (simp; done) | (simp; omega) | omega) _))) (some ⟨w1.heap.size, 0, none⟩) 1 1 [⟨A1, n1, c1, xr.take 8⟩] rfl (by exact one_rdR w1 25 ⟨A1, n1, c1, xr.take 8⟩) (by omega) ?_; intro v2 w2 hv2 hg2 ha2; have hn2 := NewRows.push (by decide) HNR.out (HB1.out.trans ((show Below w1.heap.size w1 (w1.alloc (.cells #[.slice A1 n1 c1] 25)) from (by repeat (first | exact Below.refl _ _ | assumption | refine Below.setCell ?_ (by first | (simp; done) | (simp; omega) | omega) _ | refine below_drewN ?_ _ | refine Below.drew ?_ | refine Below.alloc ?_ (by first | (simp; done) | (simp; omega) | omega) _))).mono HB1.out.size)) (s := ⟨A1, n1, c1, xr.take 8⟩) (by exact Own.new HV1.out (by repeat (first | exact Below.refl _ _ | assumption | refine Below.setCell ?_ (by first | (simp; done) | (simp; omega) | omega) _ | refine below_drewN ?_ _ | refine Below.drew ?_ | refine Below.alloc ?_ (by first | (simp; done) | (simp; omega) | omega) _))) HN1.out hv2 hg2 ha2; have HC3 := Lib.hid ((hn2.r.bel.cell (p := ⟨b, o + k, none⟩) hbw).trans H0w.out); have HN2 := Lib.hid hn2; clear hv2 hg2 ha2 hn2))
            all_goals
              go_wp2_with fail
              go_roundw
              case rel => exact ⟨k + 1, os ++ [⟨A1, n1, c1, xr.take 8⟩], by omega, by omega, by go_num, HN2.out, HST.out _ rfl⟩
              case measure => simp [intOf]; omega
      · obtain rfl : k = 8 := by omega
        have HN := Lib.hid hnr
        have HU := Lib.hid hnum.out
        clear hnr hnum
        go_wp2_with fail
        go_ret
        exact ⟨_, os, rfl, HN.out, HU.out⟩
    · obtain rfl : k = n := by omega
      have HN := Lib.hid hnr
      have hu := hnum.out
      rw [cutTo_all (by rw [nums_length]; omega) 8 hk8] at hu
      have HU := Lib.hid hu
      clear hnr hnum hu
      go_wp2_with fail
      go_ret
      exact ⟨_, os, rfl, HN.out, HU.out⟩

set_option maxRecDepth 100000 in
set_option maxHeartbeats 4000000 in
theorem few_any (A : Option Addr) (n c : Nat) (rs : List SlI) (w : World) (hR : RdR w A n c rs) (hok : AllOk w rs) :
    Calls Try.prog 21 #[.slice A n c] w fun e w' => ∃ v os, e = .returned v ∧ NewRows 3 40 w w' v os ∧ nums os = cutTo 6 (nums rs) 20 := by
  have hn := hR.le
  have hlr := hR.1
  have HR := Lib.hid hR
  have HOK := Lib.hid hok
  have H0 := Lib.hid (NewRows.empty 3 40 w)
  clear hR hok
  go_enter Try.func21, Try.ntmps21
  go_wp2_with fail
  go_loopw [3, 4] (fun v3 i wr => ∃ (k : Nat) (os : List SlI), k ≤ n ∧ k ≤ 20 ∧ i = .int .i64 k ∧ NewRows 3 40 w wr v3 os ∧ Hid (nums os = cutTo 6 (nums rs) k)) (fun _ i _ => n - (intOf i).toNat)
  case atStart => exact ⟨0, [], Nat.zero_le _, Nat.zero_le _, rfl, H0.out, rfl⟩
  case round =>
    obtain ⟨k, os, hk, hk8, rfl, hnr, hnum⟩ := hrel
    by_cases hlt : k < n
    · by_cases hlt8 : k < 20
      · have hkr : k < rs.length := by omega
        obtain ⟨b, o, rfl, hbw, h0w⟩ := HR.out.at_ hlt
        have hb : b < wr.heap.size := Nat.lt_of_lt_of_le hbw hnr.r.bel.size
        have h0 := (hnr.r.bel.cell (p := ⟨b, o + k, none⟩) hbw).trans h0w
        have hrow := (HOK.out rs[k] (List.getElem_mem hkr)).new hnr.r.bel
        have hst := fun (s : SlI) => cutTo_step (m := 6) (s := s) hkr hnum.out
        generalize rs[k] = r at *
        obtain ⟨Ar, nr, cr, xr⟩ := r
        have hrow : RdI wr Ar nr cr xr := hrow
        have h0 : wr.cell? ⟨b, o + k, none⟩ = some (.slice Ar nr cr) := h0
        have H0w := Lib.hid (show w.cell? ⟨b, o + k, none⟩ = some (.slice Ar nr cr) from h0w)
        clear h0w
        have hst : ∀ s : SlI, s.xs = xr.take 6 → nums (os ++ [s]) = cutTo 6 (nums rs) (k + 1) := hst
        have hn1 := hrow.le
        have hnc := hrow.2.1
        have hc9 := hrow.2.2.1
        have HST := Lib.hid hst
        have HNR := Lib.hid hnr
        have hos : os.length ≤ 20 := by
          have h := hnum.out
          have h2 := congrArg List.length h
          rw [nums_length] at h2
          unfold cutTo at h2
          rw [List.length_map, List.length_take] at h2
          omega
        clear hst hnr hnum
        rcases (by omega : cr = 0 ∨ cr ≠ 0) with hcz | hcz
        · obtain rfl : cr = 0 := hcz
          obtain rfl : nr = 0 := by omega
          have hx0 : xr = [] := List.eq_nil_of_length_eq_zero hrow.1
          subst hx0
          have HCUT := Lib.hid (show RdI wr Ar 0 0 (([] : List Int).take 6) from hrow)
          clear hrow
          go_wp2_with fail
          go_region_held3 (fun w' => w'.cell? ⟨b, o + k, none⟩ = some (.slice Ar 0 0)) (first | exact HC1.out | exact HC2.out _ | exact HC3.out | go_keep)
            (first
              | (refine step_appendN _ rfl (.tmp 17) (.tmp 28) rfl (.slice (some ⟨wr.heap.size, 0, none⟩) 0 0) [] rfl (by exact emptyI 3 wr.drew) Ar _ 0 (([] : List Int).take 6) rfl (by exact HCUT.out.new (by repeat (first | exact Below.refl _ _ | assumption | refine Below.setCell ?_ (by first | (simp; done) | (simp; omega) | omega) _ | refine below_drewN ?_ _ | refine Below.drew ?_ | refine Below.alloc ?_ (by first | (simp; done) | (simp; omega) | omega) _))) (by simp only [List.length_nil]; omega) ?_; intro v1 w1 hv1 hg1 ha1; obtain ⟨A1, n1, c1, rfl, _, _⟩ := OwnI.rd hv1; have hb1 : Below wr.heap.size wr w1 := Below.grown (show Below wr.heap.size wr (wr.drew.alloc (.cells #[] 3)) from (by repeat (first | exact Below.refl _ _ | assumption | refine Below.setCell ?_ (by first | (simp; done) | (simp; omega) | omega) _ | refine below_drewN ?_ _ | refine Below.drew ?_ | refine Below.alloc ?_ (by first | (simp; done) | (simp; omega) | omega) _))) hg1 (by simp) (fun q e => by simp [Value.ownBlock] at e; omega); have hnw : ∀ q, (Value.slice A1 n1 c1).ownBlock = some q → wr.heap.size ≤ q := (fun q e => by rcases ha1 with e' | e' <;> rw [e'] at e <;> simp [Value.ownBlock] at e <;> omega); have hc1 : w1.cell? ⟨b, o + k, none⟩ = some (.slice Ar 0 0) := (hb1.cell (p := ⟨b, o + k, none⟩) hb).trans h0; have HC1 := Lib.hid hc1; have HC2 := Lib.hid (fun (q : Obj) => (show (w1.alloc q).cell? ⟨b, o + k, none⟩ = some (.slice Ar 0 0) from (World.cell?_alloc_lt w1 q ⟨b, o + k, none⟩ (Nat.lt_of_lt_of_le hb hb1.size)).trans hc1)); have HV1 := Lib.hid hv1; have HB1 := Lib.hid hb1; have HN1 := Lib.hid hnw; clear hv1 hb1 hnw hc1 hg1 ha1)
              | (refine step_appendRN _ rfl (.tmp 16) (.tmp 30) rfl u3 os rfl (by exact Own.new (Own.new HNR.out.r.own HB1.out) (by repeat (first | exact Below.refl _ _ | assumption | refine Below.setCell ?_ (by first | (simp; done) | (simp; omega) | omega) _ | refine below_drewN ?_ _ | refine Below.drew ?_ | refine Below.alloc ?_ (by first | (simp; done) | (simp; omega) | omega) _))) (some ⟨w1.heap.size, 0, none⟩) 1 1 [⟨A1, n1, c1, ([] : List Int).take 6⟩] rfl (by exact one_rdR w1 40 ⟨A1, n1, c1, ([] : List Int).take 6⟩) (by omega) ?_; intro v2 w2 hv2 hg2 ha2; have hn2 := NewRows.push (by decide) HNR.out (HB1.out.trans ((show Below w1.heap.size w1 (w1.alloc (.cells #[.slice A1 n1 c1] 40)) from (by repeat (first | exact Below.refl _ _ | assumption | refine Below.setCell ?_ (by first | (simp; done) | (simp; omega) | omega) _ | refine below_drewN ?_ _ | refine Below.drew ?_ | refine Below.alloc ?_ (by first | (simp; done) | (simp; omega) | omega) _))).mono HB1.out.size)) (s := ⟨A1, n1, c1, ([] : List Int).take 6⟩) (by exact Own.new HV1.out (by repeat (first | exact Below.refl _ _ | assumption | refine Below.setCell ?_ (by first | (simp; done) | (simp; omega) | omega) _ | refine below_drewN ?_ _ | refine Below.drew ?_ | refine Below.alloc ?_ (by first | (simp; done) | (simp; omega) | omega) _))) HN1.out hv2 hg2 ha2; have HC3 := Lib.hid ((hn2.r.bel.cell (p := ⟨b, o + k, none⟩) hbw).trans H0w.out); have HN2 := Lib.hid hn2; clear hv2 hg2 ha2 hn2))
          all_goals
            go_wp2_with fail
            go_roundw
            case rel => exact ⟨k + 1, os ++ [⟨A1, n1, c1, ([] : List Int).take 6⟩], by omega, by omega, by go_num, HN2.out, HST.out _ rfl⟩
            case measure => simp [intOf]; omega
        · by_cases hm : nr ≤ 6
          all_goals
            have hcutA : RdI wr Ar (if nr ≤ 6 then nr else 6) cr (xr.take 6) := by
              first
                | (rw [if_pos hm]; have := hrow.lo (Nat.le_refl nr); rw [List.take_of_length_le (by rw [hrow.1]; exact Nat.le_refl _)] at this; rw [List.take_of_length_le (by rw [hrow.1]; exact hm)]; exact this)
                | (rw [if_neg hm]; exact hrow.lo (by omega))
            first
              | rw [if_pos hm] at hcutA
              | rw [if_neg hm] at hcutA
            have HCUT := Lib.hid hcutA
            clear hrow hcutA
            have i0 : (0 : Int) ≤ (nr : Int) := by omega
            have i1 : (nr : Int) ≤ (cr : Int) := by omega
            first
              | (have i2 : (if (6 : Int) < (nr : Int) then (6 : Int) else (nr : Int)) = (nr : Int) := if_neg (by omega))
              | (have i2 : (6 : Int) < (nr : Int) := by omega
                 have i3 : (6 : Int) ≤ (cr : Int) := by omega)
            go_wp2_with fail
            go_region_held3 (fun w' => w'.cell? ⟨b, o + k, none⟩ = some (.slice Ar nr cr)) (first | exact HC1.out | exact HC2.out _ | exact HC3.out | go_keep)
              (first
                | (refine step_appendN _ rfl (.tmp 17) (.tmp 28) rfl (.slice (some ⟨wr.heap.size, 0, none⟩) 0 0) [] rfl (by exact emptyI 3 wr.drew) Ar _ cr (xr.take 6) rfl (by exact HCUT.out.new (by repeat (first | exact Below.refl _ _ | assumption | refine Below.setCell ?_ (by first | (simp; done) | (simp; omega) | omega) _ | refine below_drewN ?_ _ | refine Below.drew ?_ | refine Below.alloc ?_ (by first | (simp; done) | (simp; omega) | omega) _))) (by simp only [List.length_nil]; omega) ?_; intro v1 w1 hv1 hg1 ha1; obtain ⟨A1, n1, c1, rfl, _, _⟩ := OwnI.rd hv1; have hb1 : Below wr.heap.size wr w1 := Below.grown (show Below wr.heap.size wr (wr.drew.alloc (.cells #[] 3)) from (by repeat (first | exact Below.refl _ _ | assumption | refine Below.setCell ?_ (by first | (simp; done) | (simp; omega) | omega) _ | refine below_drewN ?_ _ | refine Below.drew ?_ | refine Below.alloc ?_ (by first | (simp; done) | (simp; omega) | omega) _))) hg1 (by simp) (fun q e => by simp [Value.ownBlock] at e; omega); have hnw : ∀ q, (Value.slice A1 n1 c1).ownBlock = some q → wr.heap.size ≤ q := (fun q e => by rcases ha1 with e' | e' <;> rw [e'] at e <;> simp [Value.ownBlock] at e <;> omega); have hc1 : w1.cell? ⟨b, o + k, none⟩ = some (.slice Ar nr cr) := (hb1.cell (p := ⟨b, o + k, none⟩) hb).trans h0; have HC1 := Lib.hid hc1; have HC2 := Lib.hid (fun (q : Obj) => (show (w1.alloc q).cell? ⟨b, o + k, none⟩ = some (.slice Ar nr cr) from (World.cell?_alloc_lt w1 q ⟨b, o + k, none⟩ (Nat.lt_of_lt_of_le hb hb1.size)).trans hc1)); have HV1 := Lib.hid hv1; have HB1 := Lib.hid hb1; have HN1 := Lib.hid hnw; clear hv1 hb1 hnw hc1 hg1 ha1)
                | (refine step_appendRN _ rfl (.tmp 16) (.tmp 30) rfl u3 os rfl (by exact Own.new (Own.new HNR.out.r.own HB1.out) (by repeat (first | exact Below.refl _ _ | assumption | refine Below.setCell ?_ (by first | (simp; done) | (simp; omega) | omega) _ | refine below_drewN ?_ _ | refine Below.drew ?_ | refine Below.alloc ?_ (by first | (simp; done) | (simp; omega) | omega) _))) (some ⟨w1.heap.size, 0, none⟩) 1 1 [⟨A1, n1, c1, xr.take 6⟩] rfl (by exact one_rdR w1 40 ⟨A1, n1, c1, xr.take 6⟩) (by omega) ?_; intro v2 w2 hv2 hg2 ha2; have hn2 := NewRows.push (by decide) HNR.out (HB1.out.trans ((show Below w1.heap.size w1 (w1.alloc (.cells #[.slice A1 n1 c1] 40)) from (by repeat (first | exact Below.refl _ _ | assumption | refine Below.setCell ?_ (by first | (simp; done) | (simp; omega) | omega) _ | refine below_drewN ?_ _ | refine Below.drew ?_ | refine Below.alloc ?_ (by first | (simp; done) | (simp; omega) | omega) _))).mono HB1.out.size)) (s := ⟨A1, n1, c1, xr.take 6⟩) (by exact Own.new HV1.out (by repeat (first | exact Below.refl _ _ | assumption | refine Below.setCell ?_ (by first | (simp; done) | (simp; omega) | omega) _ | refine below_drewN ?_ _ | refine Below.drew ?_ | refine Below.alloc ?_ (by first | (simp; done) | (simp; omega) | omega) _))) HN1.out hv2 hg2 ha2; have HC3 := Lib.hid ((hn2.r.bel.cell (p := ⟨b, o + k, none⟩) hbw).trans H0w.out); have HN2 := Lib.hid hn2; clear hv2 hg2 ha2 hn2))
            all_goals
              go_wp2_with fail
              go_roundw
              case rel => exact ⟨k + 1, os ++ [⟨A1, n1, c1, xr.take 6⟩], by omega, by omega, by go_num, HN2.out, HST.out _ rfl⟩
              case measure => simp [intOf]; omega
      · obtain rfl : k = 20 := by omega
        have HN := Lib.hid hnr
        have HU := Lib.hid hnum.out
        clear hnr hnum
        go_wp2_with fail
        go_ret
        exact ⟨_, os, rfl, HN.out, HU.out⟩
    · obtain rfl : k = n := by omega
      have HN := Lib.hid hnr
      have hu := hnum.out
      rw [cutTo_all (by rw [nums_length]; omega) 20 hk8] at hu
      have HU := Lib.hid hu
      clear hnr hnum hu
      go_wp2_with fail
      go_ret
      exact ⟨_, os, rfl, HN.out, HU.out⟩
end Go.Proofs.Ytbfjkjkanckcjaa
