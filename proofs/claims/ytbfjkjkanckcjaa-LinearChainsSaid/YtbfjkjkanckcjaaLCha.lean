/- LinearChains: the walk. -/
import Derived.Test.YtbfjkjkanckcjaaLAll
import Derived.Test.YtbfjkjkanckcjaaLTwi
import Derived.Test.YtbfjkjkanckcjaaLKee
import Derived.Test.YtbfjkjkanckcjaaLin3
namespace Go.Proofs.Ytbfjkjkanckcjaa
open Go.RowKit Go.Shelf

theorem Chain.nil : Chain [] := fun i h => by simp at h
theorem Chain.snoc {bs : List (List Int)} {r : List Int} (h : Chain bs) (hr : r = [] ∨ ∃ b : Int, r = [b] ∧ 0 ≤ b ∧ b < bs.length) : Chain (bs ++ [r]) := fun i hi => by
  by_cases hlt : i < bs.length
  · rw [List.getElem_append_left hlt]
    exact h i hlt
  · have e : i = bs.length := by simp at hi; omega
    subst e
    simpa using hr
theorem Chain.short {bs : List (List Int)} (h : Chain bs) : ∀ r ∈ bs, r.length ≤ 100 := fun r hr => by
  obtain ⟨i, hi, rfl⟩ := List.getElem_of_mem hr
  rcases h i hi with e | ⟨b, e, _⟩ <;> rw [e] <;> simp
theorem one_own (w : World) (t : TypeId) (x : Int) : OwnI t (w.alloc (.cells #[.int .i64 x] t)) (.slice (some ⟨w.heap.size, 0, none⟩) 1 1) [x] := Own.made w #[.int .i64 x] 1 (by omega) rfl
theorem NewI.one (w : World) (t : TypeId) (x : Int) : NewI t w (w.alloc (.cells #[.int .i64 x] t)) (.slice (some ⟨w.heap.size, 0, none⟩) 1 1) [x] := ⟨one_own w t x, fun b e => (by simp [Value.ownBlock] at e; omega), (Below.refl _ _).alloc (Nat.le_refl _) _⟩

set_option maxRecDepth 100000 in
set_option maxHeartbeats 8000000 in
theorem chains_walk (A : Option Addr) (n c : Nat) (xs : List Int) (w : World) (hA : RdI w A n c xs) :
    Calls Try.prog 12 #[.slice A n c] w fun e w' => e = .returned (.bool true) ∧ Below w.heap.size w w' := by
  have HA := Lib.hid hA
  have hn9 := hA.le
  have hln := hA.1
  clear hA
  go_enter Try.func12, Try.ntmps12
  go_wp2_with fail
  (with_reducible refine (shown_any _).mono ?_)
  rintro e w1 ⟨rfl, hb1⟩
  have HB1 := Lib.hid hb1
  have H0 := Lib.hid (NewRows.empty 3 40 w1)
  clear hb1
  go_wp2_with fail
  go_loopw [4, 5] (fun v4 j wr => ∃ (i : Nat) (os : List SlI), i ≤ n ∧ i ≤ 20 ∧ j = .int .i64 i ∧ NewRows 3 40 w1 wr v4 os ∧ Hid (Chain (nums os)) ∧ Hid (os.length = i)) (fun _ j _ => n - (intOf j).toNat)
  case atStart => exact ⟨0, [], Nat.zero_le _, Nat.zero_le _, rfl, H0.out, Chain.nil, rfl⟩
  case round =>
    obtain ⟨i, os, hi, hi20, rfl, hnr, hch, hol⟩ := hrel
    have hol' : os.length ≤ 20 := by rw [hol.out]; exact hi20
    by_cases hlt : i < n ∧ i < 20
    · obtain ⟨hlt, hlt20⟩ := hlt
      obtain ⟨b, o, rfl, hb, h0⟩ := (HA.out.new (HB1.out.trans (hnr.r.bel.mono HB1.out.size))).at_ hlt
      generalize xs[i]'_ = x at *
      have HNR := Lib.hid hnr
      have hbl := hnr.r.bel.size
      clear hnr
      by_cases hneg : x < 0 ∨ i = 0
      · have hb2 : Below wr.heap.size wr (wr.alloc (.cells #[.slice none 0 0] 40)) := (by repeat (first | exact Below.refl _ _ | assumption | refine Below.setCell ?_ (by first | (simp; done) | (simp; omega) | omega) _ | refine below_drewN ?_ _ | refine Below.drew ?_ | refine Below.alloc ?_ (by first | (simp; done) | (simp; omega) | omega) _))
        have HO := Lib.hid (HNR.out.below hb2)
        have HB2 := Lib.hid hb2
        clear hb2
        rcases hneg with hneg | hneg
        · go_wp2_with (at_builtin; refine wpList_appendRN _ rfl (.tmp 31) (.tmp 32) rfl u4 os rfl HO.out.r.own (some ⟨wr.heap.size, 0, none⟩) 1 1 [.none_] rfl (one_rdR wr 40 .none_) (by omega) ?_; intro v6 w6 hv6 hg6 ha6; have h16 := NewRows.push (by decide) HNR.out HB2.out (s := .none_) (Own.nil_ _ _ _) (fun b e => by cases e) hv6 hg6 ha6; have H16 := Lib.hid h16; clear hv6 hg6 ha6 h16)
          go_roundw
          case rel => exact ⟨i + 1, os ++ [.none_], by omega, by omega, by go_num, H16.out, by unfold Hid; rw [nums_append]; exact hch.out.snoc (.inl rfl), by unfold Hid; rw [List.length_append, hol.out]; rfl⟩
          case measure => simp [intOf]; omega
        · subst hneg
          have h0' : wr.cell? ⟨b, o, none⟩ = some (.int .i64 x) := h0
          rw [show ((0 : Nat) : Int) = 0 from rfl]
          by_cases hx0 : x < 0
          all_goals
            go_wp2_with (at_builtin; refine wpList_appendRN _ rfl (.tmp 31) (.tmp 32) rfl u4 os rfl HO.out.r.own (some ⟨wr.heap.size, 0, none⟩) 1 1 [.none_] rfl (one_rdR wr 40 .none_) (by omega) ?_; intro v6 w6 hv6 hg6 ha6; have h16 := NewRows.push (by decide) HNR.out HB2.out (s := .none_) (Own.nil_ _ _ _) (fun b e => by cases e) hv6 hg6 ha6; have H16 := Lib.hid h16; clear hv6 hg6 ha6 h16)
            go_roundw
            case rel => exact ⟨1, os ++ [.none_], by omega, by omega, by go_num, H16.out, by unfold Hid; rw [nums_append]; exact hch.out.snoc (.inl rfl), by unfold Hid; rw [List.length_append, hol.out]; rfl⟩
            case measure => simp [intOf]; omega
      · obtain ⟨hneg, hi0⟩ := not_or.1 hneg
        have hipos : 0 < i := by omega
        obtain ⟨a, ha, hxa⟩ : ∃ a : Nat, a ≤ 65535 ∧ bits BinOp.and IntKind.i64 x 65535 = (a : Int) := and_small x 65535 (by decide)
        obtain ⟨p, hp, hap⟩ : ∃ p : Nat, p < i ∧ (a : Int) % (i : Int) = (p : Int) := ⟨a % i, Nat.mod_lt a hipos, by rw [Int.natCast_emod]⟩
        have HAP := Lib.hid hap
        clear hap
        have hi0b : ((i : Int) == 0) = false := by simp; omega
        have hb2 : Below wr.heap.size wr ((wr.alloc (.cells #[.int .i64 ((a : Int) % (i : Int))] 3)).alloc (.cells #[.slice (some ⟨wr.heap.size, 0, none⟩) 1 1] 40)) := (by repeat (first | exact Below.refl _ _ | assumption | refine Below.setCell ?_ (by first | (simp; done) | (simp; omega) | omega) _ | refine below_drewN ?_ _ | refine Below.drew ?_ | refine Below.alloc ?_ (by first | (simp; done) | (simp; omega) | omega) _))
        have hbs : Below (wr.alloc (.cells #[.int .i64 ((a : Int) % (i : Int))] 3)).heap.size (wr.alloc (.cells #[.int .i64 ((a : Int) % (i : Int))] 3)) ((wr.alloc (.cells #[.int .i64 ((a : Int) % (i : Int))] 3)).alloc (.cells #[.slice (some ⟨wr.heap.size, 0, none⟩) 1 1] 40)) := (by repeat (first | exact Below.refl _ _ | assumption | refine Below.setCell ?_ (by first | (simp; done) | (simp; omega) | omega) _ | refine below_drewN ?_ _ | refine Below.drew ?_ | refine Below.alloc ?_ (by first | (simp; done) | (simp; omega) | omega) _))
        have HO := Lib.hid (HNR.out.below hb2)
        have HB2 := Lib.hid hb2
        have HS := Lib.hid (Own.new (one_own wr 3 ((a : Int) % (i : Int))) hbs)
        clear hb2 hbs
        go_wp2_with (at_builtin; refine wpList_appendRN _ rfl (.tmp 34) (.tmp 43) rfl u4 os rfl HO.out.r.own (some ⟨wr.heap.size + 1, 0, none⟩) 1 1 [⟨some ⟨wr.heap.size, 0, none⟩, 1, 1, [(a : Int) % (i : Int)]⟩] rfl (rowR _ 40 _ 1 [⟨some ⟨wr.heap.size, 0, none⟩, 1, 1, [(a : Int) % (i : Int)]⟩] _ (by simp) rfl rfl (by omega)) (by omega) ?_; intro v6 w6 hv6 hg6 ha6; have h16 := NewRows.push (by decide) HNR.out HB2.out (s := ⟨some ⟨wr.heap.size, 0, none⟩, 1, 1, [(a : Int) % (i : Int)]⟩) HS.out (fun b e => by simp [SlI.v, Value.ownBlock] at e; omega) hv6 hg6 ha6; have H16 := Lib.hid h16; clear hv6 hg6 ha6 h16)
        go_roundw
        case rel => exact ⟨i + 1, _, by omega, by omega, by go_num, H16.out, by unfold Hid; rw [nums_append]; exact hch.out.snoc (.inr ⟨(a : Int) % (i : Int), rfl, by rw [HAP.out]; omega, by rw [HAP.out, nums_length, hol.out]; omega⟩), by unfold Hid; rw [List.length_append, hol.out]; rfl⟩
        case measure => simp [intOf]; omega
    · have hnlt : ¬ i < n ∨ (i < n ∧ i = 20) := by omega
      obtain ⟨A2, c2, rfl, hr2, _⟩ := OwnR.rdL hnr.r.own
      have hHR := hr2
      have hm2 := all_of A2 os.length c2 os wr _ rfl hr2 hnr.i.ok (by omega) hch.out.short
      obtain ⟨os', hall, hlen, hit⟩ := all_chain hch.out
      have hshort := all_short hall (by rw [nums_length]; omega)
      rw [hall] at hm2
      have HM2 := Lib.hid hm2
      have HB2 := Lib.hid (HB1.out.trans (hnr.r.bel.mono HB1.out.size))
      have HR2 := Lib.hid hr2
      have HK2 := Lib.hid hnr.i.ok
      have HIT := Lib.hid hit
      have HSH := Lib.hid hshort
      have hlo : os'.length = os.length := by rw [hlen, nums_length]
      have HLO := Lib.hid hlo
      clear hHR hm2 hall hlen hit hshort hnr hr2 hlo hol
      generalize hN : os.length = N at *
      have HN := Lib.hid hN
      clear hN
      rcases hnlt with hnlt | ⟨hnlt, h20⟩
      all_goals
        first
          | skip
        go_wp2_with fail
        (with_reducible refine HM2.out.mono ?_)
        rintro e w3 ⟨A3, n3, c3, o3, rfl, hr3, hk3, hu3, hb3⟩
        have hu3 : nums o3 = os' := hu3
        have hn3 : n3 = N := by rw [← hr3.1, ← nums_length, hu3, HLO.out]
        obtain rfl : N = n3 := hn3.symm
        have HB3 := Lib.hid (HB2.out.trans (hb3.mono HB2.out.size))
        have HR3 := Lib.hid hr3
        have HK3 := Lib.hid hk3
        have HU3 := Lib.hid hu3
        have HR2 := Lib.hid (HR2.out.new hb3)
        have HK2 := Lib.hid (HK2.out.new hb3)
        clear hr3 hk3 hu3 hb3 HM2 HB2
        simp only [Option.isSome_some]
        go_wp2_with fail
        go_loopw [8] (fun j wr => ∃ i : Nat, i ≤ N ∧ j = .int .i64 i ∧ Below w3.heap.size w3 wr) (fun j _ => N - (intOf j).toNat)
        case atStart => exact ⟨0, Nat.zero_le _, rfl, Below.refl _ _⟩
        case round =>
          obtain ⟨i, hi, rfl, hbr⟩ := hrel
          obtain ⟨W, rfl⟩ : ∃ W : World, W = wr := ⟨_, rfl⟩
          by_cases hlti : i < N
          · have hN1 := NewI.one W 2 (i : Int)
            have hr2 := HR2.out.new hbr
            have hk2 := HK2.out.new hbr
            have hr3 := HR3.out.new hbr
            have hk3 := HK3.out.new hbr
            obtain ⟨b2, o2', Ar, nr, cr, xr, rfl, hb2, g2W, gx2, gk2⟩ := row_of hr2 hk2 rfl hlti
            obtain ⟨b3, o3', Aa, na, ca, oi, rfl, hb3, g3W, gx3, gk3⟩ := row_of hr3 hk3 HU3.out hlti
            have hnl : i < (nums os).length := by rw [nums_length, HN.out]; exact hlti
            have hri : (nums os)[i] = xr := by
              rw [List.getElem?_eq_getElem hnl] at gk2
              exact Option.some.inj gk2
            have hit := HIT.out i hnl
            rw [hri, List.getD_eq_getElem?_getD, gk3, Option.getD_some] at hit
            have hch' := hch.out i hnl
            rw [hri] at hch'
            have hna : na ≤ 101 := by rw [← gx3.1]; exact HSH.out.2 oi (List.mem_of_getElem? gk3)
            have g2 : (W.alloc (.cells #[.int .i64 (i : Int)] 2)).cell? ⟨b2, o2' + i, none⟩ = some (.slice Ar nr cr) := (hN1.bel.cell (p := ⟨b2, o2' + i, none⟩) hb2).trans g2W
            have g3 : (W.alloc (.cells #[.int .i64 (i : Int)] 2)).cell? ⟨b3, o3' + i, none⟩ = some (.slice Aa na ca) := (hN1.bel.cell (p := ⟨b3, o3' + i, none⟩) hb3).trans g3W
            have HG3 := Lib.hid g3W
            have HN1 := Lib.hid hN1
            have HGA := Lib.hid gx3
            have hlr := gx2.1
            have HBR := Lib.hid hbr
            rcases hch' with rfl | ⟨b, rfl, hb0, hbi⟩
            · obtain rfl : nr = 0 := hlr.symm
              have hoi : oi = [(i : Int)] := hit
              subst hoi
              clear hr2 hk2 hr3 hk3 gx2 gk2 gx3 gk3 hri hit hbr hN1 hnl g2W g3W
              go_wp2_with fail
              (with_reducible refine (wide_any Aa na ca _ _ (HGA.out.new HN1.out.bel) (by omega)).mono ?_)
              rintro e w5 ⟨v5, rfl, h5⟩
              obtain ⟨A5, n5, c5, rfl, hr5, _⟩ := OwnI.rd h5.own
              have HR5 := Lib.hid hr5
              have hn5 := HN1.out.below h5.bel
              have HB5 := Lib.hid (HBR.out.trans (hn5.bel.mono HBR.out.size))
              obtain ⟨_, _, ew, hrw, _⟩ := OwnI.rdL hn5.own
              cases ew
              have HRW := Lib.hid hrw
              clear h5 hr5 hrw hn5
              go_wp2_with fail
              (with_reducible refine (same_is A5 _ n5 c5 1 1 _ [(i : Int)] _ true HR5.out HRW.out (sameI_self _)).mono ?_)
              rintro e w6 ⟨rfl, q, rfl⟩
              go_wp2_with fail
              go_roundw
              case rel => exact ⟨i + 1, by omega, by go_num, below_drewN HB5.out q⟩
              case measure => simp [intOf]; omega
            · obtain rfl : nr = 1 := hlr.symm
              obtain ⟨bn, rfl⟩ := Int.eq_ofNat_of_zero_le hb0
              have hbn : bn < N := by omega
              obtain ⟨br, or_, rfl, hbr', hx2W⟩ := gx2.at_ (show 0 < 1 by omega)
              have hx2 : (W.alloc (.cells #[.int .i64 (i : Int)] 2)).cell? ⟨br, or_, none⟩ = some (.int .i64 (bn : Int)) := (hN1.bel.cell (p := ⟨br, or_, none⟩) hbr').trans hx2W
              obtain ⟨_, _, Ab, nb, cb, ob, e3, hb3b, g3bW, gx3b, gk3b⟩ := row_of hr3 hk3 HU3.out hbn
              cases e3
              have g3b : (W.alloc (.cells #[.int .i64 (i : Int)] 2)).cell? ⟨b3, o3' + bn, none⟩ = some (.slice Ab nb cb) := (hN1.bel.cell (p := ⟨b3, o3' + bn, none⟩) hb3).trans g3bW
              have hoi : oi = (i : Int) :: ob := by
                rw [hit]
                show (i : Int) :: os'.getD (Int.toNat (bn : Int)) [] = _
                rw [Int.toNat_natCast, List.getD_eq_getElem?_getD, gk3b, Option.getD_some]
              subst hoi
              have hnb : nb ≤ 101 := by rw [← gx3b.1]; exact HSH.out.2 ob (List.mem_of_getElem? gk3b)
              have HGB := Lib.hid gx3b
              have hobl := gx3b.1
              have HOBL : ob.length ≤ 101 := by omega
              have hbnN : (bn : Int) < (N : Int) := by omega
              clear hr2 hk2 hr3 hk3 gx2 gk2 gx3 gk3 hri hit hbr hN1 hnl gx3b gk3b g2W g3W g3bW hx2W
              go_wp2_with fail
              (with_reducible refine (wide_any Ab nb cb _ _ (HGB.out.new HN1.out.bel) (by omega)).mono ?_)
              rintro e w5 ⟨v5, rfl, h5⟩
              obtain ⟨A5, n5, c5, rfl, hr5, _⟩ := OwnI.rd h5.own
              have hn5 : n5 ≤ 101 := by rw [← hr5.1]; exact HOBL
              have HN5 := Lib.hid (HN1.out.below h5.bel)
              have HR5 := Lib.hid hr5
              clear h5 hr5
              go_wp2_with (at_builtin; refine wpList_appendI _ rfl (.tmp 73) (.tmp 83) rfl (.slice (some ⟨W.heap.size, 0, none⟩) 1 1) [(i : Int)] rfl HN5.out.own A5 n5 c5 ob rfl HR5.out (by simp only [List.length_cons, List.length_nil]; omega) ?_; intro v6 w6 hv6 hg6 ha6; have h16 := HN5.out.app hv6 hg6 ha6; obtain ⟨A6, n6, c6, rfl, hr6, _⟩ := OwnI.rd h16.own; have HN6 := Lib.hid h16; have g6 : w6.cell? ⟨b3, o3' + i, none⟩ = some (.slice Aa na ca) := (h16.bel.cell (p := ⟨b3, o3' + i, none⟩) hb3).trans HG3.out; have HR6 := Lib.hid hr6; clear hv6 ha6 h16 hr6 hg6)
              (with_reducible refine (wide_any Aa na ca _ _ (HGA.out.new HN6.out.bel) (by omega)).mono ?_)
              rintro e w7 ⟨v7, rfl, h7⟩
              obtain ⟨A7, n7, c7, rfl, hr7, _⟩ := OwnI.rd h7.own
              have HR7 := Lib.hid hr7
              have HR67 := Lib.hid (HR6.out.new h7.bel)
              have HB7 := Lib.hid (HBR.out.trans ((HN6.out.below h7.bel).bel.mono HBR.out.size))
              clear h7 hr7
              go_wp2_with fail
              (with_reducible refine (same_is A7 A6 n7 c7 n6 c6 _ _ _ true HR7.out HR67.out (sameI_self _)).mono ?_)
              rintro e w8 ⟨rfl, q, rfl⟩
              go_wp2_with fail
              go_roundw
              case rel => exact ⟨i + 1, by omega, by go_num, below_drewN HB7.out q⟩
              case measure => simp [intOf]; omega
          · have HBR := Lib.hid hbr
            go_wp2_with fail
            go_ret
            exact ⟨rfl, HB3.out.trans (HBR.out.mono HB3.out.size)⟩
end Go.Proofs.Ytbfjkjkanckcjaa
