/- LinearClasses: the walk. -/
import Derived.Test.YtbfjkjkanckcjaaRgt
import Derived.Test.YtbfjkjkanckcjaaLin3
import Derived.Test.YtbfjkjkanckcjaaLKee
import Derived.Deep.DeepCutAuto
namespace Go.Proofs.Ytbfjkjkanckcjaa
open Go.RowKit Go.Shelf

theorem keep_is {l row : List Int} (h : row.Sublist l) : keepI l row = true := keepI_iff.2 h

set_option maxRecDepth 100000 in
set_option maxHeartbeats 16000000 in
theorem classes_walk (A : Option Addr) (n c : Nat) (rs : List SlI) (w : World) (hR : RdR w A n c rs) (hok : AllOk w rs) :
    Calls Try.prog 11 #[.slice A n c] w fun e w' => e = .returned (.bool true) ∧ Below w.heap.size w w' := by
  have HR := Lib.hid hR
  have HOK := Lib.hid hok
  clear hR hok
  go_enter Try.func11, Try.ntmps11
  go_wp2_with fail
  (with_reducible refine (shown_any _).mono ?_)
  rintro e w1 ⟨rfl, hb1⟩
  have HB1 := Lib.hid hb1
  have HC1 := Lib.hid (right_any A n c rs w1 (HR.out.new hb1) (HOK.out.new hb1))
  clear hb1
  go_wp2_with fail
  (with_reducible refine HC1.out.mono ?_)
  rintro e w2 ⟨A3, N, c3, os, rfl, hgs, hN, _⟩
  obtain ⟨_, _, _, e, hr2, _⟩ := OwnR.rd hgs.r.r.own
  cases e
  have hk2 := hgs.r.i.ok
  have hsh : ∀ r ∈ nums os, r.length ≤ 100 := fun r hr => by
    obtain ⟨s, hs, rfl⟩ := List.mem_map.1 hr
    have h1 := (hk2 s hs).1
    have h2 := hgs.s s hs
    omega
  have HM2 := Lib.hid (all_of A3 N c3 os w2 _ rfl hr2 hk2 (by omega) hsh)
  have HB2 := Lib.hid (HB1.out.trans (hgs.r.r.bel.mono HB1.out.size))
  have HOL := Lib.hid hgs.l
  have HSM := Lib.hid hgs.s
  have HR2 := Lib.hid hr2
  have HK2 := Lib.hid hk2
  clear hgs HC1 HB1 HR HOK hr2 hk2 hsh
  go_wp2_with fail
  (with_reducible refine HM2.out.mono ?_)
  rintro e w3 ⟨A4, n4, c4, o4, rfl, hr4, hk4, hu4, hb4⟩
  have HB3 := Lib.hid (HB2.out.trans (hb4.mono HB2.out.size))
  have HR2 := Lib.hid (HR2.out.new hb4)
  have HK2 := Lib.hid (HK2.out.new hb4)
  clear hb4 HM2 HB2
  cases hall : Lin.all (nums os) with
  | none =>
    rw [hall] at hu4
    have hn4 : n4 = 0 := by rw [← hr4.1, ← nums_length, hu4]; rfl
    subst hn4
    simp only [Option.isSome_none]
    clear hr4 hk4 hu4 hall
    go_wp2_with fail
    go_ret
    exact ⟨rfl, HB3.out⟩
  | some os' =>
    rw [hall] at hu4
    have hu4 : nums o4 = os' := hu4
    have hlen := (all_spec hall).1
    have hn4 : n4 = N := by rw [← hr4.1, ← nums_length, hu4, hlen, nums_length, HOL.out]
    obtain rfl : N = n4 := hn4.symm
    have hshort := all_short hall (by rw [nums_length, HOL.out]; omega)
    have HBASE := Lib.hid (fun (i : Nat) (hi : i < (nums os).length) => all_bases hall hi)
    have HR4 := Lib.hid hr4
    have HK4 := Lib.hid hk4
    have HU4 := Lib.hid hu4
    have HSH := Lib.hid hshort
    simp only [Option.isSome_some]
    clear hr4 hk4 hu4 hlen hshort hall
    go_wp2_with fail
    go_loopw [7] (fun j wr => ∃ i : Nat, i ≤ N ∧ j = .int .i64 i ∧ Below w3.heap.size w3 wr) (fun j _ => N - (intOf j).toNat)
    case atStart => exact ⟨0, Nat.zero_le _, rfl, Below.refl _ _⟩
    case round =>
      obtain ⟨i, hi, rfl, hbr⟩ := hrel
      obtain ⟨W, rfl⟩ : ∃ W : World, W = wr := ⟨_, rfl⟩
      by_cases hlti : i < N
      · have HR4W := Lib.hid (HR4.out.new hbr)
        have HK4W := Lib.hid (HK4.out.new hbr)
        have HR2W := Lib.hid (HR2.out.new hbr)
        have HK2W := Lib.hid (HK2.out.new hbr)
        obtain ⟨b4, q4, Aa, na, ca, oi, rfl, hb4, g4, gx4, gk4⟩ := row_of HR4W.out HK4W.out HU4.out hlti
        obtain ⟨b3, q3, Al, nl, cl, xl, rfl, hb3, g3, gx3, gk3⟩ := row_of HR2W.out HK2W.out rfl hlti
        have hna : na ≤ 101 := by rw [← gx4.1]; exact HSH.out.2 oi (List.mem_of_getElem? gk4)
        have hnl : nl ≤ 6 := by
          have hx : i < os.length := by rw [HOL.out]; exact hlti
          have h1 := HSM.out os[i] (List.getElem_mem hx)
          have h2 : os[i].xs = xl := by
            have : (nums os)[i]? = some os[i].xs := by simp [nums, hx]
            rw [gk3] at this
            exact (Option.some.inj this).symm
          have h3 := (HK2W.out os[i] (List.getElem_mem hx)).1
          rw [h2, gx3.1] at h3
          omega
        have hil : i < (nums os).length := by rw [nums_length, HOL.out]; exact hlti
        have hxl : (nums os)[i] = xl := by
          rw [List.getElem?_eq_getElem hil] at gk3
          exact Option.some.inj gk3
        have hb := HBASE.out i hil
        have ho : os'.getD i [] = oi := by rw [List.getD_eq_getElem?_getD, gk4, Option.getD_some]
        rw [hxl, ho] at hb
        obtain ⟨hh, hsub, hbs, hfr⟩ := hb
        obtain ⟨t, rfl⟩ : ∃ t, oi = (i : Int) :: t := by
          cases oi with
          | nil => cases hh
          | cons a t => injection hh with hh; exact ⟨t, by rw [hh]⟩
        have hsub : xl.Sublist t := hsub
        have hbs : ∀ b ∈ xl, 0 ≤ b ∧ b < (i : Int) ∧ (os'.getD b.toNat []).Sublist t := hbs
        have hfr : ∀ x ∈ t, x < (i : Int) ∧ ∃ b ∈ xl, x ∈ os'.getD b.toNat [] := hfr
        have hlx := gx3.1
        have HGA := Lib.hid gx4
        have HGL := Lib.hid gx3
        have HG3 := Lib.hid g3
        have HKB := Lib.hid (keep_is hsub)
        have HBS := Lib.hid hbs
        have HFR := Lib.hid hfr
        have HBR := Lib.hid hbr
        clear hil hxl hh hsub hbs hfr ho gk3 gk4 gx3 gx4 hbr
        go_wp2_with fail
        (with_reducible refine (wide_any Aa na ca _ _ HGA.out (by omega)).mono ?_)
        rintro e w5 ⟨v5, rfl, h5⟩
        obtain ⟨Ao, no, co, rfl, hro, _⟩ := OwnI.rd h5.own
        have hno := hro.1
        have hno1 : 1 ≤ no := by rw [← hno]; simp
        have hno9 : no ≤ 101 := by rw [← hno]; have := HGA.out.1; omega
        have hnoc := hro.2.1
        have hco9 := hro.2.2.1
        obtain ⟨bo, oo, rfl, hbo, ho1⟩ := hro.at_ (show 0 < no by omega)
        have ho0 : w5.cell? ⟨bo, oo, none⟩ = some (.int .i64 (i : Int)) := ho1
        clear ho1
        obtain ⟨A7, hA7⟩ : ∃ A7, (if co = 1 then some (⟨bo, oo, none⟩ : Addr) else some ⟨bo, oo + 1, none⟩) = A7 := ⟨_, rfl⟩
        have htl : RdI w5 A7 (no - 1) (co - 1) t := by
          have h := hro.hi (k := 1) hno1 (A' := A7) (fun h => by
            rw [← hA7, if_neg (by omega)]
            simp only [Option.map_some]
            rw [show (1 * 1 : Nat) = 1 from rfl]
            exact congrArg some (by unfold Addr.add; split <;> first | (rename_i e; cases e) | rfl))
          simpa using h
        have g5 : w5.cell? ⟨b3, q3 + i, none⟩ = some (.slice Al nl cl) := (h5.bel.cell (p := ⟨b3, q3 + i, none⟩) hb3).trans HG3.out
        have hb35 : b3 < w5.heap.size := Nat.lt_of_lt_of_le hb3 h5.bel.size
        have HTL := Lib.hid htl
        have HRO := Lib.hid hro
        have HB5 := Lib.hid h5.bel
        have HA7 := Lib.hid hA7
        have HGL5 := Lib.hid (HGL.out.new h5.bel)
        have HO0 := Lib.hid ho0
        have HG5 := Lib.hid g5
        have hz : ((no : Int) == 0) = false := by simp; omega
        have j0 : (1 : Int) ≤ (no : Int) := by omega
        have j1 : (0 : Int) < (no : Int) := by omega
        have j2 : 0 < no := by omega
        have i2 : (0 : Int) ≤ (i : Int) := by omega
        have i3 : (i : Int) < (N : Int) := by omega
        have hbol : bo < w5.heap.size := hbo
        have hii : ((i : Int) != (i : Int)) = false := by simp
        clear h5 hro htl
        go_wp2_with fail
        go_region_held3 (fun w' => w'.cell? ⟨bo, oo, none⟩ = some (.int .i64 (i : Int)) ∧ w'.cell? ⟨b3, q3 + i, none⟩ = some (.slice Al nl cl)) (first | exact HKA.out | exact HKB2.out _ | go_keep)
          (first
            | (go_at_call 24; refine (wide_any Al nl cl xl _ (by exact HGL5.out.new (by repeat (first | exact Below.refl _ _ | assumption | refine Below.setCell ?_ (by first | (simp; done) | (simp; omega) | omega) _ | refine below_drewN ?_ _ | refine Below.drew ?_ | refine Below.alloc ?_ (by first | (simp; done) | (simp; omega) | omega) _))) (by omega)).mono ?_; rintro e wa ⟨va, rfl, hva⟩; obtain ⟨A8, n8, c8, rfl, hr8, _⟩ := OwnI.rd hva.own; have hb8 : Below w5.heap.size w5 wa := (show Below w5.heap.size w5 w5.drew from (by repeat (first | exact Below.refl _ _ | assumption | refine Below.setCell ?_ (by first | (simp; done) | (simp; omega) | omega) _ | refine below_drewN ?_ _ | refine Below.drew ?_ | refine Below.alloc ?_ (by first | (simp; done) | (simp; omega) | omega) _))).trans (hva.bel.mono (by simp)); have HKA := Lib.hid (And.intro ((hb8.cell (p := ⟨bo, oo, none⟩) hbol).trans HO0.out) ((hb8.cell (p := ⟨b3, q3 + i, none⟩) hb35).trans HG5.out)); have HKB2 := Lib.hid (fun q => show (wa.drewN q).cell? ⟨bo, oo, none⟩ = some (.int .i64 (i : Int)) ∧ (wa.drewN q).cell? ⟨b3, q3 + i, none⟩ = some (.slice Al nl cl) from HKA.out); have HR8 := Lib.hid hr8; have HB8 := Lib.hid hb8; clear hva hr8 hb8)
            | (go_at_call 25; refine (keeps_is (by exact HTL.out.new HB8.out) (by exact HR8.out) HKB.out).mono ?_; rintro e wb ⟨rfl, q, rfl⟩))
        all_goals
          clear hA7
          go_wp2_with fail
          go_loopw [9] (fun j wr => ∃ k : Nat, k ≤ nl ∧ j = .int .i64 k ∧ Below w5.heap.size w5 wr) (fun j _ => nl - (intOf j).toNat)
          case atStart => exact ⟨0, Nat.zero_le _, rfl, below_drewN HB8.out _⟩
          case round =>
            obtain ⟨k, hk, rfl, hbw⟩ := hrel
            by_cases hltk : k < nl
            · have hkx : k < xl.length := by omega
              have hbk := HBS.out xl[k] (List.getElem_mem hkx)
              obtain ⟨bl, ol, rfl, hbl, glk5⟩ := HGL5.out.at_ hltk
              generalize xl[k] = bz at *
              obtain ⟨hz0, hzi, hzs⟩ := hbk
              obtain ⟨bn, rfl⟩ := Int.eq_ofNat_of_zero_le hz0
              have hbn : bn < N := by omega
              have hbni : bn < i := by omega
              obtain ⟨_, _, Ab, nb, cb, ob, e4, _, gabW, gxb, gkb⟩ := row_of HR4W.out HK4W.out HU4.out hbn
              cases e4
              have hob : os'.getD (Int.toNat (bn : Int)) [] = ob := by rw [Int.toNat_natCast, List.getD_eq_getElem?_getD, gkb, Option.getD_some]
              rw [hob] at hzs
              have hnb : nb ≤ 101 := by rw [← gxb.1]; exact HSH.out.2 ob (List.mem_of_getElem? gkb)
              have hbel : Below W.heap.size W wr := HB5.out.trans (hbw.mono HB5.out.size)
              have g3r : wr.cell? ⟨b3, q3 + i, none⟩ = some (.slice (some ⟨bl, ol, none⟩) nl cl) := (hbw.cell (p := ⟨b3, q3 + i, none⟩) hb35).trans HG5.out
              have glk : wr.cell? ⟨bl, ol + k, none⟩ = some (.int .i64 (bn : Int)) := (hbw.cell (p := ⟨bl, ol + k, none⟩) hbl).trans glk5
              have gab : wr.cell? ⟨b4, q4 + bn, none⟩ = some (.slice Ab nb cb) := (hbel.cell (p := ⟨b4, q4 + bn, none⟩) hb4).trans gabW
              have hb3r : b3 < wr.heap.size := Nat.lt_of_lt_of_le hb35 hbw.size
              have hblr : bl < wr.heap.size := Nat.lt_of_lt_of_le hbl hbw.size
              have hb4r : b4 < wr.heap.size := Nat.lt_of_lt_of_le hb4 hbel.size
              have HGB := Lib.hid (gxb.new hbel)
              have k0 : (0 : Int) ≤ (k : Int) := by omega
              have k1 : (k : Int) < (nl : Int) := by omega
              have k2 : (0 : Int) ≤ (bn : Int) := by omega
              have k3 : (bn : Int) < (N : Int) := by omega
              have k4 : ¬ (i : Int) ≤ (bn : Int) := by omega
              have k5 : decide (i ≤ bn) = false := by simp; omega
              have HBW := Lib.hid hbw
              have HK2' := Lib.hid (keep_is hzs)
              have HTLr := Lib.hid (HTL.out.new hbw)
              clear gxb gkb hob hzs hbel hbw hbl glk5 gabW hzi hz0
              have hA7 := HA7.out
              go_wp2_with fail
              go_region_held3 (fun w' => w'.cell? ⟨b3, q3 + i, none⟩ = some (.slice (some ⟨bl, ol, none⟩) nl cl) ∧ w'.cell? ⟨bl, ol + k, none⟩ = some (.int .i64 (bn : Int)) ∧ w'.cell? ⟨b4, q4 + bn, none⟩ = some (.slice Ab nb cb)) (first | exact HKA.out | exact HKB2.out _ | go_keep)
                (first
                  | (go_at_call 24; refine (wide_any Ab nb cb ob _ (by exact HGB.out.new (by repeat (first | exact Below.refl _ _ | assumption | refine Below.setCell ?_ (by first | (simp; done) | (simp; omega) | omega) _ | refine below_drewN ?_ _ | refine Below.drew ?_ | refine Below.alloc ?_ (by first | (simp; done) | (simp; omega) | omega) _))) (by omega)).mono ?_; rintro e wa ⟨va, rfl, hva⟩; obtain ⟨A8, n8, c8, rfl, hr8, _⟩ := OwnI.rd hva.own; have hb8 : Below wr.heap.size wr wa := (show Below wr.heap.size wr wr.drew from (by repeat (first | exact Below.refl _ _ | assumption | refine Below.setCell ?_ (by first | (simp; done) | (simp; omega) | omega) _ | refine below_drewN ?_ _ | refine Below.drew ?_ | refine Below.alloc ?_ (by first | (simp; done) | (simp; omega) | omega) _))).trans (hva.bel.mono (by simp)); have HKA := Lib.hid (And.intro ((hb8.cell (p := ⟨b3, q3 + i, none⟩) hb3r).trans g3r) (And.intro ((hb8.cell (p := ⟨bl, ol + k, none⟩) hblr).trans glk) ((hb8.cell (p := ⟨b4, q4 + bn, none⟩) hb4r).trans gab))); have HKB2 := Lib.hid (fun q => show (wa.drewN q).cell? ⟨b3, q3 + i, none⟩ = some (.slice (some ⟨bl, ol, none⟩) nl cl) ∧ (wa.drewN q).cell? ⟨bl, ol + k, none⟩ = some (.int .i64 (bn : Int)) ∧ (wa.drewN q).cell? ⟨b4, q4 + bn, none⟩ = some (.slice Ab nb cb) from HKA.out); have HR8 := Lib.hid hr8; have HB8 := Lib.hid hb8; clear hva hr8 hb8)
                  | (go_at_call 25; refine (keeps_is (by exact HTLr.out.new HB8.out) (by exact HR8.out) HK2'.out).mono ?_; rintro e wb ⟨rfl, q, rfl⟩))
              all_goals
                clear hA7
                go_wp2_with fail
                go_roundw
                case rel => exact ⟨k + 1, by omega, by go_num, HBW.out.trans ((below_drewN HB8.out _).mono HBW.out.size)⟩
                case measure => simp [intOf]; omega
            · have g3e : wr.cell? ⟨b3, q3 + i, none⟩ = some (.slice Al nl cl) := (hbw.cell (p := ⟨b3, q3 + i, none⟩) hb35).trans HG5.out
              have HBW := Lib.hid hbw
              clear hbw
              go_wp2_with fail
              go_loopw [10] (fun j wr => ∃ m : Nat, 1 ≤ m ∧ m ≤ no ∧ j = .int .i64 m ∧ Below w5.heap.size w5 wr) (fun j _ => no - (intOf j).toNat)
              case atStart => exact ⟨1, Nat.le_refl _, hno1, rfl, HBW.out⟩
              case round =>
                obtain ⟨m, hm1, hm, rfl, hbm⟩ := hrel
                by_cases hltm : m < no
                · have hone := (HRO.out.new hbm).one hltm
                  obtain ⟨_, _, e, _, gmx⟩ := (HRO.out.new hbm).at_ hltm
                  cases e
                  have gm0 : wr.cell? ⟨bo, oo, none⟩ = some (.int .i64 (i : Int)) := (hbm.cell (p := ⟨bo, oo, none⟩) hbol).trans HO0.out
                  have hxt : ((i : Int) :: t)[m]'(by rw [hno]; exact hltm) ∈ t := by
                    obtain ⟨m', rfl⟩ : ∃ m', m = m' + 1 := ⟨m - 1, by omega⟩
                    rw [List.getElem_cons_succ]
                    exact List.getElem_mem _
                  obtain ⟨hxi, hxb⟩ := HFR.out _ hxt
                  generalize ((i : Int) :: t)[m]'_ = x at *
                  have hany : xl.any (fun b : Int => hasI (os'.getD b.toNat []) x) = true := by
                    obtain ⟨b, h1, h2⟩ := hxb
                    exact List.any_eq_true.2 ⟨b, h1, hasI_iff.2 h2⟩
                  have HANYT := Lib.hid hany
                  have HONE := Lib.hid hone
                  have HBM := Lib.hid hbm
                  have hcm : co ≠ m := by omega
                  have hcm2 : m + 1 ≤ co := by omega
                  clear hone hxb hany hbm hxt
                  go_wp2_with fail
                  obtain ⟨Wm, rfl⟩ : ∃ Wm : World, Wm = wr := ⟨_, rfl⟩
                  go_loopw [11, 12] (fun f j wr => ∃ (k : Nat) (fb : Bool), k ≤ nl ∧ j = .int .i64 k ∧ Below Wm.heap.size Wm wr ∧ f = .bool fb ∧ Hid ((xl.take k).any (fun b : Int => hasI (os'.getD b.toNat []) x) = fb)) (fun _ j _ => nl - (intOf j).toNat)
                  case atStart => exact ⟨0, false, Nat.zero_le _, rfl, Below.refl _ _, rfl, rfl⟩
                  case round =>
                    obtain ⟨k, fb, hk, rfl, hbq, rfl, hfb⟩ := hrel
                    have hbw : Below w5.heap.size w5 wr := HBM.out.trans (hbq.mono HBM.out.size)
                    by_cases hltk : k < nl
                    · have hkx : k < xl.length := by omega
                      have hbk := HBS.out xl[k] (List.getElem_mem hkx)
                      obtain ⟨bl, ol, rfl, hbl, glk5⟩ := HGL5.out.at_ hltk
                      have HANY := Lib.hid (any_take_succ (f := fun b : Int => hasI (os'.getD b.toNat []) x) (List.getElem?_eq_getElem hkx))
                      generalize xl[k] = bz at *
                      obtain ⟨hz0, hzi, hzs⟩ := hbk
                      obtain ⟨bn, rfl⟩ := Int.eq_ofNat_of_zero_le hz0
                      have hbn : bn < N := by omega
                      have hbni : bn < i := by omega
                      obtain ⟨_, _, Ab, nb, cb, ob, e4, _, gabW, gxb, gkb⟩ := row_of HR4W.out HK4W.out HU4.out hbn
                      cases e4
                      have hob : os'.getD (Int.toNat (bn : Int)) [] = ob := by rw [Int.toNat_natCast, List.getD_eq_getElem?_getD, gkb, Option.getD_some]
                      rw [hob] at hzs HANY
                      have hnb : nb ≤ 101 := by rw [← gxb.1]; exact HSH.out.2 ob (List.mem_of_getElem? gkb)
                      have hbel : Below W.heap.size W wr := HB5.out.trans (hbw.mono HB5.out.size)
                      have g3r : wr.cell? ⟨b3, q3 + i, none⟩ = some (.slice (some ⟨bl, ol, none⟩) nl cl) := (hbw.cell (p := ⟨b3, q3 + i, none⟩) hb35).trans HG5.out
                      have glk : wr.cell? ⟨bl, ol + k, none⟩ = some (.int .i64 (bn : Int)) := (hbw.cell (p := ⟨bl, ol + k, none⟩) hbl).trans glk5
                      have gab : wr.cell? ⟨b4, q4 + bn, none⟩ = some (.slice Ab nb cb) := (hbel.cell (p := ⟨b4, q4 + bn, none⟩) hb4).trans gabW
                      have hb3r : b3 < wr.heap.size := Nat.lt_of_lt_of_le hb35 hbw.size
                      have hblr : bl < wr.heap.size := Nat.lt_of_lt_of_le hbl hbw.size
                      have hb4r : b4 < wr.heap.size := Nat.lt_of_lt_of_le hb4 hbel.size
                      have HGB := Lib.hid (gxb.new hbel)
                      have k0 : (0 : Int) ≤ (k : Int) := by omega
                      have k1 : (k : Int) < (nl : Int) := by omega
                      have k2 : (0 : Int) ≤ (bn : Int) := by omega
                      have k3 : (bn : Int) < (N : Int) := by omega
                      have HBW := Lib.hid hbw
                      have HONEr := Lib.hid (HONE.out.new hbq)
                      have HBQ := Lib.hid hbq
                      rw [hfb.out] at HANY
                      clear gxb gkb hob hzs hbel hbw hbl glk5 gabW hzi hz0 hbq
                      cases fb
                      · cases hh : hasI ob x
                        all_goals
                          rw [hh] at HANY
                          have HK2' := Lib.hid ((keep_one ob x).trans hh)
                          clear hh
                          have hw1 : IntKind.i64.wrap ((m : Int) + 1) = (m : Int) + 1 := IntWalk.i64_in _ (by omega)
                          have hw2 : ((m : Int) + 1).toNat = m + 1 := by omega
                          have hw3 : (0 : Int) ≤ (m : Int) + 1 := by omega
                          have hw4 : (m : Int) + 1 ≤ (co : Int) := by omega
                          have hw5 : (m : Int) ≤ (m : Int) + 1 := by omega
                          have hw6 : (0 : Int) ≤ (m : Int) := by omega
                          go_wp2_with fail
                          go_region_held3 (fun w' => w'.cell? ⟨b3, q3 + i, none⟩ = some (.slice (some ⟨bl, ol, none⟩) nl cl) ∧ w'.cell? ⟨bl, ol + k, none⟩ = some (.int .i64 (bn : Int)) ∧ w'.cell? ⟨b4, q4 + bn, none⟩ = some (.slice Ab nb cb)) (first | exact HKA.out | exact HKB2.out _ | go_keep)
                          (first
                            | (go_at_call 24; refine (wide_any Ab nb cb ob _ (by exact HGB.out.new (by repeat (first | exact Below.refl _ _ | assumption | refine Below.setCell ?_ (by first | (simp; done) | (simp; omega) | omega) _ | refine below_drewN ?_ _ | refine Below.drew ?_ | refine Below.alloc ?_ (by first | (simp; done) | (simp; omega) | omega) _))) (by omega)).mono ?_; rintro e wa ⟨va, rfl, hva⟩; obtain ⟨A8, n8, c8, rfl, hr8, _⟩ := OwnI.rd hva.own; have hb8 : Below wr.heap.size wr wa := (show Below wr.heap.size wr wr.drew from (by repeat (first | exact Below.refl _ _ | assumption | refine Below.setCell ?_ (by first | (simp; done) | (simp; omega) | omega) _ | refine below_drewN ?_ _ | refine Below.drew ?_ | refine Below.alloc ?_ (by first | (simp; done) | (simp; omega) | omega) _))).trans (hva.bel.mono (by simp)); have HKA := Lib.hid (And.intro ((hb8.cell (p := ⟨b3, q3 + i, none⟩) hb3r).trans g3r) (And.intro ((hb8.cell (p := ⟨bl, ol + k, none⟩) hblr).trans glk) ((hb8.cell (p := ⟨b4, q4 + bn, none⟩) hb4r).trans gab))); have HKB2 := Lib.hid (fun q => show (wa.drewN q).cell? ⟨b3, q3 + i, none⟩ = some (.slice (some ⟨bl, ol, none⟩) nl cl) ∧ (wa.drewN q).cell? ⟨bl, ol + k, none⟩ = some (.int .i64 (bn : Int)) ∧ (wa.drewN q).cell? ⟨b4, q4 + bn, none⟩ = some (.slice Ab nb cb) from HKA.out); have HR8 := Lib.hid hr8; have HB8 := Lib.hid hb8; clear hva hr8 hb8)
                            | (go_at_call 25; refine (keeps_is (by exact HR8.out) (by exact HONEr.out.new HB8.out) HK2'.out).mono ?_; rintro e wb ⟨rfl, q, rfl⟩))
                          all_goals
                            clear hw1 hw2 hw3 hw4 hw5 hw6
                            go_wp2_with fail
                            go_roundw
                            case rel => exact ⟨k + 1, _, by omega, by go_num, HBQ.out.trans ((below_drewN HB8.out _).mono HBQ.out.size), rfl, HANY.out⟩
                            case measure => simp [intOf]; omega
                      · go_wp2_with fail
                        go_quiet (fail)
                        go_wp2_with fail
                        go_roundw
                        case rel => exact ⟨k + 1, true, by omega, by go_num, below_drewN HBQ.out _, rfl, HANY.out⟩
                        case measure => simp [intOf]; omega
                    · have g3e : wr.cell? ⟨b3, q3 + i, none⟩ = some (.slice Al nl cl) := (hbw.cell (p := ⟨b3, q3 + i, none⟩) hb35).trans HG5.out
                      have hf : fb = true := by
                        have h := hfb.out
                        rw [List.take_of_length_le (by omega), HANYT.out] at h
                        exact h.symm
                      subst hf
                      have gq0 : wr.cell? ⟨bo, oo, none⟩ = some (.int .i64 (i : Int)) := (hbw.cell (p := ⟨bo, oo, none⟩) hbol).trans HO0.out
                      have gqm : wr.cell? ⟨bo, oo + m, none⟩ = some (.int .i64 x) := (hbq.cell (p := ⟨bo, oo + m, none⟩) (Nat.lt_of_lt_of_le hbol HBM.out.size)).trans gmx
                      have hxd : decide ((i : Int) ≤ x) = false := by simp; omega
                      have HBW2 := Lib.hid hbw
                      clear hbw hbq
                      go_wp2_with fail
                      go_quiet (fail)
                      go_wp2_with fail
                      go_roundw
                      case rel => exact ⟨m + 1, by omega, by omega, by go_num, below_drewN HBW2.out _⟩
                      case measure => simp [intOf]; omega
                · have HBM := Lib.hid hbm
                  clear hbm
                  go_wp2_with fail
                  go_roundw
                  case rel => exact ⟨i + 1, by omega, by go_num, HBR.out.trans ((HB5.out.trans (HBM.out.mono HB5.out.size)).mono HBR.out.size)⟩
                  case measure => simp [intOf]; omega
      · have HBR := Lib.hid hbr
        go_wp2_with fail
        go_ret
        exact ⟨rfl, HB3.out.trans (HBR.out.mono HB3.out.size)⟩
end Go.Proofs.Ytbfjkjkanckcjaa
