/- DictFull: the walk. -/
import Derived.Test.YtfdihmbmlhlkgaaLKey
import Derived.Test.YtfdihmbmlhlkgaaPlf
namespace Go.Proofs.Ytfdihmbmlhlkgaa
open Go.RowKit
attribute [local go_sem high] guardV eqV neqV guardP neqP
attribute [local go_sem] V.v

theorem rowsL_step (i : Nat) (hi : i ≤ 5000) : putOk (rowsL (min i 4096)) (oneV (i : Int)) = decide ((i : Int) < 4096) ∧ putR (rowsL (min i 4096)) (oneV (i : Int)) (oneV 7) = rowsL (min (i + 1) 4096) := by
  by_cases h : i < 4096
  · rw [Nat.min_eq_left (by omega), Nat.min_eq_left (by omega)]
    obtain ⟨h1, h2⟩ := rowsL_put i h
    exact ⟨by rw [h1]; symm; simp; omega, h2⟩
  · rw [Nat.min_eq_right (by omega), Nat.min_eq_right (by omega)]
    obtain ⟨h1, h2⟩ := rowsL_full i (by omega)
    exact ⟨by rw [h1]; symm; simp; omega, h2⟩

set_option maxRecDepth 100000 in
set_option maxHeartbeats 4000000 in
theorem full_walk (n a : Nat) (hn : n ≤ 255) (ha : a ≤ 65535) (w : World) :
    Calls Try.prog 9 #[.int .u8 n, .int .u16 a] w fun e w' => e = .returned (.bool true) ∧ Below w.heap.size w w' := by
  obtain ⟨r, hr, hr6⟩ : ∃ r : Nat, (n : Int) % 7 = r ∧ r ≤ 6 := ⟨n % 7, by omega, by omega⟩
  obtain ⟨m, hm, hm2⟩ : ∃ m : Nat, (a : Int) % 4093 = m ∧ m < 4093 := ⟨a % 4093, by omega, by omega⟩
  go_enter Try.func9, Try.ntmps9
  go_wp2_with fail
  refine (shown_any _).mono ?_
  rintro e w0 ⟨rfl, hb0⟩
  go_wp2_with fail
  refine (new_any _).mono ?_
  rintro e w1 ⟨g, rfl, hd, hb1⟩
  have hD := HasD.of_new hd hb1 hb0
  have HD1 := Lib.hid hD
  generalize Grew (fun _ => False) w0 w1 = S at *
  clear hd hb1 hD
  go_wp2_with fail
  obtain ⟨mm, hmm⟩ : ∃ mm : Nat, (mm : Int) = 4093 + (r : Int) := ⟨4093 + r, by omega⟩
  rw [← hmm]
  have hmr : mm = 4093 + r := by omega
  have hmr1 : 4093 ≤ mm := by omega
  have hmr2 : mm ≤ 4099 := by omega
  clear hmm hr hmr
  go_loopw [8] (fun i wr => ∃ (k : Nat) (S : Nat → Prop), k ≤ mm ∧ i = .int .i64 k ∧ HasD w wr S g (rowsL (min k 4096))) (fun i _ => mm - (intOf i).toNat)
  case atStart => exact ⟨0, S, Nat.zero_le _, rfl, HD1.out⟩
  case round =>
    clear HD1
    obtain ⟨k, S, hk, rfl, hD⟩ := hrel
    have HD := Lib.hid hD
    clear hD
    by_cases hlt : k < mm
    · have HST := Lib.hid (rowsL_step k (by omega))
      have HOK := Lib.hid (oneV_ok (n := (k : Int)) (by omega))
      go_wp2_with fail
      refine (one_any (k : Int) _).mono ?_
      rintro e w2 ⟨rfl, hb⟩
      have HD2 := Lib.hid (HD.out.new hb)
      clear HD hb
      dsimp only [V.v]
      go_wp2_with fail
      refine (one_any 7 _).mono ?_
      rintro e w3 ⟨rfl, hb⟩
      have HD3 := Lib.hid (HD2.out.new hb)
      clear HD2 hb
      dsimp only [V.v]
      go_wp2_with fail
      refine (HD3.out.put (oneV (k : Int)) (oneV 7) HOK.out).mono ?_
      rintro e w4 ⟨rfl, hD, -⟩
      rw [HST.out.1]
      rw [HST.out.2] at hD
      generalize Grew _ _ _ = S4 at hD
      have HD4 := Lib.hid hD
      clear HD3 hD
      go_wp2_with fail
      go_roundw
      case rel => exact ⟨k + 1, _, by omega, by go_num, HD4.out⟩
      case measure => simp [intOf]; omega
    · obtain rfl : mm = k := by omega
      go_wp2_with fail
      refine (one_any (m : Int) _).mono ?_
      rintro e w2 ⟨rfl, hb⟩
      have hD2 := HD.out.new hb
      clear HD hb
      dsimp only [V.v]
      by_cases hfl : mm < 4096
      · skip
        rw [show decide ((4096 : Int) ≤ (mm : Int)) = false by simp; omega]
        have hmin : min mm 4096 = mm := by omega
        rw [hmin] at hD2
        have hFL := fullL mm m (by omega) (by omega)
        have HFR : Hid (putOk (putR (rowsL mm) (oneV (m : Int)) (oneV 8)) yesV = true) := Lib.hid (by rw [hFL.fresh]; simp; omega)
        have HLN : Hid ((putR (putR (rowsL mm) (oneV (m : Int)) (oneV 8)) yesV (oneV 9)).length = (mm + 1)) := Lib.hid (by rw [hFL.len]; rw [if_pos hfl])
        have HCN : Hid ((putR (delL (putR (putR (rowsL mm) (oneV (m : Int)) (oneV 8)) yesV (oneV 9)) (oneV (m : Int))) (oneV (m : Int)) (oneV 1)).length = (mm + 1)) := Lib.hid (by rw [hFL.count]; rw [if_pos hfl])
        have HFL := Lib.hid hFL
        have HOK := Lib.hid (oneV_ok (n := (m : Int)) (by omega))
        clear hmin hFL
        have hb3 : Below w2.heap.size w2 (w2.alloc (.cells #[.int .i64 2, .int .i64 m, .string ⟨#[]⟩] 24)) := (by repeat (first | exact Below.refl _ _ | assumption | refine Below.setCell ?_ (by first | (simp; done) | (simp; omega) | omega) _ | refine below_drewN ?_ _ | refine Below.drew ?_ | refine Below.alloc ?_ (by first | (simp; done) | (simp; omega) | omega) _))
        have b10 : Bes (w2.alloc (.cells #[.int .i64 2, .int .i64 m, .string ⟨#[]⟩] 24)) S w2.heap.size 24 #[.int .i64 2, .int .i64 m, .string ⟨#[]⟩] := Bes.fresh hD2.z (Blk.new w2 24 _) (Nat.le_refl _)
        have hD3 := hD2.new hb3
        have hbd : Below (w2.alloc (.cells #[.int .i64 2, .int .i64 m, .string ⟨#[]⟩] 24)).heap.size (w2.alloc (.cells #[.int .i64 2, .int .i64 m, .string ⟨#[]⟩] 24)) (w2.alloc (.cells #[.int .i64 2, .int .i64 m, .string ⟨#[]⟩] 24)).drew := (by repeat (first | exact Below.refl _ _ | assumption | refine Below.setCell ?_ (by first | (simp; done) | (simp; omega) | omega) _ | refine below_drewN ?_ _ | refine Below.drew ?_ | refine Below.alloc ?_ (by first | (simp; done) | (simp; omega) | omega) _))
        have tD := hD3.new hbd
        have bD := b10.new hbd
        have S0 := Lib.hid (bes_V b10)
        have SD := Lib.hid (bes_V bD)
        clear hb3 hbd hD2 hD3 b10
        go_wp2_with fail
        go_region_held3 (fun w' => w'.cell? ⟨w2.heap.size, 0, none⟩ = some (.int .i64 2) ∧ w'.cell? ⟨w2.heap.size, 1, none⟩ = some (.int .i64 m) ∧ w'.cell? ⟨w2.heap.size, 2, none⟩ = some (.string ⟨#[]⟩))
          (first | exact SB.out | exact SA.out | exact SD.out | exact S0.out | go_keep)
          (first
          | (go_at_call 15; refine (tA.put (oneV (m : Int)) (oneV 8) HOK.out).mono ?_; rintro e w5 ⟨rfl, t5, m5⟩; rw [HFL.out.again]; have bB := bA.step m5; have SB := Lib.hid (bes_V bB))
          | (go_at_call 30; refine (one_any 8 _).mono ?_; rintro e w4 ⟨rfl, hb4⟩; dsimp only [V.v]; have tA := tD.new hb4; have bA := bD.new hb4; have SA := Lib.hid (bes_V bA)))
        have HD5 := Lib.hid t5
        have HB5 := Lib.hid bB
        clear tD bD tA bA t5 bB m5 hb4
        obtain ⟨c0, c1, c2⟩ := bes_V HB5.out
        have hl5 := HB5.out.blk.lt
        go_wp2_with fail
        refine (HD5.out.get (oneV (m : Int)) HOK.out).mono ?_
        rintro e w6 ⟨rfl, hb6⟩
        rw [HFL.out.x]
        dsimp only [Option.getD_some, Option.isSome_some, V.v]
        have hb7 : Below w5.heap.size w5 (w6.alloc (.cells #[.int .i64 2, .int .i64 8, .string ⟨#[]⟩] 24)) := Below.trans hb6 (Below.mono (by exact (by repeat (first | exact Below.refl _ _ | assumption | refine Below.setCell ?_ (by first | (simp; done) | (simp; omega) | omega) _ | refine below_drewN ?_ _ | refine Below.drew ?_ | refine Below.alloc ?_ (by first | (simp; done) | (simp; omega) | omega) _))) hb6.size)
        have HB12 := Lib.hid (Bes.fresh (HD5.out.new hb6).z (Blk.new w6 24 #[.int .i64 2, .int .i64 8, .string ⟨#[]⟩]) (Nat.le_refl _))
        have HD7 := Lib.hid (HD5.out.new hb7)
        have HB7 := Lib.hid (HB5.out.new hb7)
        clear c0 c1 c2 hl5 hb6 hb7 HD5 HB5
        go_wp2_with fail
        refine (yes_any _).mono ?_
        rintro e w8 ⟨rfl, hb8⟩
        have HD8 := Lib.hid (HD7.out.new hb8)
        have HB8 := Lib.hid (HB7.out.new hb8)
        have HB12' := Lib.hid (HB12.out.new hb8)
        clear hb8 HD7 HB7 HB12
        dsimp only [V.v]
        go_wp2_with fail
        refine (one_any 9 _).mono ?_
        rintro e w9 ⟨rfl, hb8⟩
        have HD9 := Lib.hid (HD8.out.new hb8)
        have HB9 := Lib.hid (HB8.out.new hb8)
        have HB12 := Lib.hid (HB12'.out.new hb8)
        clear hb8 HD8 HB8 HB12'
        dsimp only [V.v]
        go_wp2_with fail
        refine (HD9.out.put yesV (oneV 9) yesV_ok).mono ?_
        rintro e w10 ⟨rfl, t10, m10⟩
        rw [HFR.out]
        have HB10 := Lib.hid (HB9.out.step m10)
        have b12 := HB12.out.step m10
        have HB12' := Lib.hid b12
        have HD10 := Lib.hid t10
        clear HD9 HB9 HB12 t10 m10 b12
        have hbd : Below w10.heap.size w10 w10.drew := (by repeat (first | exact Below.refl _ _ | assumption | refine Below.setCell ?_ (by first | (simp; done) | (simp; omega) | omega) _ | refine below_drewN ?_ _ | refine Below.drew ?_ | refine Below.alloc ?_ (by first | (simp; done) | (simp; omega) | omega) _))
        have tD := HD10.out.new hbd
        have bD := HB10.out.new hbd
        have qD := HB12'.out.new hbd
        have S0 := Lib.hid (bes_V HB12'.out)
        have SD := Lib.hid (bes_V qD)
        obtain ⟨c0, c1, c2⟩ := bes_V HB12'.out
        have hl12 := HB12'.out.blk.lt
        have hvs : V.same ⟨2, 8, ⟨#[]⟩⟩ ⟨2, 8, ⟨#[]⟩⟩ = true := by simp [V.same]
        clear hbd
        go_wp2_with fail
        go_region_held3 (fun w' => w'.cell? ⟨w6.heap.size, 0, none⟩ = some (.int .i64 2) ∧ w'.cell? ⟨w6.heap.size, 1, none⟩ = some (.int .i64 8) ∧ w'.cell? ⟨w6.heap.size, 2, none⟩ = some (.string ⟨#[]⟩))
          (first | exact SB.out | exact SA.out | exact SD.out | exact S0.out | go_keep)
          (first
          | (go_at_call 23; refine (len_d tA).mono ?_; rintro e w12 ⟨rfl, rfl⟩; rw [HLN.out]; have SB := Lib.hid SA.out)
          | (go_at_call 30; refine (one_any 8 _).mono ?_; rintro e w11 ⟨rfl, hb4⟩; dsimp only [V.v]; have tA := tD.new hb4; have bA := bD.new hb4; have qA := qD.new hb4; have SA := Lib.hid (bes_V qA)))
        have HD11 := Lib.hid tA
        have HB11 := Lib.hid bA
        clear tD bD qD tA bA qA hb4 c0 c1 c2 hl12 HD10 HB10 HB12'
        obtain ⟨c0, c1, c2⟩ := bes_V HB11.out
        have hl11 := HB11.out.blk.lt
        go_wp2_with fail
        refine (HD11.out.del (oneV (m : Int)) HOK.out).mono ?_
        rintro e w13 ⟨rfl, t13, m13⟩
        rw [HFL.out.gone]
        have HD13 := Lib.hid t13
        have HB13 := Lib.hid (HB11.out.step m13)
        clear c0 c1 c2 hl11 HD11 HB11 t13 m13
        have hbd : Below w13.heap.size w13 w13.drew := (by repeat (first | exact Below.refl _ _ | assumption | refine Below.setCell ?_ (by first | (simp; done) | (simp; omega) | omega) _ | refine below_drewN ?_ _ | refine Below.drew ?_ | refine Below.alloc ?_ (by first | (simp; done) | (simp; omega) | omega) _))
        have tD := HD13.out.new hbd
        have bD := HB13.out.new hbd
        have S0 := Lib.hid (bes_V HB13.out)
        have SD := Lib.hid (bes_V bD)
        obtain ⟨c0, c1, c2⟩ := bes_V HB13.out
        have hl13 := HB13.out.blk.lt
        clear hbd
        go_wp2_with fail
        go_region_held3 (fun w' => w'.cell? ⟨w2.heap.size, 0, none⟩ = some (.int .i64 2) ∧ w'.cell? ⟨w2.heap.size, 1, none⟩ = some (.int .i64 m) ∧ w'.cell? ⟨w2.heap.size, 2, none⟩ = some (.string ⟨#[]⟩))
          (first | exact SC.out | exact SB.out | exact SA.out | exact SD.out | exact S0.out | go_keep)
          (first
          | (go_at_call 23; refine (len_d t5).mono ?_; rintro e w16 ⟨rfl, rfl⟩; rw [HCN.out]; have SC := Lib.hid SB.out)
          | (go_at_call 15; refine (tA.put (oneV (m : Int)) (oneV 1) HOK.out).mono ?_; rintro e w15 ⟨rfl, t5, m5⟩; rw [HFL.out.last]; have bB := bA.step m5; have SB := Lib.hid (bes_V bB))
          | (go_at_call 30; refine (one_any 1 _).mono ?_; rintro e w14 ⟨rfl, hb4⟩; dsimp only [V.v]; have tA := tD.new hb4; have bA := bD.new hb4; have SA := Lib.hid (bes_V bA)))
        have HE := Lib.hid t5.z.bel
        clear tD bD tA bA t5 bB m5 hb4 c0 c1 c2 hl13 HD13 HB13
        go_wp2_with fail
        go_ret
        exact ⟨rfl, HE.out⟩
      · by_cases hgt : 4096 < mm
        · skip
          rw [show decide ((4096 : Int) ≤ (mm : Int)) = true by simp; omega]
          have hmin : min mm 4096 = 4096 := by omega
          rw [hmin] at hD2
          have hFL := fullL 4096 m (by omega) (by omega)
          have HFR : Hid (putOk (putR (rowsL 4096) (oneV (m : Int)) (oneV 8)) yesV = false) := Lib.hid (by rw [hFL.fresh]; simp)
          have HLN : Hid ((putR (putR (rowsL 4096) (oneV (m : Int)) (oneV 8)) yesV (oneV 9)).length = 4096) := Lib.hid (by rw [hFL.len]; simp)
          have HCN : Hid ((putR (delL (putR (putR (rowsL 4096) (oneV (m : Int)) (oneV 8)) yesV (oneV 9)) (oneV (m : Int))) (oneV (m : Int)) (oneV 1)).length = 4096) := Lib.hid (by rw [hFL.count]; simp)
          have HFL := Lib.hid hFL
          have HOK := Lib.hid (oneV_ok (n := (m : Int)) (by omega))
          clear hmin hFL
          have hb3 : Below w2.heap.size w2 (w2.alloc (.cells #[.int .i64 2, .int .i64 m, .string ⟨#[]⟩] 24)) := (by repeat (first | exact Below.refl _ _ | assumption | refine Below.setCell ?_ (by first | (simp; done) | (simp; omega) | omega) _ | refine below_drewN ?_ _ | refine Below.drew ?_ | refine Below.alloc ?_ (by first | (simp; done) | (simp; omega) | omega) _))
          have b10 : Bes (w2.alloc (.cells #[.int .i64 2, .int .i64 m, .string ⟨#[]⟩] 24)) S w2.heap.size 24 #[.int .i64 2, .int .i64 m, .string ⟨#[]⟩] := Bes.fresh hD2.z (Blk.new w2 24 _) (Nat.le_refl _)
          have hD3 := hD2.new hb3
          have hbd : Below (w2.alloc (.cells #[.int .i64 2, .int .i64 m, .string ⟨#[]⟩] 24)).heap.size (w2.alloc (.cells #[.int .i64 2, .int .i64 m, .string ⟨#[]⟩] 24)) (w2.alloc (.cells #[.int .i64 2, .int .i64 m, .string ⟨#[]⟩] 24)).drew := (by repeat (first | exact Below.refl _ _ | assumption | refine Below.setCell ?_ (by first | (simp; done) | (simp; omega) | omega) _ | refine below_drewN ?_ _ | refine Below.drew ?_ | refine Below.alloc ?_ (by first | (simp; done) | (simp; omega) | omega) _))
          have tD := hD3.new hbd
          have bD := b10.new hbd
          have S0 := Lib.hid (bes_V b10)
          have SD := Lib.hid (bes_V bD)
          clear hb3 hbd hD2 hD3 b10
          go_wp2_with fail
          go_region_held3 (fun w' => w'.cell? ⟨w2.heap.size, 0, none⟩ = some (.int .i64 2) ∧ w'.cell? ⟨w2.heap.size, 1, none⟩ = some (.int .i64 m) ∧ w'.cell? ⟨w2.heap.size, 2, none⟩ = some (.string ⟨#[]⟩))
            (first | exact SB.out | exact SA.out | exact SD.out | exact S0.out | go_keep)
            (first
            | (go_at_call 15; refine (tA.put (oneV (m : Int)) (oneV 8) HOK.out).mono ?_; rintro e w5 ⟨rfl, t5, m5⟩; rw [HFL.out.again]; have bB := bA.step m5; have SB := Lib.hid (bes_V bB))
            | (go_at_call 30; refine (one_any 8 _).mono ?_; rintro e w4 ⟨rfl, hb4⟩; dsimp only [V.v]; have tA := tD.new hb4; have bA := bD.new hb4; have SA := Lib.hid (bes_V bA)))
          have HD5 := Lib.hid t5
          have HB5 := Lib.hid bB
          clear tD bD tA bA t5 bB m5 hb4
          obtain ⟨c0, c1, c2⟩ := bes_V HB5.out
          have hl5 := HB5.out.blk.lt
          go_wp2_with fail
          refine (HD5.out.get (oneV (m : Int)) HOK.out).mono ?_
          rintro e w6 ⟨rfl, hb6⟩
          rw [HFL.out.x]
          dsimp only [Option.getD_some, Option.isSome_some, V.v]
          have hb7 : Below w5.heap.size w5 (w6.alloc (.cells #[.int .i64 2, .int .i64 8, .string ⟨#[]⟩] 24)) := Below.trans hb6 (Below.mono (by exact (by repeat (first | exact Below.refl _ _ | assumption | refine Below.setCell ?_ (by first | (simp; done) | (simp; omega) | omega) _ | refine below_drewN ?_ _ | refine Below.drew ?_ | refine Below.alloc ?_ (by first | (simp; done) | (simp; omega) | omega) _))) hb6.size)
          have HB12 := Lib.hid (Bes.fresh (HD5.out.new hb6).z (Blk.new w6 24 #[.int .i64 2, .int .i64 8, .string ⟨#[]⟩]) (Nat.le_refl _))
          have HD7 := Lib.hid (HD5.out.new hb7)
          have HB7 := Lib.hid (HB5.out.new hb7)
          clear c0 c1 c2 hl5 hb6 hb7 HD5 HB5
          go_wp2_with fail
          refine (yes_any _).mono ?_
          rintro e w8 ⟨rfl, hb8⟩
          have HD8 := Lib.hid (HD7.out.new hb8)
          have HB8 := Lib.hid (HB7.out.new hb8)
          have HB12' := Lib.hid (HB12.out.new hb8)
          clear hb8 HD7 HB7 HB12
          dsimp only [V.v]
          go_wp2_with fail
          refine (one_any 9 _).mono ?_
          rintro e w9 ⟨rfl, hb8⟩
          have HD9 := Lib.hid (HD8.out.new hb8)
          have HB9 := Lib.hid (HB8.out.new hb8)
          have HB12 := Lib.hid (HB12'.out.new hb8)
          clear hb8 HD8 HB8 HB12'
          dsimp only [V.v]
          go_wp2_with fail
          refine (HD9.out.put yesV (oneV 9) yesV_ok).mono ?_
          rintro e w10 ⟨rfl, t10, m10⟩
          rw [HFR.out]
          have HB10 := Lib.hid (HB9.out.step m10)
          have b12 := HB12.out.step m10
          have HB12' := Lib.hid b12
          have HD10 := Lib.hid t10
          clear HD9 HB9 HB12 t10 m10 b12
          have hbd : Below w10.heap.size w10 w10.drew := (by repeat (first | exact Below.refl _ _ | assumption | refine Below.setCell ?_ (by first | (simp; done) | (simp; omega) | omega) _ | refine below_drewN ?_ _ | refine Below.drew ?_ | refine Below.alloc ?_ (by first | (simp; done) | (simp; omega) | omega) _))
          have tD := HD10.out.new hbd
          have bD := HB10.out.new hbd
          have qD := HB12'.out.new hbd
          have S0 := Lib.hid (bes_V HB12'.out)
          have SD := Lib.hid (bes_V qD)
          obtain ⟨c0, c1, c2⟩ := bes_V HB12'.out
          have hl12 := HB12'.out.blk.lt
          have hvs : V.same ⟨2, 8, ⟨#[]⟩⟩ ⟨2, 8, ⟨#[]⟩⟩ = true := by simp [V.same]
          clear hbd
          go_wp2_with fail
          go_region_held3 (fun w' => w'.cell? ⟨w6.heap.size, 0, none⟩ = some (.int .i64 2) ∧ w'.cell? ⟨w6.heap.size, 1, none⟩ = some (.int .i64 8) ∧ w'.cell? ⟨w6.heap.size, 2, none⟩ = some (.string ⟨#[]⟩))
            (first | exact SB.out | exact SA.out | exact SD.out | exact S0.out | go_keep)
            (first
            | (go_at_call 23; refine (len_d tA).mono ?_; rintro e w12 ⟨rfl, rfl⟩; rw [HLN.out]; have SB := Lib.hid SA.out)
            | (go_at_call 30; refine (one_any 8 _).mono ?_; rintro e w11 ⟨rfl, hb4⟩; dsimp only [V.v]; have tA := tD.new hb4; have bA := bD.new hb4; have qA := qD.new hb4; have SA := Lib.hid (bes_V qA)))
          have HD11 := Lib.hid tA
          have HB11 := Lib.hid bA
          clear tD bD qD tA bA qA hb4 c0 c1 c2 hl12 HD10 HB10 HB12'
          obtain ⟨c0, c1, c2⟩ := bes_V HB11.out
          have hl11 := HB11.out.blk.lt
          go_wp2_with fail
          refine (HD11.out.del (oneV (m : Int)) HOK.out).mono ?_
          rintro e w13 ⟨rfl, t13, m13⟩
          rw [HFL.out.gone]
          have HD13 := Lib.hid t13
          have HB13 := Lib.hid (HB11.out.step m13)
          clear c0 c1 c2 hl11 HD11 HB11 t13 m13
          have hbd : Below w13.heap.size w13 w13.drew := (by repeat (first | exact Below.refl _ _ | assumption | refine Below.setCell ?_ (by first | (simp; done) | (simp; omega) | omega) _ | refine below_drewN ?_ _ | refine Below.drew ?_ | refine Below.alloc ?_ (by first | (simp; done) | (simp; omega) | omega) _))
          have tD := HD13.out.new hbd
          have bD := HB13.out.new hbd
          have S0 := Lib.hid (bes_V HB13.out)
          have SD := Lib.hid (bes_V bD)
          obtain ⟨c0, c1, c2⟩ := bes_V HB13.out
          have hl13 := HB13.out.blk.lt
          clear hbd
          go_wp2_with fail
          go_region_held3 (fun w' => w'.cell? ⟨w2.heap.size, 0, none⟩ = some (.int .i64 2) ∧ w'.cell? ⟨w2.heap.size, 1, none⟩ = some (.int .i64 m) ∧ w'.cell? ⟨w2.heap.size, 2, none⟩ = some (.string ⟨#[]⟩))
            (first | exact SC.out | exact SB.out | exact SA.out | exact SD.out | exact S0.out | go_keep)
            (first
            | (go_at_call 23; refine (len_d t5).mono ?_; rintro e w16 ⟨rfl, rfl⟩; rw [HCN.out]; have SC := Lib.hid SB.out)
            | (go_at_call 15; refine (tA.put (oneV (m : Int)) (oneV 1) HOK.out).mono ?_; rintro e w15 ⟨rfl, t5, m5⟩; rw [HFL.out.last]; have bB := bA.step m5; have SB := Lib.hid (bes_V bB))
            | (go_at_call 30; refine (one_any 1 _).mono ?_; rintro e w14 ⟨rfl, hb4⟩; dsimp only [V.v]; have tA := tD.new hb4; have bA := bD.new hb4; have SA := Lib.hid (bes_V bA)))
          have HE := Lib.hid t5.z.bel
          clear tD bD tA bA t5 bB m5 hb4 c0 c1 c2 hl13 HD13 HB13
          go_wp2_with fail
          go_ret
          exact ⟨rfl, HE.out⟩
        · obtain rfl : mm = 4096 := by omega
          rw [show (((4096 : Nat) : Int)) = 4096 from rfl]
          rw [show decide ((4096 : Int) ≤ 4096) = true by simp]
          have hmin : min 4096 4096 = 4096 := by omega
          rw [hmin] at hD2
          have hFL := fullL 4096 m (by omega) (by omega)
          have HFR : Hid (putOk (putR (rowsL 4096) (oneV (m : Int)) (oneV 8)) yesV = false) := Lib.hid (by rw [hFL.fresh]; simp)
          have HLN : Hid ((putR (putR (rowsL 4096) (oneV (m : Int)) (oneV 8)) yesV (oneV 9)).length = 4096) := Lib.hid (by rw [hFL.len]; simp)
          have HCN : Hid ((putR (delL (putR (putR (rowsL 4096) (oneV (m : Int)) (oneV 8)) yesV (oneV 9)) (oneV (m : Int))) (oneV (m : Int)) (oneV 1)).length = 4096) := Lib.hid (by rw [hFL.count]; simp)
          have HFL := Lib.hid hFL
          have HOK := Lib.hid (oneV_ok (n := (m : Int)) (by omega))
          clear hmin hFL
          have hb3 : Below w2.heap.size w2 (w2.alloc (.cells #[.int .i64 2, .int .i64 m, .string ⟨#[]⟩] 24)) := (by repeat (first | exact Below.refl _ _ | assumption | refine Below.setCell ?_ (by first | (simp; done) | (simp; omega) | omega) _ | refine below_drewN ?_ _ | refine Below.drew ?_ | refine Below.alloc ?_ (by first | (simp; done) | (simp; omega) | omega) _))
          have b10 : Bes (w2.alloc (.cells #[.int .i64 2, .int .i64 m, .string ⟨#[]⟩] 24)) S w2.heap.size 24 #[.int .i64 2, .int .i64 m, .string ⟨#[]⟩] := Bes.fresh hD2.z (Blk.new w2 24 _) (Nat.le_refl _)
          have hD3 := hD2.new hb3
          have hbd : Below (w2.alloc (.cells #[.int .i64 2, .int .i64 m, .string ⟨#[]⟩] 24)).heap.size (w2.alloc (.cells #[.int .i64 2, .int .i64 m, .string ⟨#[]⟩] 24)) (w2.alloc (.cells #[.int .i64 2, .int .i64 m, .string ⟨#[]⟩] 24)).drew := (by repeat (first | exact Below.refl _ _ | assumption | refine Below.setCell ?_ (by first | (simp; done) | (simp; omega) | omega) _ | refine below_drewN ?_ _ | refine Below.drew ?_ | refine Below.alloc ?_ (by first | (simp; done) | (simp; omega) | omega) _))
          have tD := hD3.new hbd
          have bD := b10.new hbd
          have S0 := Lib.hid (bes_V b10)
          have SD := Lib.hid (bes_V bD)
          clear hb3 hbd hD2 hD3 b10
          go_wp2_with fail
          go_region_held3 (fun w' => w'.cell? ⟨w2.heap.size, 0, none⟩ = some (.int .i64 2) ∧ w'.cell? ⟨w2.heap.size, 1, none⟩ = some (.int .i64 m) ∧ w'.cell? ⟨w2.heap.size, 2, none⟩ = some (.string ⟨#[]⟩))
            (first | exact SB.out | exact SA.out | exact SD.out | exact S0.out | go_keep)
            (first
            | (go_at_call 15; refine (tA.put (oneV (m : Int)) (oneV 8) HOK.out).mono ?_; rintro e w5 ⟨rfl, t5, m5⟩; rw [HFL.out.again]; have bB := bA.step m5; have SB := Lib.hid (bes_V bB))
            | (go_at_call 30; refine (one_any 8 _).mono ?_; rintro e w4 ⟨rfl, hb4⟩; dsimp only [V.v]; have tA := tD.new hb4; have bA := bD.new hb4; have SA := Lib.hid (bes_V bA)))
          have HD5 := Lib.hid t5
          have HB5 := Lib.hid bB
          clear tD bD tA bA t5 bB m5 hb4
          obtain ⟨c0, c1, c2⟩ := bes_V HB5.out
          have hl5 := HB5.out.blk.lt
          go_wp2_with fail
          refine (HD5.out.get (oneV (m : Int)) HOK.out).mono ?_
          rintro e w6 ⟨rfl, hb6⟩
          rw [HFL.out.x]
          dsimp only [Option.getD_some, Option.isSome_some, V.v]
          have hb7 : Below w5.heap.size w5 (w6.alloc (.cells #[.int .i64 2, .int .i64 8, .string ⟨#[]⟩] 24)) := Below.trans hb6 (Below.mono (by exact (by repeat (first | exact Below.refl _ _ | assumption | refine Below.setCell ?_ (by first | (simp; done) | (simp; omega) | omega) _ | refine below_drewN ?_ _ | refine Below.drew ?_ | refine Below.alloc ?_ (by first | (simp; done) | (simp; omega) | omega) _))) hb6.size)
          have HB12 := Lib.hid (Bes.fresh (HD5.out.new hb6).z (Blk.new w6 24 #[.int .i64 2, .int .i64 8, .string ⟨#[]⟩]) (Nat.le_refl _))
          have HD7 := Lib.hid (HD5.out.new hb7)
          have HB7 := Lib.hid (HB5.out.new hb7)
          clear c0 c1 c2 hl5 hb6 hb7 HD5 HB5
          go_wp2_with fail
          refine (yes_any _).mono ?_
          rintro e w8 ⟨rfl, hb8⟩
          have HD8 := Lib.hid (HD7.out.new hb8)
          have HB8 := Lib.hid (HB7.out.new hb8)
          have HB12' := Lib.hid (HB12.out.new hb8)
          clear hb8 HD7 HB7 HB12
          dsimp only [V.v]
          go_wp2_with fail
          refine (one_any 9 _).mono ?_
          rintro e w9 ⟨rfl, hb8⟩
          have HD9 := Lib.hid (HD8.out.new hb8)
          have HB9 := Lib.hid (HB8.out.new hb8)
          have HB12 := Lib.hid (HB12'.out.new hb8)
          clear hb8 HD8 HB8 HB12'
          dsimp only [V.v]
          go_wp2_with fail
          refine (HD9.out.put yesV (oneV 9) yesV_ok).mono ?_
          rintro e w10 ⟨rfl, t10, m10⟩
          rw [HFR.out]
          have HB10 := Lib.hid (HB9.out.step m10)
          have b12 := HB12.out.step m10
          have HB12' := Lib.hid b12
          have HD10 := Lib.hid t10
          clear HD9 HB9 HB12 t10 m10 b12
          have hbd : Below w10.heap.size w10 w10.drew := (by repeat (first | exact Below.refl _ _ | assumption | refine Below.setCell ?_ (by first | (simp; done) | (simp; omega) | omega) _ | refine below_drewN ?_ _ | refine Below.drew ?_ | refine Below.alloc ?_ (by first | (simp; done) | (simp; omega) | omega) _))
          have tD := HD10.out.new hbd
          have bD := HB10.out.new hbd
          have qD := HB12'.out.new hbd
          have S0 := Lib.hid (bes_V HB12'.out)
          have SD := Lib.hid (bes_V qD)
          obtain ⟨c0, c1, c2⟩ := bes_V HB12'.out
          have hl12 := HB12'.out.blk.lt
          have hvs : V.same ⟨2, 8, ⟨#[]⟩⟩ ⟨2, 8, ⟨#[]⟩⟩ = true := by simp [V.same]
          clear hbd
          go_wp2_with fail
          go_region_held3 (fun w' => w'.cell? ⟨w6.heap.size, 0, none⟩ = some (.int .i64 2) ∧ w'.cell? ⟨w6.heap.size, 1, none⟩ = some (.int .i64 8) ∧ w'.cell? ⟨w6.heap.size, 2, none⟩ = some (.string ⟨#[]⟩))
            (first | exact SB.out | exact SA.out | exact SD.out | exact S0.out | go_keep)
            (first
            | (go_at_call 23; refine (len_d tA).mono ?_; rintro e w12 ⟨rfl, rfl⟩; rw [HLN.out]; have SB := Lib.hid SA.out)
            | (go_at_call 30; refine (one_any 8 _).mono ?_; rintro e w11 ⟨rfl, hb4⟩; dsimp only [V.v]; have tA := tD.new hb4; have bA := bD.new hb4; have qA := qD.new hb4; have SA := Lib.hid (bes_V qA)))
          have HD11 := Lib.hid tA
          have HB11 := Lib.hid bA
          clear tD bD qD tA bA qA hb4 c0 c1 c2 hl12 HD10 HB10 HB12'
          obtain ⟨c0, c1, c2⟩ := bes_V HB11.out
          have hl11 := HB11.out.blk.lt
          go_wp2_with fail
          refine (HD11.out.del (oneV (m : Int)) HOK.out).mono ?_
          rintro e w13 ⟨rfl, t13, m13⟩
          rw [HFL.out.gone]
          have HD13 := Lib.hid t13
          have HB13 := Lib.hid (HB11.out.step m13)
          clear c0 c1 c2 hl11 HD11 HB11 t13 m13
          have hbd : Below w13.heap.size w13 w13.drew := (by repeat (first | exact Below.refl _ _ | assumption | refine Below.setCell ?_ (by first | (simp; done) | (simp; omega) | omega) _ | refine below_drewN ?_ _ | refine Below.drew ?_ | refine Below.alloc ?_ (by first | (simp; done) | (simp; omega) | omega) _))
          have tD := HD13.out.new hbd
          have bD := HB13.out.new hbd
          have S0 := Lib.hid (bes_V HB13.out)
          have SD := Lib.hid (bes_V bD)
          obtain ⟨c0, c1, c2⟩ := bes_V HB13.out
          have hl13 := HB13.out.blk.lt
          clear hbd
          go_wp2_with fail
          go_region_held3 (fun w' => w'.cell? ⟨w2.heap.size, 0, none⟩ = some (.int .i64 2) ∧ w'.cell? ⟨w2.heap.size, 1, none⟩ = some (.int .i64 m) ∧ w'.cell? ⟨w2.heap.size, 2, none⟩ = some (.string ⟨#[]⟩))
            (first | exact SC.out | exact SB.out | exact SA.out | exact SD.out | exact S0.out | go_keep)
            (first
            | (go_at_call 23; refine (len_d t5).mono ?_; rintro e w16 ⟨rfl, rfl⟩; rw [HCN.out]; have SC := Lib.hid SB.out)
            | (go_at_call 15; refine (tA.put (oneV (m : Int)) (oneV 1) HOK.out).mono ?_; rintro e w15 ⟨rfl, t5, m5⟩; rw [HFL.out.last]; have bB := bA.step m5; have SB := Lib.hid (bes_V bB))
            | (go_at_call 30; refine (one_any 1 _).mono ?_; rintro e w14 ⟨rfl, hb4⟩; dsimp only [V.v]; have tA := tD.new hb4; have bA := bD.new hb4; have SA := Lib.hid (bes_V bA)))
          have HE := Lib.hid t5.z.bel
          clear tD bD tA bA t5 bB m5 hb4 c0 c1 c2 hl13 HD13 HB13
          go_wp2_with fail
          go_ret
          exact ⟨rfl, HE.out⟩
end Go.Proofs.Ytfdihmbmlhlkgaa
