/- DictKeys: the walk. -/
import Derived.Test.YtfdihmbmlhlkgaaLBac
namespace Go.Proofs.Ytfdihmbmlhlkgaa
open Go.RowKit
attribute [local go_sem high] guardV eqV neqV guardP neqP
attribute [local go_sem] V.v

theorem find_no_key {L : List (V × V)} {v : V} (hk : ∀ p ∈ L, isKey p.1 = true) (h : isKey v = false) : findL L v = none :=
  findL_append_none fun p hp e => by
    have := hk p hp
    rw [e, h] at this
    cases this
theorem put_no_key {L : List (V × V)} {v : V} (y : V) (hk : ∀ p ∈ L, isKey p.1 = true) (h : isKey v = false) : putOk L v = false ∧ putR L v y = L := by
  have hf := find_no_key hk h
  exact ⟨by simp [putOk, hf, h], by simp [putR, hf, h]⟩
theorem bes_V {w : World} {S : Nat → Prop} {b : Nat} {a0 a1 a2 : Value} (h : Bes w S b 24 #[a0, a1, a2]) : w.cell? ⟨b, 0, none⟩ = some a0 ∧ w.cell? ⟨b, 1, none⟩ = some a1 ∧ w.cell? ⟨b, 2, none⟩ = some a2 := ⟨Blk.cell h.blk 0, Blk.cell h.blk 1, Blk.cell h.blk 2⟩

set_option maxRecDepth 100000 in
set_option maxHeartbeats 4000000 in
theorem keys_walk (v : V) (A : Option Addr) (n c : Nat) (l : List CallD) (w : World) (hv : v.Ok) (hA : RdC w A n c l) :
    Calls Try.prog 7 #[.agg #[.int .i64 v.k, .int .i64 v.n, .string v.s], .slice A n c] w fun e w' => e = .returned (.bool true) ∧ Below w.heap.size w w' := by
  obtain ⟨v1, v2, v3⟩ := v
  have HA := Lib.hid hA
  have HV := Lib.hid hv
  clear hA hv
  go_enter Try.func7, Try.ntmps7
  go_wp2_with fail
  have h00 : Below w.heap.size w (w.alloc (.cells #[.int .i64 v1, .int .i64 v2, .string v3] 24)) := (by repeat (first | exact Below.refl _ _ | assumption | refine Below.setCell ?_ (by first | (simp; done) | (simp; omega) | omega) _ | refine below_drewN ?_ _ | refine Below.drew ?_ | refine Below.alloc ?_ (by first | (simp; done) | (simp; omega) | omega) _))
  refine (shown_any _).mono ?_
  rintro e w0 ⟨rfl, hb0⟩
  have hbw := h00.trans (hb0.mono h00.size)
  have p2 := (Blk.new w 24 #[.int .i64 v1, .int .i64 v2, .string v3]).new' hb0
  clear h00 hb0
  go_wp2_with fail
  refine (made_any A n c l w0 (HA.out.new hbw)).mono ?_
  rintro e W1 ⟨g, y, S, rfl, hB1⟩
  generalize madeAll (l.take 40) = L at *
  have b2 : Bes W1 S w.heap.size 24 #[.int .i64 v1, .int .i64 v2, .string v3] := ⟨p2.new' hB1.z.bel, fun hs => by have := hB1.z.own _ hs; have := p2.lt; omega⟩
  have HF := Lib.hid hB1.facts
  have HBW := Lib.hid hbw
  have HB1 := Lib.hid hB1
  obtain ⟨c0, c1, c2⟩ := bes_V b2
  have hl2 := b2.blk.lt
  have HB2 := Lib.hid b2
  clear hB1 p2 hbw b2 HA
  go_wp2_with fail
  refine (rkey_any v1 v2 v3 _).mono ?_
  rintro e w2 ⟨rfl, hb⟩
  have HB3 := Lib.hid (HB1.out.new hb)
  have HB4 := Lib.hid (HB2.out.new hb)
  clear HB1 HB2 c0 c1 c2 hl2 hb
  obtain ⟨c0, c1, c2⟩ := bes_V HB4.out
  have hl2 := HB4.out.blk.lt
  cases hk : isKey ⟨v1, v2, v3⟩ with
  | true =>
    have HK := Lib.hid hk
    clear hk
    go_wp2_with fail
    refine (dkey_any v1 v2 v3 _).mono ?_
    rintro e w3 ⟨rfl, hb⟩
    have hB5 := HB3.out.new hb
    have hB6 := HB4.out.new hb
    clear HB3 HB4 c0 c1 c2 hl2 hb
    rw [HK.out]
    obtain ⟨c0, c1, c2⟩ := bes_V hB6
    have hl2 := hB6.blk.lt
    have hbd : Below w3.heap.size w3 w3.drew := (by repeat (first | exact Below.refl _ _ | assumption | refine Below.setCell ?_ (by first | (simp; done) | (simp; omega) | omega) _ | refine below_drewN ?_ _ | refine Below.drew ?_ | refine Below.alloc ?_ (by first | (simp; done) | (simp; omega) | omega) _))
    have tD := (hB5.new hbd).duo
    have bD := hB6.new hbd
    have SD := Lib.hid (bes_V bD)
    have S0 := Lib.hid (bes_V hB6)
    have HZ := Lib.hid hB5.z
    have HBD := Lib.hid hbd
    obtain ⟨b, hok⟩ : ∃ b, putOk L ⟨v1, v2, v3⟩ = b := ⟨_, rfl⟩
    have HOK := Lib.hid hok
    clear hok hbd hB5 hB6
    go_wp2_with fail
    go_region_held3 (fun w' => w'.cell? ⟨w.heap.size, 0, none⟩ = some (.int .i64 v1) ∧ w'.cell? ⟨w.heap.size, 1, none⟩ = some (.int .i64 v2) ∧ w'.cell? ⟨w.heap.size, 2, none⟩ = some (.string v3))
      (first | exact SC.out | exact SB.out | exact SA.out | exact SD.out | exact S0.out | go_keep)
      (first
      | (go_at_call 25; obtain ⟨T1, T2, hd, hr, -, -, -⟩ := NB.out.1.two; refine (alike_yes hd hr).mono ?_; rintro e w6 ⟨rfl, hb6⟩; have SC := Lib.hid (bes_V (bB.new hb6)); have NC := Lib.hid (NB.out.1.new hb6); clear hd hr hb6)
      | (go_at_call 28; refine (tA.rput ⟨v1, v2, v3⟩ ⟨v1, v2, v3⟩ HF.out.1 (fun p hp => (HF.out.2.1 p hp).2) HF.out.2.2).mono ?_; rintro e w5 ⟨rfl, t5, m5⟩; rw [HOK.out]; have bB := bA.step m5; have SB := Lib.hid (bes_V bB); have NB := Lib.hid (both_end HZ.out HBD.out mA m5 t5); clear t5 m5)
      | (go_at_call 15; refine (tR.put ⟨v1, v2, v3⟩ ⟨v1, v2, v3⟩ HV.out).mono ?_; rintro e w5 ⟨rfl, t5, m5⟩; rw [HOK.out]; have bB := bA.step m5; have SB := Lib.hid (bes_V bB); have NB := Lib.hid (both_end HZ.out HBD.out mA m5 t5); clear t5 m5)
      | (go_at_call 15; refine (tD.put ⟨v1, v2, v3⟩ ⟨v1, v2, v3⟩ HV.out).mono ?_; rintro e w4 ⟨rfl, tA, mA⟩; rw [HOK.out]; have bA := bD.step mA; have SA := Lib.hid (bes_V bA))
      | (go_at_call 28; refine (tD.rput ⟨v1, v2, v3⟩ ⟨v1, v2, v3⟩ HF.out.1 (fun p hp => (HF.out.2.1 p hp).2) HF.out.2.2).mono ?_; rintro e w4 ⟨rfl, tR, mA⟩; rw [HOK.out]; have bA := bD.step mA; have SA := Lib.hid (bes_V bA)))
    all_goals
      go_wp2_with fail
      go_ret
      exact ⟨rfl, HBW.out.trans (NC.out.z.bel.mono HBW.out.size)⟩
  | false =>
    have HK := Lib.hid hk
    clear hk
    have HFN := Lib.hid (find_no_key (fun p hp => (HF.out.2.1 p hp).2) HK.out)
    have HPN := Lib.hid (put_no_key ⟨v1, v2, v3⟩ (fun p hp => (HF.out.2.1 p hp).2) HK.out)
    go_wp2_with fail
    refine (dkey_any v1 v2 v3 _).mono ?_
    rintro e w3 ⟨rfl, hb⟩
    rw [HK.out]
    have HB5 := Lib.hid (HB3.out.new hb)
    have HB6 := Lib.hid (HB4.out.new hb)
    clear HB3 HB4 c0 c1 c2 hl2 hb
    obtain ⟨c0, c1, c2⟩ := bes_V HB6.out
    have hl2 := HB6.out.blk.lt
    go_wp2_with fail
    refine (HB5.out.dict.get ⟨v1, v2, v3⟩ HV.out).mono ?_
    rintro e w4 ⟨rfl, hb⟩
    rw [HFN.out]
    dsimp only [Option.getD_none, Option.isSome_none, V.zero, V.v]
    have hb' : Below w3.heap.size w3 (w4.alloc (.cells #[.int .i64 0, .int .i64 0, .string ⟨#[]⟩] 24)) := Below.trans hb (Below.mono (by exact (by repeat (first | exact Below.refl _ _ | assumption | refine Below.setCell ?_ (by first | (simp; done) | (simp; omega) | omega) _ | refine below_drewN ?_ _ | refine Below.drew ?_ | refine Below.alloc ?_ (by first | (simp; done) | (simp; omega) | omega) _))) hb.size)
    have HB7 := Lib.hid (HB5.out.new hb').duo
    have HB8 := Lib.hid (HB6.out.new hb')
    clear HB5 HB6 c0 c1 c2 hl2 hb hb'
    obtain ⟨c0, c1, c2⟩ := bes_V HB8.out
    have hl2 := HB8.out.blk.lt
    go_wp2_with fail
    refine (HB7.out.put ⟨v1, v2, v3⟩ ⟨v1, v2, v3⟩ HV.out).mono ?_
    rintro e w5 ⟨rfl, t5, m5⟩
    rw [HPN.out.1]
    rw [HPN.out.2] at t5
    have HB9 := Lib.hid t5
    have HB10 := Lib.hid (HB8.out.step m5)
    clear HB7 HB8 c0 c1 c2 hl2 t5 m5
    obtain ⟨c0, c1, c2⟩ := bes_V HB10.out
    have hl2 := HB10.out.blk.lt
    go_wp2_with fail
    refine (HB9.out.del ⟨v1, v2, v3⟩ HV.out).mono ?_
    rintro e w6 ⟨rfl, t6, m6⟩
    rw [HFN.out]
    rw [delL_of_none HFN.out] at t6
    obtain ⟨T1, T2, hd, hr, -, -, -⟩ := t6.two
    have HB11 := Lib.hid t6
    clear HB9 HB10 c0 c1 c2 hl2 t6 m6
    go_wp2_with fail
    refine (alike_yes hd hr).mono ?_
    rintro e w7 ⟨rfl, hb⟩
    have HE := Lib.hid ((HB11.out.new hb).z.bel)
    clear hd hr hb
    go_wp2_with fail
    go_ret
    exact ⟨rfl, HBW.out.trans (HE.out.mono HBW.out.size)⟩
end Go.Proofs.Ytfdihmbmlhlkgaa
