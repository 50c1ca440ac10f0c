/- DictBack: the walk. -/
import Derived.Test.YtfdihmbmlhlkgaaShn
import Derived.Test.YtfdihmbmlhlkgaaPln
namespace Go.Proofs.Ytfdihmbmlhlkgaa
open Go.RowKit
attribute [local go_sem high] guardV eqV neqV guardP neqP
attribute [local go_sem] V.v

theorem box2' (w : World) (t u : TypeId) (xs ys : Array Value) : Blk ((w.alloc (.cells xs t)).alloc (.cells ys u)) w.heap.size t xs ∧ Blk ((w.alloc (.cells xs t)).alloc (.cells ys u)) (w.heap.size + 1) u ys := by
  refine ⟨(Blk.new w t xs).alloc _, ?_⟩
  have hh := Blk.new (w.alloc (.cells xs t)) u ys
  rw [World.size_alloc] at hh
  exact hh
theorem len_d {w0 w : World} {S : Nat → Prop} {g : Nat} {L : List (V × V)} (h : HasD w0 w S g L) :
    Calls Try.prog 23 #[.pointer (some ⟨g, 0, none⟩)] w fun e w' => e = .returned (.int .i64 L.length) ∧ w = w' :=
  (len_any h.d).mono fun _ _ ⟨h1, h2⟩ => ⟨h1, h2.symm⟩
theorem putOk_small {L : List (V × V)} {x : V} (hk : isKey x = true) (hl : L.length < 4096) : putOk L x = true := by simp [putOk, hk, hl]

set_option maxRecDepth 100000 in
set_option maxHeartbeats 4000000 in
theorem back_any (A : Option Addr) (n c : Nat) (l : List CallD) (x y v : V) (hx : x.Ok) (hy : y.Ok) (same old : Bool) (w : World) (hA : RdC w A n c l) (hsame : V.same (fitV x) (fitV y) = same)
    (hold : (findL (madeAll (l.take 40)) (fitV x)).isSome = old) :
    Calls Try.prog 8 #[.slice A n c, .agg #[.int .i64 x.k, .int .i64 x.n, .string x.s, .int .i64 y.k, .int .i64 y.n, .string y.s], .agg #[.int .i64 v.k, .int .i64 v.n, .string v.s]] w fun e w' => e = .returned (.bool true) ∧ Below w.heap.size w w' := by
  obtain ⟨x1, x2, x3⟩ := x
  obtain ⟨y1, y2, y3⟩ := y
  obtain ⟨v1, v2, v3⟩ := v
  have HA := Lib.hid hA
  have HAK := Lib.hid (And.intro (fitV_ok hx) (fitV_key ⟨x1, x2, x3⟩))
  have HBK := Lib.hid (And.intro (fitV_ok hy) (fitV_key ⟨y1, y2, y3⟩))
  have HSAME := Lib.hid hsame
  have HOLD := Lib.hid hold
  clear hA hx hy hsame hold
  go_enter Try.func8, Try.ntmps8
  go_wp2_with fail
  have hbx := box2' w 25 24 #[.int .i64 x1, .int .i64 x2, .string x3, .int .i64 y1, .int .i64 y2, .string y3] #[.int .i64 v1, .int .i64 v2, .string v3]
  have h00 : Below w.heap.size w ((w.alloc (.cells #[.int .i64 x1, .int .i64 x2, .string x3, .int .i64 y1, .int .i64 y2, .string y3] 25)).alloc (.cells #[.int .i64 v1, .int .i64 v2, .string v3] 24)) := (by repeat (first | exact Below.refl _ _ | assumption | refine Below.setCell ?_ (by first | (simp; done) | (simp; omega) | omega) _ | refine below_drewN ?_ _ | refine Below.drew ?_ | refine Below.alloc ?_ (by first | (simp; done) | (simp; omega) | omega) _))
  refine (shown_any _).mono ?_
  rintro e w0 ⟨rfl, hb0⟩
  have hbw := h00.trans (hb0.mono h00.size)
  have p4 := hbx.1.new' hb0
  have p5 := hbx.2.new' hb0
  clear hbx h00 hb0
  go_wp2_with fail
  refine (made_any A n c l w0 (HA.out.new hbw)).mono ?_
  rintro e W1 ⟨g, yr, S, rfl, hB1⟩
  have hD1 := hB1.dict
  have hlen := madeAll_length l
  have HL := HOLD.out
  generalize madeAll (l.take 40) = L at *
  have hkL := hB1.facts.1
  have HKL := Lib.hid hkL
  have HLEN := Lib.hid hlen
  have HBW := Lib.hid hbw
  have D0 := Lib.hid hD1
  have B4 : Hid (Bes W1 S w.heap.size 25 #[.int .i64 x1, .int .i64 x2, .string x3, .int .i64 y1, .int .i64 y2, .string y3]) := Lib.hid ⟨p4.new' hD1.z.bel, fun hs => by have := hD1.z.own _ hs; have := p4.lt; omega⟩
  have B5 : Hid (Bes W1 S (w.heap.size + 1) 24 #[.int .i64 v1, .int .i64 v2, .string v3]) := Lib.hid ⟨p5.new' hD1.z.bel, fun hs => by have := hD1.z.own _ hs; have := p5.lt; omega⟩
  clear hB1 hD1 p4 p5 hbw hkL hlen HL HA
  have ck0 : W1.cell? ⟨w.heap.size, 0, none⟩ = some (.int .i64 x1) := Blk.cell B4.out.blk 0
  have ck1 : W1.cell? ⟨w.heap.size, 1, none⟩ = some (.int .i64 x2) := Blk.cell B4.out.blk 1
  have ck2 : W1.cell? ⟨w.heap.size, 2, none⟩ = some (.string x3) := Blk.cell B4.out.blk 2
  have ck3 : W1.cell? ⟨w.heap.size, 3, none⟩ = some (.int .i64 y1) := Blk.cell B4.out.blk 3
  have ck4 : W1.cell? ⟨w.heap.size, 4, none⟩ = some (.int .i64 y2) := Blk.cell B4.out.blk 4
  have ck5 : W1.cell? ⟨w.heap.size, 5, none⟩ = some (.string y3) := Blk.cell B4.out.blk 5
  have lk := B4.out.blk.lt
  go_wp2_with fail
  refine (fit_any x1 x2 x3 _).mono ?_
  rintro e w1 ⟨rfl, hb⟩
  clear ck0 ck1 ck2 ck3 ck4 ck5 lk
  have B2 := Lib.hid (B4.out.new hb)
  have B3 := Lib.hid (B5.out.new hb)
  have D4 := Lib.hid (D0.out.new hb)
  clear B4 B5 D0 hb
  generalize hz : fitV ⟨x1, x2, x3⟩ = z at HAK HBK HSAME HOLD
  obtain ⟨a1, a2, a3⟩ := z
  clear hz
  dsimp only [V.v]
  have hb5 : Below w1.heap.size w1 (w1.alloc (.cells #[.int .i64 a1, .int .i64 a2, .string a3] 24)) := (by repeat (first | exact Below.refl _ _ | assumption | refine Below.setCell ?_ (by first | (simp; done) | (simp; omega) | omega) _ | refine below_drewN ?_ _ | refine Below.drew ?_ | refine Below.alloc ?_ (by first | (simp; done) | (simp; omega) | omega) _))
  have B6 := Lib.hid (Bes.fresh D4.out.z (Blk.new w1 24 #[.int .i64 a1, .int .i64 a2, .string a3]) (Nat.le_refl _))
  have B7 := Lib.hid (B2.out.new hb5)
  have B8 := Lib.hid (B3.out.new hb5)
  have D9 := Lib.hid (D4.out.new hb5)
  clear B2 B3 D4 hb5
  have ck0 : (w1.alloc (.cells #[.int .i64 a1, .int .i64 a2, .string a3] 24)).cell? ⟨w.heap.size, 0, none⟩ = some (.int .i64 x1) := Blk.cell B7.out.blk 0
  have ck1 : (w1.alloc (.cells #[.int .i64 a1, .int .i64 a2, .string a3] 24)).cell? ⟨w.heap.size, 1, none⟩ = some (.int .i64 x2) := Blk.cell B7.out.blk 1
  have ck2 : (w1.alloc (.cells #[.int .i64 a1, .int .i64 a2, .string a3] 24)).cell? ⟨w.heap.size, 2, none⟩ = some (.string x3) := Blk.cell B7.out.blk 2
  have ck3 : (w1.alloc (.cells #[.int .i64 a1, .int .i64 a2, .string a3] 24)).cell? ⟨w.heap.size, 3, none⟩ = some (.int .i64 y1) := Blk.cell B7.out.blk 3
  have ck4 : (w1.alloc (.cells #[.int .i64 a1, .int .i64 a2, .string a3] 24)).cell? ⟨w.heap.size, 4, none⟩ = some (.int .i64 y2) := Blk.cell B7.out.blk 4
  have ck5 : (w1.alloc (.cells #[.int .i64 a1, .int .i64 a2, .string a3] 24)).cell? ⟨w.heap.size, 5, none⟩ = some (.string y3) := Blk.cell B7.out.blk 5
  have lk := B7.out.blk.lt
  go_wp2_with fail
  refine (fit_any y1 y2 y3 _).mono ?_
  rintro e w10 ⟨rfl, hb⟩
  clear ck0 ck1 ck2 ck3 ck4 ck5 lk
  have B11 := Lib.hid (B7.out.new hb)
  have B12 := Lib.hid (B8.out.new hb)
  have B13 := Lib.hid (B6.out.new hb)
  have D14 := Lib.hid (D9.out.new hb)
  clear B7 B8 B6 D9 hb
  generalize hz : fitV ⟨y1, y2, y3⟩ = z at HAK HBK HSAME HOLD
  obtain ⟨b1, b2, b3⟩ := z
  clear hz
  dsimp only [V.v]
  have hb15 : Below w10.heap.size w10 (w10.alloc (.cells #[.int .i64 b1, .int .i64 b2, .string b3] 24)) := (by repeat (first | exact Below.refl _ _ | assumption | refine Below.setCell ?_ (by first | (simp; done) | (simp; omega) | omega) _ | refine below_drewN ?_ _ | refine Below.drew ?_ | refine Below.alloc ?_ (by first | (simp; done) | (simp; omega) | omega) _))
  have B16 := Lib.hid (Bes.fresh D14.out.z (Blk.new w10 24 #[.int .i64 b1, .int .i64 b2, .string b3]) (Nat.le_refl _))
  have B17 := Lib.hid (B11.out.new hb15)
  have B18 := Lib.hid (B12.out.new hb15)
  have B19 := Lib.hid (B13.out.new hb15)
  have D20 := Lib.hid (D14.out.new hb15)
  clear B11 B12 B13 D14 hb15
  have cb0 : (w10.alloc (.cells #[.int .i64 b1, .int .i64 b2, .string b3] 24)).cell? ⟨w10.heap.size, 0, none⟩ = some (.int .i64 b1) := Blk.cell B16.out.blk 0
  have cb1 : (w10.alloc (.cells #[.int .i64 b1, .int .i64 b2, .string b3] 24)).cell? ⟨w10.heap.size, 1, none⟩ = some (.int .i64 b2) := Blk.cell B16.out.blk 1
  have cb2 : (w10.alloc (.cells #[.int .i64 b1, .int .i64 b2, .string b3] 24)).cell? ⟨w10.heap.size, 2, none⟩ = some (.string b3) := Blk.cell B16.out.blk 2
  have lb := B16.out.blk.lt
  go_wp2_with fail
  refine (D20.out.get ⟨b1, b2, b3⟩ HBK.out.1).mono ?_
  rintro e w21 ⟨rfl, hb⟩
  clear cb0 cb1 cb2 lb
  have B22 := Lib.hid (B17.out.new hb)
  have B23 := Lib.hid (B18.out.new hb)
  have B24 := Lib.hid (B19.out.new hb)
  have B25 := Lib.hid (B16.out.new hb)
  have D26 := Lib.hid (D20.out.new hb)
  clear B17 B18 B19 B16 D20 hb
  generalize hz : (findL L ⟨b1, b2, b3⟩).getD V.zero = z
  generalize hbb : (findL L ⟨b1, b2, b3⟩).isSome = isb
  obtain ⟨p1, p2, p3⟩ := z
  have HP := Lib.hid (And.intro hz hbb)
  clear hz hbb
  dsimp only [V.v]
  have hb27 : Below w21.heap.size w21 (w21.alloc (.cells #[.int .i64 p1, .int .i64 p2, .string p3] 24)) := (by repeat (first | exact Below.refl _ _ | assumption | refine Below.setCell ?_ (by first | (simp; done) | (simp; omega) | omega) _ | refine below_drewN ?_ _ | refine Below.drew ?_ | refine Below.alloc ?_ (by first | (simp; done) | (simp; omega) | omega) _))
  have B28 := Lib.hid (Bes.fresh D26.out.z (Blk.new w21 24 #[.int .i64 p1, .int .i64 p2, .string p3]) (Nat.le_refl _))
  have B29 := Lib.hid (B22.out.new hb27)
  have B30 := Lib.hid (B23.out.new hb27)
  have B31 := Lib.hid (B24.out.new hb27)
  have B32 := Lib.hid (B25.out.new hb27)
  have D33 := Lib.hid (D26.out.new hb27)
  clear B22 B23 B24 B25 D26 hb27
  go_wp2_with fail
  refine (len_d D33.out).mono ?_
  rintro e w34 ⟨rfl, rfl⟩
  have ca0 : (w21.alloc (.cells #[.int .i64 p1, .int .i64 p2, .string p3] 24)).cell? ⟨w1.heap.size, 0, none⟩ = some (.int .i64 a1) := Blk.cell B31.out.blk 0
  have ca1 : (w21.alloc (.cells #[.int .i64 p1, .int .i64 p2, .string p3] 24)).cell? ⟨w1.heap.size, 1, none⟩ = some (.int .i64 a2) := Blk.cell B31.out.blk 1
  have ca2 : (w21.alloc (.cells #[.int .i64 p1, .int .i64 p2, .string p3] 24)).cell? ⟨w1.heap.size, 2, none⟩ = some (.string a3) := Blk.cell B31.out.blk 2
  have la := B31.out.blk.lt
  go_wp2_with fail
  refine (D33.out.get ⟨a1, a2, a3⟩ HAK.out.1).mono ?_
  rintro e w35 ⟨rfl, hb⟩
  clear ca0 ca1 ca2 la
  have B36 := Lib.hid (B29.out.new hb)
  have B37 := Lib.hid (B30.out.new hb)
  have B38 := Lib.hid (B31.out.new hb)
  have B39 := Lib.hid (B32.out.new hb)
  have B40 := Lib.hid (B28.out.new hb)
  have D41 := Lib.hid (D33.out.new hb)
  clear B29 B30 B31 B32 B28 D33 hb
  rw [HOLD.out]
  generalize (findL L ⟨a1, a2, a3⟩).getD V.zero = z
  obtain ⟨o1, o2, o3⟩ := z
  dsimp only [V.v]
  have hb42 : Below w35.heap.size w35 (w35.alloc (.cells #[.int .i64 o1, .int .i64 o2, .string o3] 24)) := (by repeat (first | exact Below.refl _ _ | assumption | refine Below.setCell ?_ (by first | (simp; done) | (simp; omega) | omega) _ | refine below_drewN ?_ _ | refine Below.drew ?_ | refine Below.alloc ?_ (by first | (simp; done) | (simp; omega) | omega) _))
  have B43 := Lib.hid (Bes.fresh D41.out.z (Blk.new w35 24 #[.int .i64 o1, .int .i64 o2, .string o3]) (Nat.le_refl _))
  have B44 := Lib.hid (B36.out.new hb42)
  have B45 := Lib.hid (B37.out.new hb42)
  have B46 := Lib.hid (B38.out.new hb42)
  have B47 := Lib.hid (B39.out.new hb42)
  have B48 := Lib.hid (B40.out.new hb42)
  have D49 := Lib.hid (D41.out.new hb42)
  clear B36 B37 B38 B39 B40 D41 hb42
  have ca0 : (w35.alloc (.cells #[.int .i64 o1, .int .i64 o2, .string o3] 24)).cell? ⟨w1.heap.size, 0, none⟩ = some (.int .i64 a1) := Blk.cell B46.out.blk 0
  have ca1 : (w35.alloc (.cells #[.int .i64 o1, .int .i64 o2, .string o3] 24)).cell? ⟨w1.heap.size, 1, none⟩ = some (.int .i64 a2) := Blk.cell B46.out.blk 1
  have ca2 : (w35.alloc (.cells #[.int .i64 o1, .int .i64 o2, .string o3] 24)).cell? ⟨w1.heap.size, 2, none⟩ = some (.string a3) := Blk.cell B46.out.blk 2
  have la := B46.out.blk.lt
  have cv0 : (w35.alloc (.cells #[.int .i64 o1, .int .i64 o2, .string o3] 24)).cell? ⟨w.heap.size + 1, 0, none⟩ = some (.int .i64 v1) := Blk.cell B45.out.blk 0
  have cv1 : (w35.alloc (.cells #[.int .i64 o1, .int .i64 o2, .string o3] 24)).cell? ⟨w.heap.size + 1, 1, none⟩ = some (.int .i64 v2) := Blk.cell B45.out.blk 1
  have cv2 : (w35.alloc (.cells #[.int .i64 o1, .int .i64 o2, .string o3] 24)).cell? ⟨w.heap.size + 1, 2, none⟩ = some (.string v3) := Blk.cell B45.out.blk 2
  have lv := B45.out.blk.lt
  go_wp2_with fail
  refine (D49.out.put ⟨a1, a2, a3⟩ ⟨v1, v2, v3⟩ HAK.out.1).mono ?_
  rintro e w50 ⟨rfl, hD, hm⟩
  clear ca0 ca1 ca2 la cv0 cv1 cv2 lv
  have B51 := Lib.hid (B44.out.step hm)
  have B52 := Lib.hid (B45.out.step hm)
  have B53 := Lib.hid (B46.out.step hm)
  have B54 := Lib.hid (B47.out.step hm)
  have B55 := Lib.hid (B48.out.step hm)
  have B56 := Lib.hid (B43.out.step hm)
  have D57 := Lib.hid hD
  clear B44 B45 B46 B47 B48 B43 D49 hm hD
  have HPO := Lib.hid (putOk_small (L := L) (x := ⟨a1, a2, a3⟩) HAK.out.2 (by have := HLEN.out; omega))
  rw [HPO.out]
  have HM := Lib.hid (find_put_same ⟨v1, v2, v3⟩ HPO.out)
  have HMO : Hid (¬ same = true → findL (putR L ⟨a1, a2, a3⟩ ⟨v1, v2, v3⟩) ⟨b1, b2, b3⟩ = findL L ⟨b1, b2, b3⟩) := Lib.hid (fun h => find_put_other _ (fun e => h (by rw [← HSAME.out, V.same_iff]; exact e.symm)))
  have HML := Lib.hid (put_length ⟨v1, v2, v3⟩ HPO.out)
  have HMK := Lib.hid (HKL.out.put ⟨a1, a2, a3⟩ ⟨v1, v2, v3⟩)
  generalize putR L ⟨a1, a2, a3⟩ ⟨v1, v2, v3⟩ = M at *
  have ca0 : w50.cell? ⟨w1.heap.size, 0, none⟩ = some (.int .i64 a1) := Blk.cell B53.out.blk 0
  have ca1 : w50.cell? ⟨w1.heap.size, 1, none⟩ = some (.int .i64 a2) := Blk.cell B53.out.blk 1
  have ca2 : w50.cell? ⟨w1.heap.size, 2, none⟩ = some (.string a3) := Blk.cell B53.out.blk 2
  have la := B53.out.blk.lt
  go_wp2_with fail
  refine (D57.out.get ⟨a1, a2, a3⟩ HAK.out.1).mono ?_
  rintro e w58 ⟨rfl, hb⟩
  clear ca0 ca1 ca2 la
  have B59 := Lib.hid (B51.out.new hb)
  have B60 := Lib.hid (B52.out.new hb)
  have B61 := Lib.hid (B53.out.new hb)
  have B62 := Lib.hid (B54.out.new hb)
  have B63 := Lib.hid (B55.out.new hb)
  have B64 := Lib.hid (B56.out.new hb)
  have D65 := Lib.hid (D57.out.new hb)
  clear B51 B52 B53 B54 B55 B56 D57 hb
  rw [HM.out]
  dsimp only [Option.getD_some, Option.isSome_some]
  dsimp only [V.v]
  have hb66 : Below w58.heap.size w58 (w58.alloc (.cells #[.int .i64 v1, .int .i64 v2, .string v3] 24)) := (by repeat (first | exact Below.refl _ _ | assumption | refine Below.setCell ?_ (by first | (simp; done) | (simp; omega) | omega) _ | refine below_drewN ?_ _ | refine Below.drew ?_ | refine Below.alloc ?_ (by first | (simp; done) | (simp; omega) | omega) _))
  have B67 := Lib.hid (Bes.fresh D65.out.z (Blk.new w58 24 #[.int .i64 v1, .int .i64 v2, .string v3]) (Nat.le_refl _))
  have B68 := Lib.hid (B59.out.new hb66)
  have B69 := Lib.hid (B60.out.new hb66)
  have B70 := Lib.hid (B61.out.new hb66)
  have B71 := Lib.hid (B62.out.new hb66)
  have B72 := Lib.hid (B63.out.new hb66)
  have B73 := Lib.hid (B64.out.new hb66)
  have D74 := Lib.hid (D65.out.new hb66)
  clear B59 B60 B61 B62 B63 B64 D65 hb66
  have cb0 : (w58.alloc (.cells #[.int .i64 v1, .int .i64 v2, .string v3] 24)).cell? ⟨w10.heap.size, 0, none⟩ = some (.int .i64 b1) := Blk.cell B71.out.blk 0
  have cb1 : (w58.alloc (.cells #[.int .i64 v1, .int .i64 v2, .string v3] 24)).cell? ⟨w10.heap.size, 1, none⟩ = some (.int .i64 b2) := Blk.cell B71.out.blk 1
  have cb2 : (w58.alloc (.cells #[.int .i64 v1, .int .i64 v2, .string v3] 24)).cell? ⟨w10.heap.size, 2, none⟩ = some (.string b3) := Blk.cell B71.out.blk 2
  have lb := B71.out.blk.lt
  go_wp2_with fail
  refine (D74.out.get ⟨b1, b2, b3⟩ HBK.out.1).mono ?_
  rintro e w75 ⟨rfl, hb⟩
  clear cb0 cb1 cb2 lb
  have B76 := Lib.hid (B68.out.new hb)
  have B77 := Lib.hid (B69.out.new hb)
  have B78 := Lib.hid (B70.out.new hb)
  have B79 := Lib.hid (B71.out.new hb)
  have B80 := Lib.hid (B72.out.new hb)
  have B81 := Lib.hid (B73.out.new hb)
  have B82 := Lib.hid (B67.out.new hb)
  have D83 := Lib.hid (D74.out.new hb)
  clear B68 B69 B70 B71 B72 B73 B67 D74 hb
  generalize hz : (findL M ⟨b1, b2, b3⟩).getD V.zero = z
  generalize hbb : (findL M ⟨b1, b2, b3⟩).isSome = isq
  obtain ⟨q1, q2, q3⟩ := z
  have HQ := Lib.hid (And.intro hz hbb)
  clear hz hbb
  dsimp only [V.v]
  have hb84 : Below w75.heap.size w75 (w75.alloc (.cells #[.int .i64 q1, .int .i64 q2, .string q3] 24)) := (by repeat (first | exact Below.refl _ _ | assumption | refine Below.setCell ?_ (by first | (simp; done) | (simp; omega) | omega) _ | refine below_drewN ?_ _ | refine Below.drew ?_ | refine Below.alloc ?_ (by first | (simp; done) | (simp; omega) | omega) _))
  have B85 := Lib.hid (Bes.fresh D83.out.z (Blk.new w75 24 #[.int .i64 q1, .int .i64 q2, .string q3]) (Nat.le_refl _))
  have B86 := Lib.hid (B76.out.new hb84)
  have B87 := Lib.hid (B77.out.new hb84)
  have B88 := Lib.hid (B78.out.new hb84)
  have B89 := Lib.hid (B79.out.new hb84)
  have B90 := Lib.hid (B80.out.new hb84)
  have B91 := Lib.hid (B81.out.new hb84)
  have B92 := Lib.hid (B82.out.new hb84)
  have D93 := Lib.hid (D83.out.new hb84)
  clear B76 B77 B78 B79 B80 B81 B82 D83 hb84
  go_wp2_with fail
  refine (len_d D93.out).mono ?_
  rintro e w94 ⟨rfl, rfl⟩
  have ca0 : (w75.alloc (.cells #[.int .i64 q1, .int .i64 q2, .string q3] 24)).cell? ⟨w1.heap.size, 0, none⟩ = some (.int .i64 a1) := Blk.cell B88.out.blk 0
  have ca1 : (w75.alloc (.cells #[.int .i64 q1, .int .i64 q2, .string q3] 24)).cell? ⟨w1.heap.size, 1, none⟩ = some (.int .i64 a2) := Blk.cell B88.out.blk 1
  have ca2 : (w75.alloc (.cells #[.int .i64 q1, .int .i64 q2, .string q3] 24)).cell? ⟨w1.heap.size, 2, none⟩ = some (.string a3) := Blk.cell B88.out.blk 2
  have la := B88.out.blk.lt
  go_wp2_with fail
  refine (D93.out.del ⟨a1, a2, a3⟩ HAK.out.1).mono ?_
  rintro e w95 ⟨rfl, hD, hm⟩
  clear ca0 ca1 ca2 la
  have B96 := Lib.hid (B86.out.step hm)
  have B97 := Lib.hid (B87.out.step hm)
  have B98 := Lib.hid (B88.out.step hm)
  have B99 := Lib.hid (B89.out.step hm)
  have B100 := Lib.hid (B90.out.step hm)
  have B101 := Lib.hid (B91.out.step hm)
  have B102 := Lib.hid (B92.out.step hm)
  have B103 := Lib.hid (B85.out.step hm)
  have D104 := Lib.hid hD
  clear B86 B87 B88 B89 B90 B91 B92 B85 D93 hm hD
  rw [HM.out]
  dsimp only [Option.isSome_some]
  have HN := Lib.hid (find_del_same M ⟨a1, a2, a3⟩)
  have HNO : Hid (¬ same = true → findL (delL M ⟨a1, a2, a3⟩) ⟨b1, b2, b3⟩ = findL M ⟨b1, b2, b3⟩) := Lib.hid (fun h => find_del_other (fun e => h (by rw [← HSAME.out, V.same_iff]; exact e.symm)))
  have HNL := Lib.hid (del_length HMK.out (x := ⟨a1, a2, a3⟩) (by rw [HM.out]; rfl))
  generalize delL M ⟨a1, a2, a3⟩ = N at *
  have ca0 : w95.cell? ⟨w1.heap.size, 0, none⟩ = some (.int .i64 a1) := Blk.cell B98.out.blk 0
  have ca1 : w95.cell? ⟨w1.heap.size, 1, none⟩ = some (.int .i64 a2) := Blk.cell B98.out.blk 1
  have ca2 : w95.cell? ⟨w1.heap.size, 2, none⟩ = some (.string a3) := Blk.cell B98.out.blk 2
  have la := B98.out.blk.lt
  go_wp2_with fail
  refine (D104.out.get ⟨a1, a2, a3⟩ HAK.out.1).mono ?_
  rintro e w105 ⟨rfl, hb⟩
  clear ca0 ca1 ca2 la
  have B106 := Lib.hid (B96.out.new hb)
  have B107 := Lib.hid (B97.out.new hb)
  have B108 := Lib.hid (B98.out.new hb)
  have B109 := Lib.hid (B99.out.new hb)
  have B110 := Lib.hid (B100.out.new hb)
  have B111 := Lib.hid (B101.out.new hb)
  have B112 := Lib.hid (B102.out.new hb)
  have B113 := Lib.hid (B103.out.new hb)
  have D114 := Lib.hid (D104.out.new hb)
  clear B96 B97 B98 B99 B100 B101 B102 B103 D104 hb
  rw [HN.out]
  dsimp only [Option.getD_none, Option.isSome_none, V.zero]
  dsimp only [V.v]
  have hb115 : Below w105.heap.size w105 (w105.alloc (.cells #[.int .i64 0, .int .i64 0, .string ⟨#[]⟩] 24)) := (by repeat (first | exact Below.refl _ _ | assumption | refine Below.setCell ?_ (by first | (simp; done) | (simp; omega) | omega) _ | refine below_drewN ?_ _ | refine Below.drew ?_ | refine Below.alloc ?_ (by first | (simp; done) | (simp; omega) | omega) _))
  have B116 := Lib.hid (Bes.fresh D114.out.z (Blk.new w105 24 #[.int .i64 0, .int .i64 0, .string ⟨#[]⟩]) (Nat.le_refl _))
  have B117 := Lib.hid (B106.out.new hb115)
  have B118 := Lib.hid (B107.out.new hb115)
  have B119 := Lib.hid (B108.out.new hb115)
  have B120 := Lib.hid (B109.out.new hb115)
  have B121 := Lib.hid (B110.out.new hb115)
  have B122 := Lib.hid (B111.out.new hb115)
  have B123 := Lib.hid (B112.out.new hb115)
  have B124 := Lib.hid (B113.out.new hb115)
  have D125 := Lib.hid (D114.out.new hb115)
  clear B106 B107 B108 B109 B110 B111 B112 B113 D114 hb115
  have cb0 : (w105.alloc (.cells #[.int .i64 0, .int .i64 0, .string ⟨#[]⟩] 24)).cell? ⟨w10.heap.size, 0, none⟩ = some (.int .i64 b1) := Blk.cell B120.out.blk 0
  have cb1 : (w105.alloc (.cells #[.int .i64 0, .int .i64 0, .string ⟨#[]⟩] 24)).cell? ⟨w10.heap.size, 1, none⟩ = some (.int .i64 b2) := Blk.cell B120.out.blk 1
  have cb2 : (w105.alloc (.cells #[.int .i64 0, .int .i64 0, .string ⟨#[]⟩] 24)).cell? ⟨w10.heap.size, 2, none⟩ = some (.string b3) := Blk.cell B120.out.blk 2
  have lb := B120.out.blk.lt
  go_wp2_with fail
  refine (D125.out.get ⟨b1, b2, b3⟩ HBK.out.1).mono ?_
  rintro e w126 ⟨rfl, hb⟩
  clear cb0 cb1 cb2 lb
  have B127 := Lib.hid (B117.out.new hb)
  have B128 := Lib.hid (B118.out.new hb)
  have B129 := Lib.hid (B119.out.new hb)
  have B130 := Lib.hid (B120.out.new hb)
  have B131 := Lib.hid (B121.out.new hb)
  have B132 := Lib.hid (B122.out.new hb)
  have B133 := Lib.hid (B123.out.new hb)
  have B134 := Lib.hid (B124.out.new hb)
  have D135 := Lib.hid (D125.out.new hb)
  clear B117 B118 B119 B120 B121 B122 B123 B124 D125 hb
  generalize hz : (findL N ⟨b1, b2, b3⟩).getD V.zero = z
  generalize hbb : (findL N ⟨b1, b2, b3⟩).isSome = isu
  obtain ⟨u1, u2, u3⟩ := z
  have HU := Lib.hid (And.intro hz hbb)
  clear hz hbb
  dsimp only [V.v]
  have hb136 : Below w126.heap.size w126 (w126.alloc (.cells #[.int .i64 u1, .int .i64 u2, .string u3] 24)) := (by repeat (first | exact Below.refl _ _ | assumption | refine Below.setCell ?_ (by first | (simp; done) | (simp; omega) | omega) _ | refine below_drewN ?_ _ | refine Below.drew ?_ | refine Below.alloc ?_ (by first | (simp; done) | (simp; omega) | omega) _))
  have B137 := Lib.hid (Bes.fresh D135.out.z (Blk.new w126 24 #[.int .i64 u1, .int .i64 u2, .string u3]) (Nat.le_refl _))
  have B138 := Lib.hid (B127.out.new hb136)
  have B139 := Lib.hid (B128.out.new hb136)
  have B140 := Lib.hid (B129.out.new hb136)
  have B141 := Lib.hid (B130.out.new hb136)
  have B142 := Lib.hid (B131.out.new hb136)
  have B143 := Lib.hid (B132.out.new hb136)
  have B144 := Lib.hid (B133.out.new hb136)
  have B145 := Lib.hid (B134.out.new hb136)
  have D146 := Lib.hid (D135.out.new hb136)
  clear B127 B128 B129 B130 B131 B132 B133 B134 D135 hb136
  have ca0 : (w126.alloc (.cells #[.int .i64 u1, .int .i64 u2, .string u3] 24)).cell? ⟨w1.heap.size, 0, none⟩ = some (.int .i64 a1) := Blk.cell B140.out.blk 0
  have ca1 : (w126.alloc (.cells #[.int .i64 u1, .int .i64 u2, .string u3] 24)).cell? ⟨w1.heap.size, 1, none⟩ = some (.int .i64 a2) := Blk.cell B140.out.blk 1
  have ca2 : (w126.alloc (.cells #[.int .i64 u1, .int .i64 u2, .string u3] 24)).cell? ⟨w1.heap.size, 2, none⟩ = some (.string a3) := Blk.cell B140.out.blk 2
  have la := B140.out.blk.lt
  go_wp2_with fail
  refine (D146.out.del ⟨a1, a2, a3⟩ HAK.out.1).mono ?_
  rintro e w147 ⟨rfl, hD, hm⟩
  clear ca0 ca1 ca2 la
  have B148 := Lib.hid (B138.out.step hm)
  have B149 := Lib.hid (B139.out.step hm)
  have B150 := Lib.hid (B140.out.step hm)
  have B151 := Lib.hid (B141.out.step hm)
  have B152 := Lib.hid (B142.out.step hm)
  have B153 := Lib.hid (B143.out.step hm)
  have B154 := Lib.hid (B144.out.step hm)
  have B155 := Lib.hid (B145.out.step hm)
  have B156 := Lib.hid (B137.out.step hm)
  have D157 := Lib.hid hD
  clear B138 B139 B140 B141 B142 B143 B144 B145 B137 D146 hm hD
  rw [HN.out]
  dsimp only [Option.isSome_none]
  have hDE := D157.out
  rw [delL_of_none HN.out] at hDE
  have DE := Lib.hid hDE
  clear D157 hDE
  have ca0 : w147.cell? ⟨w1.heap.size, 0, none⟩ = some (.int .i64 a1) := Blk.cell B150.out.blk 0
  have ca1 : w147.cell? ⟨w1.heap.size, 1, none⟩ = some (.int .i64 a2) := Blk.cell B150.out.blk 1
  have ca2 : w147.cell? ⟨w1.heap.size, 2, none⟩ = some (.string a3) := Blk.cell B150.out.blk 2
  have la := B150.out.blk.lt
  have cb0 : w147.cell? ⟨w10.heap.size, 0, none⟩ = some (.int .i64 b1) := Blk.cell B151.out.blk 0
  have cb1 : w147.cell? ⟨w10.heap.size, 1, none⟩ = some (.int .i64 b2) := Blk.cell B151.out.blk 1
  have cb2 : w147.cell? ⟨w10.heap.size, 2, none⟩ = some (.string b3) := Blk.cell B151.out.blk 2
  have lb := B151.out.blk.lt
  have cv0 : w147.cell? ⟨w.heap.size + 1, 0, none⟩ = some (.int .i64 v1) := Blk.cell B149.out.blk 0
  have cv1 : w147.cell? ⟨w.heap.size + 1, 1, none⟩ = some (.int .i64 v2) := Blk.cell B149.out.blk 1
  have cv2 : w147.cell? ⟨w.heap.size + 1, 2, none⟩ = some (.string v3) := Blk.cell B149.out.blk 2
  have lv := B149.out.blk.lt
  have c120 : w147.cell? ⟨w21.heap.size, 0, none⟩ = some (.int .i64 p1) := Blk.cell B152.out.blk 0
  have c121 : w147.cell? ⟨w21.heap.size, 1, none⟩ = some (.int .i64 p2) := Blk.cell B152.out.blk 1
  have c122 : w147.cell? ⟨w21.heap.size, 2, none⟩ = some (.string p3) := Blk.cell B152.out.blk 2
  have l12 := B152.out.blk.lt
  have c180 : w147.cell? ⟨w58.heap.size, 0, none⟩ = some (.int .i64 v1) := Blk.cell B154.out.blk 0
  have c181 : w147.cell? ⟨w58.heap.size, 1, none⟩ = some (.int .i64 v2) := Blk.cell B154.out.blk 1
  have c182 : w147.cell? ⟨w58.heap.size, 2, none⟩ = some (.string v3) := Blk.cell B154.out.blk 2
  have l18 := B154.out.blk.lt
  have c200 : w147.cell? ⟨w75.heap.size, 0, none⟩ = some (.int .i64 q1) := Blk.cell B155.out.blk 0
  have c201 : w147.cell? ⟨w75.heap.size, 1, none⟩ = some (.int .i64 q2) := Blk.cell B155.out.blk 1
  have c202 : w147.cell? ⟨w75.heap.size, 2, none⟩ = some (.string q3) := Blk.cell B155.out.blk 2
  have l20 := B155.out.blk.lt
  have c260 : w147.cell? ⟨w126.heap.size, 0, none⟩ = some (.int .i64 u1) := Blk.cell B156.out.blk 0
  have c261 : w147.cell? ⟨w126.heap.size, 1, none⟩ = some (.int .i64 u2) := Blk.cell B156.out.blk 1
  have c262 : w147.cell? ⟨w126.heap.size, 2, none⟩ = some (.string u3) := Blk.cell B156.out.blk 2
  have l26 := B156.out.blk.lt
  have hLE := HLEN.out
  have hML := HML.out
  have hNL := HNL.out
  have hvv : V.same ⟨v1, v2, v3⟩ ⟨v1, v2, v3⟩ = true := by simp [V.same]
  have hsm := HSAME.out
  rw [HOLD.out] at hML
  generalize hN : N.length = q at hNL
  generalize hMM : M.length = m at *
  generalize hLL : L.length = n0 at *
  have HN1 := Lib.hid (And.intro hN (And.intro hMM hLL))
  clear hN hMM hLL HLEN HML HNL
  cases same
  · have hMO := HMO.out (by simp)
    have hNO := HNO.out (by simp)
    obtain ⟨hp, hpb⟩ := HP.out
    obtain ⟨hq, hqb⟩ := HQ.out
    obtain ⟨hu, hub⟩ := HU.out
    rw [hNO, hMO, hp] at hu
    rw [hNO, hMO, hpb] at hub
    rw [hMO, hp] at hq
    rw [hMO, hpb] at hqb
    obtain ⟨rfl, rfl, rfl⟩ : p1 = q1 ∧ p2 = q2 ∧ p3 = q3 := by simpa using hq
    obtain ⟨rfl, rfl, rfl⟩ : p1 = u1 ∧ p2 = u2 ∧ p3 = u3 := by simpa using hu
    subst hqb
    subst hub
    have hpp : V.same ⟨p1, p2, p3⟩ ⟨p1, p2, p3⟩ = true := by simp [V.same]
    clear hMO hNO hp hpb hq hu
    cases old
    · simp only [Bool.false_eq_true, if_false] at hML
      obtain rfl : m = q + 1 := by omega
      obtain rfl : n0 = q := by omega
      clear hML hNL
      go_wp2_with fail
      refine (len_d DE.out).mono ?_
      rintro e w200 ⟨rfl, rfl⟩
      rw [HN1.out.1]
      go_wp2_with fail
      go_ret
      exact ⟨ret_bool (by simp), HBW.out.trans (DE.out.z.bel.mono HBW.out.size)⟩
    · simp only [if_true] at hML
      obtain rfl : m = q + 1 := by omega
      obtain rfl : n0 = q + 1 := by omega
      clear hML hNL
      go_wp2_with fail
      refine (len_d DE.out).mono ?_
      rintro e w200 ⟨rfl, rfl⟩
      rw [HN1.out.1]
      go_wp2_with fail
      go_ret
      exact ⟨ret_bool (by simp), HBW.out.trans (DE.out.z.bel.mono HBW.out.size)⟩
  · skip
    cases old
    · simp only [Bool.false_eq_true, if_false] at hML
      obtain rfl : m = q + 1 := by omega
      obtain rfl : n0 = q := by omega
      clear hML hNL
      go_wp2_with fail
      refine (len_d DE.out).mono ?_
      rintro e w200 ⟨rfl, rfl⟩
      rw [HN1.out.1]
      go_wp2_with fail
      go_ret
      exact ⟨ret_bool (by simp), HBW.out.trans (DE.out.z.bel.mono HBW.out.size)⟩
    · simp only [if_true] at hML
      obtain rfl : m = q + 1 := by omega
      obtain rfl : n0 = q + 1 := by omega
      clear hML hNL
      go_wp2_with fail
      refine (len_d DE.out).mono ?_
      rintro e w200 ⟨rfl, rfl⟩
      rw [HN1.out.1]
      go_wp2_with fail
      go_ret
      exact ⟨ret_bool (by simp), HBW.out.trans (DE.out.z.bel.mono HBW.out.size)⟩
end Go.Proofs.Ytfdihmbmlhlkgaa
