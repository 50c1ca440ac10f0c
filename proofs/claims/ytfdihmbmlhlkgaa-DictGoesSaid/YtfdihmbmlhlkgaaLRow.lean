/- DictRows: the walk. -/
import Derived.Test.YtfdihmbmlhlkgaaLApa
namespace Go.Proofs.Ytfdihmbmlhlkgaa
open Go.RowKit
attribute [local go_sem high] guardV eqV neqV guardP neqP
attribute [local go_sem] V.v

/-- a row of pairs beside two dicts -/
structure BesP (w : World) (S T : Nat → Prop) (v : Value) (L : List (V × V)) : Prop where
  own : Own w 42 6 v L.length (pcs L)
  out : ∀ b, v.ownBlock = some b → ¬ S b ∧ ¬ T b
section
variable {w w' w0 : World} {S T : Nat → Prop} {v : Value} {L M : List (V × V)} {g h : Nat}
theorem BesP.new (p : BesP w S T v L) (hb : Below w.heap.size w w') : BesP w' S T v L := ⟨Own.new p.own hb, p.out⟩
theorem BesP.step1 (p : BesP w S T v L) (hm : Mod S w w') : BesP w' (Grew S w w') T v L := ⟨Own.mod p.own hm fun b e => (p.out b e).1, fun b e => ⟨fun hs => hs.elim (p.out b e).1 (fun h' => by have := Own.lt p.own e; omega), (p.out b e).2⟩⟩
theorem BesP.step2 (p : BesP w S T v L) (hm : Mod T w w') : BesP w' S (Grew T w w') v L := ⟨Own.mod p.own hm fun b e => (p.out b e).2, fun b e => ⟨(p.out b e).1, fun hs => hs.elim (p.out b e).2 (fun h' => by have := Own.lt p.own e; omega)⟩⟩
/-- the six cells of a pair -/
theorem BesP.at_ {A : Option Addr} {n c i : Nat} {p : V × V} (hp : BesP w S T (.slice A n c) L) (hi : L[i]? = some p) :
    ∃ b, A = some ⟨b, 0, none⟩ ∧ n = L.length ∧ b < w.heap.size ∧ w.cell? ⟨b, i * 6, none⟩ = some (.int .i64 p.1.k) ∧ w.cell? ⟨b, i * 6 + 1, none⟩ = some (.int .i64 p.1.n) ∧ w.cell? ⟨b, i * 6 + 2, none⟩ = some (.string p.1.s) ∧
      w.cell? ⟨b, i * 6 + 3, none⟩ = some (.int .i64 p.2.k) ∧ w.cell? ⟨b, i * 6 + 4, none⟩ = some (.int .i64 p.2.n) ∧ w.cell? ⟨b, i * 6 + 5, none⟩ = some (.string p.2.s) := by
  obtain ⟨b, c', e, hb, hc⟩ := ownP_at hp.own hi
  simp only [Value.slice.injEq] at e
  obtain ⟨rfl, rfl, rfl⟩ := e
  exact ⟨b, rfl, rfl, hb, hc 0 _ rfl, hc 1 _ rfl, hc 2 _ rfl, hc 3 _ rfl, hc 4 _ rfl, hc 5 _ rfl⟩
/-- two dicts, apart -/
structure TwoD (w0 w : World) (S T : Nat → Prop) (g h : Nat) (L M : List (V × V)) : Prop where
  a : HasD w0 w S g L
  b : HasD w0 w T h M
  far : Far S T
theorem TwoD.new (d : TwoD w0 w S T g h L M) (hb : Below w.heap.size w w') : TwoD w0 w' S T g h L M := ⟨d.a.new hb, d.b.new hb, d.far⟩
theorem TwoD.putA (d : TwoD w0 w S T g h L M) (x z : V) (hx : x.Ok) :
    Calls Try.prog 15 #[.pointer (some ⟨g, 0, none⟩), .agg #[.int .i64 x.k, .int .i64 x.n, .string x.s], .agg #[.int .i64 z.k, .int .i64 z.n, .string z.s]] w fun e w' => e = .returned (.bool (putOk L x)) ∧ TwoD w0 w' (Grew S w w') T g h (putR L x z) M ∧ Mod S w w' :=
  (d.a.put x z hx).mono fun _ _ ⟨h1, h2, h3⟩ => ⟨h1, ⟨h2, d.b.far d.far.symm d.a.z.own h3, d.far.step d.b.z.lt⟩, h3⟩
theorem TwoD.putB (d : TwoD w0 w S T g h L M) (x z : V) (hx : x.Ok) :
    Calls Try.prog 15 #[.pointer (some ⟨h, 0, none⟩), .agg #[.int .i64 x.k, .int .i64 x.n, .string x.s], .agg #[.int .i64 z.k, .int .i64 z.n, .string z.s]] w fun e w' => e = .returned (.bool (putOk M x)) ∧ TwoD w0 w' S (Grew T w w') g h L (putR M x z) ∧ Mod T w w' :=
  (d.b.put x z hx).mono fun _ _ ⟨h1, h2, h3⟩ => ⟨h1, ⟨d.a.far d.far d.b.z.own h3, h2, (d.far.symm.step d.a.z.lt).symm⟩, h3⟩
end
/-- one pair more of a row whose keys are apart -/
theorem put_next {L : List (V × V)} (hk : Keyed L) (ho : ∀ p ∈ L, isKey p.1 = true) (hl : L.length ≤ 4096) {i : Nat} {p : V × V} (hp : L[i]? = some p) : putOk (L.take i) p.1 = true ∧ putR (L.take i) p.1 p.2 = L.take (i + 1) := by
  obtain ⟨hil, hip⟩ := List.getElem?_eq_some_iff.1 hp
  have h1 : findL (L.take i) p.1 = none := findL_append_none (hk.far hp).1
  have h2 : isKey p.1 = true := ho p (List.mem_of_getElem? hp)
  have h3 : (L.take i).length < 4096 := by rw [List.length_take]; omega
  refine ⟨by unfold putOk; rw [h1, h2, decide_eq_true h3]; rfl, ?_⟩
  unfold putR
  rw [h1, if_neg (by simp), if_pos (by simp only [h2, h3, decide_true, Bool.and_self]), List.take_succ_eq_append_getElem hil, hip]
theorem keyed_reverse {L : List (V × V)} (h : Keyed L) : Keyed L.reverse := by
  unfold Keyed at *
  rw [List.pairwise_reverse]
  exact h.imp fun h => h.symm

set_option maxRecDepth 100000 in
set_option maxHeartbeats 4000000 in
theorem rows_walk (A : Option Addr) (n c : Nat) (l : List CallD) (w : World) (hA : RdC w A n c l) :
    Calls Try.prog 4 #[.slice A n c] w fun e w' => e = .returned (.bool true) ∧ Below w.heap.size w w' := by
  have HA := Lib.hid hA
  clear hA
  go_enter Try.func4, Try.ntmps4
  go_wp2_with fail
  refine (shown_any _).mono ?_
  rintro e w0 ⟨rfl, hb0⟩
  go_wp2_with fail
  refine (made_any A n c l w0 (HA.out.new hb0)).mono ?_
  rintro e w1 ⟨g, y, S, rfl, hB1⟩
  have hD1 := hB1.dict
  have hf := hB1.facts
  have hlen := madeAll_length l
  generalize madeAll (l.take 40) = L at *
  have HF := Lib.hid hf
  have HBW := Lib.hid hb0
  clear hB1 hb0 hf HA
  go_wp2_with fail
  refine (new_any _).mono ?_
  rintro e w2 ⟨g2, rfl, hd2, hb2⟩
  have hA2 := HasD.of_new hd2 hb2 hD1.z.bel
  have hD2 := hD1.new hb2
  clear hd2 hb2 hD1
  go_wp2_with fail
  refine (new_any _).mono ?_
  rintro e w3 ⟨g3, rfl, hd3, hb3⟩
  have hB3 := HasD.of_new hd3 hb3 hA2.z.bel
  have hT : TwoD w0 w3 _ _ g2 g3 [] [] := ⟨hA2.new hb3, hB3, (Far.fresh hA2.z.lt).symm⟩
  have hD3 := hD2.new hb3
  generalize Grew (fun _ => False) w1 w2 = Sa at hT
  generalize Grew (fun _ => False) w2 w3 = Sb at hT
  clear hd3 hb3 hA2 hB3 hD2
  go_wp2_with fail
  refine (pairs_any hD3.d).mono ?_
  rintro e w4 ⟨v, rfl, hN⟩
  obtain ⟨Ap, cp, rfl, -, -⟩ := Own.rd hN.own
  have hP : BesP w4 Sa Sb (.slice Ap L.length cp) L := ⟨hN.own, fun b e => ⟨fun hs => by have := hT.a.z.lt b hs; have := hN.new b e; omega, fun hs => by have := hT.b.z.lt b hs; have := hN.new b e; omega⟩⟩
  have HP := Lib.hid hP
  have HT := Lib.hid (hT.new hN.bel)
  clear hP hT hD3 hN
  go_wp2_with fail
  go_loopw [9] (fun i wr => ∃ (k : Nat) (Sa Sb : Nat → Prop), k ≤ L.length ∧ i = .int .i64 k ∧ TwoD w0 wr Sa Sb g2 g3 (L.take k) (L.reverse.take k) ∧ BesP wr Sa Sb (.slice Ap L.length cp) L) (fun i _ => L.length - (intOf i).toNat)
  case atStart => exact ⟨0, Sa, Sb, Nat.zero_le _, rfl, HT.out, HP.out⟩
  case round =>
    clear HT HP
    obtain ⟨k, Sa, Sb, hk, rfl, hT, hP⟩ := hrel
    by_cases hlt : k < L.length
    · obtain ⟨p, hp⟩ : ∃ p, L[k]? = some p := ⟨L[k], List.getElem?_eq_getElem _⟩
      obtain ⟨r, hr⟩ : ∃ r, L[L.length - 1 - k]? = some r := ⟨L[L.length - 1 - k], List.getElem?_eq_getElem _⟩
      have hrr : L.reverse[k]? = some r := by rw [List.getElem?_reverse hlt]; exact hr
      have HN1 := Lib.hid (put_next HF.out.1 (fun q hq => (HF.out.2.1 q hq).2) HF.out.2.2 hp)
      have HN2 := Lib.hid (put_next (keyed_reverse HF.out.1) (fun q hq => (HF.out.2.1 q (List.mem_reverse.1 hq)).2) (by rw [List.length_reverse]; exact HF.out.2.2) hrr)
      have HK1 := Lib.hid (HF.out.2.1 p (List.mem_of_getElem? hp)).1
      have HK2 := Lib.hid (HF.out.2.1 r (List.mem_of_getElem? hr)).1
      have hc6 : ∀ {W : World} {S T : Nat → Prop}, BesP W S T (.slice Ap L.length cp) L → ∃ b, Ap = some ⟨b, 0, none⟩ := fun h => by
        obtain ⟨b, e, _⟩ := h.at_ hp
        exact ⟨b, e⟩
      obtain ⟨b, rfl⟩ := hc6 hP
      clear hc6
      obtain ⟨⟨k1, n1, s1⟩, ⟨k2, n2, s2⟩⟩ := p
      obtain ⟨⟨k3, n3, s3⟩, ⟨k4, n4, s4⟩⟩ := r
      have hcells : ∀ {W : World} {S T : Nat → Prop}, BesP W S T (.slice (some ⟨b, 0, none⟩) L.length cp) L → W.cell? ⟨b, k * 6, none⟩ = some (.int .i64 k1) ∧ W.cell? ⟨b, k * 6 + 1, none⟩ = some (.int .i64 n1) ∧ W.cell? ⟨b, k * 6 + 2, none⟩ = some (.string s1) ∧ W.cell? ⟨b, k * 6 + 3, none⟩ = some (.int .i64 k2) ∧ W.cell? ⟨b, k * 6 + 4, none⟩ = some (.int .i64 n2) ∧ W.cell? ⟨b, k * 6 + 5, none⟩ = some (.string s2) ∧
          W.cell? ⟨b, (L.length - 1 - k) * 6, none⟩ = some (.int .i64 k3) ∧ W.cell? ⟨b, (L.length - 1 - k) * 6 + 1, none⟩ = some (.int .i64 n3) ∧ W.cell? ⟨b, (L.length - 1 - k) * 6 + 2, none⟩ = some (.string s3) ∧ W.cell? ⟨b, (L.length - 1 - k) * 6 + 3, none⟩ = some (.int .i64 k4) ∧ W.cell? ⟨b, (L.length - 1 - k) * 6 + 4, none⟩ = some (.int .i64 n4) ∧ W.cell? ⟨b, (L.length - 1 - k) * 6 + 5, none⟩ = some (.string s4) := by
        intro W S T h
        obtain ⟨b', e, _, _, a0, a1, a2, a3, a4, a5⟩ := h.at_ hp
        cases e
        obtain ⟨b', e, _, _, d0, d1, d2, d3, d4, d5⟩ := h.at_ hr
        cases e
        exact ⟨a0, a1, a2, a3, a4, a5, d0, d1, d2, d3, d4, d5⟩
      have HC := Lib.hid (fun (W : World) (S T : Nat → Prop) (h : BesP W S T (.slice (some ⟨b, 0, none⟩) L.length cp) L) => hcells h)
      clear hcells hp hr hrr
      obtain ⟨m, hm⟩ : ∃ m, m = L.length - 1 - k := ⟨_, rfl⟩
      have hm1 : (L.length : Int) - 1 - (k : Int) = (m : Int) := by omega
      have hml : (m : Int) < (L.length : Int) := by omega
      have hm0 : (0 : Int) ≤ (m : Int) := by omega
      have hk0 : (0 : Int) ≤ (k : Int) := by omega
      have hkl : (k : Int) < (L.length : Int) := by omega
      have hw1 : IntKind.i64.wrap ((L.length : Int) - 1) = (L.length : Int) - 1 := IntWalk.i64_in _ (by have := HF.out.2.2; omega)
      have hw2 : IntKind.i64.wrap ((L.length : Int) - 1 - (k : Int)) = (m : Int) := by rw [← hm1]; exact IntWalk.i64_in _ (by have := HF.out.2.2; omega)
      clear hm1
      have hbl : b < wr.heap.size := Own.lt hP.own rfl
      rw [← hm] at HC
      clear hm
      have hbd : Below wr.heap.size wr wr.drew := (by repeat (first | exact Below.refl _ _ | assumption | refine Below.setCell ?_ (by first | (simp; done) | (simp; omega) | omega) _ | refine below_drewN ?_ _ | refine Below.drew ?_ | refine Below.alloc ?_ (by first | (simp; done) | (simp; omega) | omega) _))
      have tD := hT.new hbd
      have pD := hP.new hbd
      have S0 := Lib.hid (HC.out _ _ _ hP)
      have SD := Lib.hid (HC.out _ _ _ pD)
      clear hT hP hbd
      go_wp2_with fail
      go_region_held3 (fun w' => w'.cell? ⟨b, k * 6, none⟩ = some (.int .i64 k1) ∧ w'.cell? ⟨b, k * 6 + 1, none⟩ = some (.int .i64 n1) ∧ w'.cell? ⟨b, k * 6 + 2, none⟩ = some (.string s1) ∧ w'.cell? ⟨b, k * 6 + 3, none⟩ = some (.int .i64 k2) ∧ w'.cell? ⟨b, k * 6 + 4, none⟩ = some (.int .i64 n2) ∧ w'.cell? ⟨b, k * 6 + 5, none⟩ = some (.string s2) ∧ w'.cell? ⟨b, m * 6, none⟩ = some (.int .i64 k3) ∧ w'.cell? ⟨b, m * 6 + 1, none⟩ = some (.int .i64 n3) ∧ w'.cell? ⟨b, m * 6 + 2, none⟩ = some (.string s3) ∧ w'.cell? ⟨b, m * 6 + 3, none⟩ = some (.int .i64 k4) ∧ w'.cell? ⟨b, m * 6 + 4, none⟩ = some (.int .i64 n4) ∧ w'.cell? ⟨b, m * 6 + 5, none⟩ = some (.string s4))
        (first | exact SB.out | exact SA.out | exact SD.out | exact S0.out | go_keep)
        (first
        | (go_at_call 15; refine (tA.putB ⟨k3, n3, s3⟩ ⟨k4, n4, s4⟩ HK2.out).mono ?_; rintro e w5 ⟨rfl, tB, mB⟩; rw [HN2.out.1]; have pB := pA.step2 mB; have SB := Lib.hid (HC.out _ _ _ pB))
        | (go_at_call 15; refine (tD.putA ⟨k1, n1, s1⟩ ⟨k2, n2, s2⟩ HK1.out).mono ?_; rintro e w4 ⟨rfl, tA, mA⟩; rw [HN1.out.1]; have pA := pD.step1 mA; have SA := Lib.hid (HC.out _ _ _ pA)))
      have HTB := Lib.hid tB
      have HPB := Lib.hid pB
      clear tD pD tA pA tB pB mA mB
      go_wp2_with fail
      go_roundw
      case rel =>
        refine ⟨k + 1, _, _, by omega, by go_num, ?_, HPB.out⟩
        rw [← HN1.out.2, ← HN2.out.2]
        exact HTB.out
      case measure => simp [intOf]; omega
    · obtain rfl : k = L.length := by omega
      rw [List.take_length, show L.reverse.take L.length = L.reverse from List.take_of_length_le (by simp)] at hT
      have HT := Lib.hid hT
      have HP := Lib.hid hP
      clear hT hP
      go_wp2_with fail
      refine (pairs_any HT.out.a.d).mono ?_
      rintro e w5 ⟨v5, rfl, hN5⟩
      obtain ⟨A5, c5, rfl, -, -⟩ := Own.rd hN5.own
      have HT5 := Lib.hid (HT.out.new hN5.bel)
      have HP5 := Lib.hid (HP.out.new hN5.bel)
      have HO5 := Lib.hid hN5.own
      clear HT HP hN5
      go_wp2_with fail
      refine (pairs_any HT5.out.b.d).mono ?_
      rintro e w6 ⟨v6, rfl, hN6⟩
      rw [List.length_reverse] at hN6
      obtain ⟨A6, c6, rfl, -, -⟩ := Own.rd hN6.own
      have HT6 := Lib.hid (HT5.out.new hN6.bel)
      have HP6 := Lib.hid (HP5.out.new hN6.bel)
      have HO56 := Lib.hid (Own.new HO5.out hN6.bel)
      have HO6 := Lib.hid (show Own w6 42 6 (.slice A6 L.length c6) L.reverse.length (pcs L.reverse) by rw [List.length_reverse]; exact hN6.own)
      clear HT5 HP5 hN6 HO5
      go_wp2_with fail
      go_loopw [12] (fun i wr => ∃ k q : Nat, k ≤ L.length ∧ i = .int .i64 k ∧ wr = w6.drewN q) (fun i _ => L.length - (intOf i).toNat)
      case atStart => exact ⟨0, 0, Nat.zero_le _, rfl, rfl⟩
      case round =>
        obtain ⟨k, q, hk, rfl, rfl⟩ := hrel
        by_cases hlt : k < L.length
        · obtain ⟨p, hp⟩ : ∃ p, L[k]? = some p := ⟨L[k], List.getElem?_eq_getElem _⟩
          obtain ⟨m, hm⟩ : ∃ m, m = L.length - 1 - k := ⟨_, rfl⟩
          have hpr : L.reverse[m]? = some p := by rw [List.getElem?_reverse (by omega), hm, show L.length - 1 - (L.length - 1 - k) = k by omega]; exact hp
          obtain ⟨b1, e1, q1, hb1, hc1⟩ := ownP_at HO56.out hp
          obtain ⟨b2, e2, q2, hb2, hc2⟩ := ownP_at HP6.out.own hp
          obtain ⟨b3, e3, q3, hb3, hc3⟩ := ownP_at HO6.out hpr
          simp only [Value.slice.injEq, true_and] at q1 q2 q3
          obtain ⟨rfl, rfl⟩ := q1
          obtain ⟨rfl, rfl⟩ := q2
          obtain ⟨rfl, -, rfl⟩ := q3
          obtain ⟨⟨k1, n1, s1⟩, ⟨k2, n2, s2⟩⟩ := p
          have y0 := hc1 0 (.int .i64 k1) rfl
          have y1 := hc1 1 (.int .i64 n1) rfl
          have y2 := hc1 2 (.string s1) rfl
          have y3 := hc1 3 (.int .i64 k2) rfl
          have y4 := hc1 4 (.int .i64 n2) rfl
          have y5 := hc1 5 (.string s2) rfl
          have z0 := hc2 0 (.int .i64 k1) rfl
          have z1 := hc2 1 (.int .i64 n1) rfl
          have z2 := hc2 2 (.string s1) rfl
          have z3 := hc2 3 (.int .i64 k2) rfl
          have z4 := hc2 4 (.int .i64 n2) rfl
          have z5 := hc2 5 (.string s2) rfl
          have x0 := hc3 0 (.int .i64 k1) rfl
          have x1 := hc3 1 (.int .i64 n1) rfl
          have x2 := hc3 2 (.string s1) rfl
          have x3 := hc3 3 (.int .i64 k2) rfl
          have x4 := hc3 4 (.int .i64 n2) rfl
          have x5 := hc3 5 (.string s2) rfl
          simp only [Nat.add_zero] at y0 z0 x0
          have hs : sameP (⟨k1, n1, s1⟩, ⟨k2, n2, s2⟩) (⟨k1, n1, s1⟩, ⟨k2, n2, s2⟩) = true := sameP_self _
          have hi0 : (0 : Int) ≤ (k : Int) := by omega
          have hi1 : (k : Int) < (L.length : Int) := by omega
          have hml : (m : Int) < (L.length : Int) := by omega
          have hm0 : (0 : Int) ≤ (m : Int) := by omega
          have HMM := Lib.hid hm
          clear hc1 hc2 hc3 hp hpr hm
          go_wp2
          have hw1 : IntKind.i64.wrap ((L.length : Int) - 1) = (L.length : Int) - 1 := IntWalk.i64_in _ (by have := HF.out.2.2; omega)
          have hw2 : IntKind.i64.wrap ((L.length : Int) - 1 - (k : Int)) = (m : Int) := by rw [show (m : Int) = (L.length : Int) - 1 - (k : Int) by have := HMM.out; omega]; exact IntWalk.i64_in _ (by have := HF.out.2.2; omega)
          go_quiet (fail)
          clear hw1 hw2
          go_wp2
          go_roundw
          case rel => exact ⟨k + 1, _, by omega, by go_num, rfl⟩
          case measure => simp [intOf]; omega
        · go_wp2
          go_ret
          exact ⟨rfl, HBW.out.trans ((below_drewN HT6.out.a.z.bel q).mono HBW.out.size)⟩
end Go.Proofs.Ytfdihmbmlhlkgaa
