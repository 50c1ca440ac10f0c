/- DictOrder: the walk. -/
import Derived.Test.YtfdihmbmlhlkgaaLApa
import Derived.Deep.DeepCutAuto
namespace Go.Proofs.Ytfdihmbmlhlkgaa
open Go.RowKit
attribute [local go_sem high] guardV eqV neqV guardP neqP
attribute [local go_sem] V.v

/-- a row of values beside, that is its own -/
structure BesO (w : World) (S : Nat → Prop) (v : Value) (xs : List V) : Prop where
  own : Own w 24 3 v xs.length (vcs xs)
  out : ∀ b, v.ownBlock = some b → ¬ S b
section
variable {w w' w0 : World} {S : Nat → Prop} {v : Value} {xs : List V}
theorem BesO.new (h : BesO w S v xs) (hb : Below w.heap.size w w') : BesO w' S v xs := ⟨Own.new h.own hb, h.out⟩
theorem BesO.step (h : BesO w S v xs) (hm : Mod S w w') : BesO w' (Grew S w w') v xs := ⟨Own.mod h.own hm h.out, fun b e hs => hs.elim (h.out b e) (fun h' => by have := Own.lt h.own e; omega)⟩
theorem BesO.rd {A : Option Addr} {n c : Nat} (h : BesO w S (.slice A n c) xs) : RdV w A n c xs := by
  obtain ⟨A', c', e, hr, -⟩ := Own.rd h.own
  simp only [Value.slice.injEq] at e
  obtain ⟨rfl, rfl, rfl⟩ := e
  exact ⟨rfl, hr⟩
theorem BesO.of {n : Nat} (hz : Zone w0 w S) (h : NewO 24 3 w w' v n (vcs xs)) (hn : xs.length = n) : BesO w' S v xs := ⟨by rw [hn]; exact h.own, fun b e hs => by have := hz.lt b hs; have := h.new b e; omega⟩
end
theorem addr_none (b o k : Nat) : (⟨b, o, none⟩ : Addr).add k = ⟨b, o + k, none⟩ := by unfold Addr.add; split <;> simp_all
theorem NewO.appV {w wr w' : World} {v v' : Value} {n : Nat} {cs : List Value} {xs : List V} (h : NewO 24 3 w wr v n cs) (ho : OwnV w' v' xs) (hg : wr.grownBy w' v.ownBlock) (ha : v'.ownBlock = v.ownBlock ∨ v'.ownBlock = some wr.heap.size) : NewO 24 3 w w' v' xs.length (vcs xs) := h.app ho hg ha
theorem step_appendVg {ops : Array Oper} {o : Oper} {a : Act} {K : Act → World → Prop} {Q : Exit → Act → World → Prop} {E : Prop} (w : World) (hw : Region.wanted o (yielded ops a.tmps) = true) (s x : Operand)
    (ho : o.op = .call { callee := .builtin .append, args := #[s, x], argTypes := #[33, 33] })
    (v : Value) (xs : List V) (hs : a.eval s = v) (hown : OwnV w v xs)
    (A : Option Addr) (m c : Nat) (ys : List V) (hx : a.eval x = .slice A m c) (hr : RdV w A m c ys) (hbound : xs.length + m ≤ 4398046511104)
    (h : ∀ v' w', OwnV w' v' (xs ++ ys) → w.grownBy w' v.ownBlock → (v'.ownBlock = v.ownBlock ∨ v'.ownBlock = some w.heap.size) → K (a.put o.dst v') w') :
    if Region.wanted o (yielded ops a.tmps) = true then Oper.wp Try.prog o a w K Q else E := by
  obtain ⟨i0, hi, hz0, hz1, hz2⟩ := info_parts info_V
  rw [if_pos hw]
  refine wp_append_Own w s x _ ho _ i0 _ 3 32 Try.underlying33 hi hz0 hz1 hz2 rfl v xs.length (vcs xs) hs hown A m c (vcs ys) hx hr.2 (vcs_oneCell ys) (by omega) (by omega) (fun v' w' h1 h2 h3 => h v' w' ?_ h2 h3)
  unfold OwnV
  rw [List.length_append, vcs_append, hr.1]
  exact h1
theorem OwnV.new {w w' : World} {v : Value} {xs : List V} (h : OwnV w v xs) (hb : Below w.heap.size w w') : OwnV w' v xs := Own.new h hb
theorem below_q {w w' : World} (h : ∃ q, w' = w.drewN q) : Below w.heap.size w w' := by
  obtain ⟨q, rfl⟩ := h
  exact (by repeat (first | exact Below.refl _ _ | assumption | refine Below.setCell ?_ (by first | (simp; done) | (simp; omega) | omega) _ | refine below_drewN ?_ _ | refine Below.drew ?_ | refine Below.alloc ?_ (by first | (simp; done) | (simp; omega) | omega) _))
theorem one_rdV (w : World) (x : V) : RdV (w.alloc (.cells #[.int .i64 x.k, .int .i64 x.n, .string x.s] 24)) (some ⟨w.heap.size, 0, none⟩) 1 1 [x] := ⟨rfl, one_V w x⟩
theorem blk_V {w : World} {b : Nat} {a0 a1 a2 : Value} (h : Blk w b 24 #[a0, a1, a2]) : w.cell? ⟨b, 0, none⟩ = some a0 ∧ w.cell? ⟨b, 1, none⟩ = some a1 ∧ w.cell? ⟨b, 2, none⟩ = some a2 := ⟨h.cell 0, h.cell 1, h.cell 2⟩
theorem cells_new {w w' : World} {b : Nat} {a0 a1 a2 : Value} (_h : w.cell? ⟨b, 0, none⟩ = some a0 ∧ w.cell? ⟨b, 1, none⟩ = some a1 ∧ w.cell? ⟨b, 2, none⟩ = some a2) (hk : Blk w b 24 #[a0, a1, a2]) (hb : Below w.heap.size w w') : w'.cell? ⟨b, 0, none⟩ = some a0 ∧ w'.cell? ⟨b, 1, none⟩ = some a1 ∧ w'.cell? ⟨b, 2, none⟩ = some a2 := blk_V (hk.new' hb)
/-- what lies apart from the row that grows is read as before -/
theorem rd_far {w w' : World} {u : Value} {A : Option Addr} {n c : Nat} {xs : List V} (h : Own w 24 3 (.slice A n c) n (vcs xs)) (hm : Mod (fun i => u.ownBlock = some i) w w') (hf : ∀ b, (Value.slice A n c).ownBlock = some b → u.ownBlock ≠ some b) : RdV w' A n c xs := by
  have h1 := Own.mod h hm hf
  obtain ⟨A', c', e, hr, -⟩ := Own.rd h1
  simp only [Value.slice.injEq] at e
  obtain ⟨rfl, -, rfl⟩ := e
  have hl := h1.1
  rw [vcs_length] at hl
  exact ⟨by omega, hr⟩
theorem far_new {w w1 : World} {u v : Value} {xs : List V} (h : OwnV w u xs) (hb : Below w.heap.size w w1) (hn : ∀ b, v.ownBlock = some b → w1.heap.size ≤ b) : ∀ b, v.ownBlock = some b → u.ownBlock ≠ some b := fun b e e' => by
  have h1 := Own.lt h e'
  have h2 := hn b e
  have h3 := hb.size
  omega
theorem below_mod {w0 w w' : World} {S : Nat → Prop} (h : Below w0.heap.size w0 w) (hm : Mod S w w') (hS : ∀ i, S i → w0.heap.size ≤ i) : Below w0.heap.size w0 w' := h.trans (hm.below h.size fun i hi hs => by have := hS i hs; omega)
def Rest (W : World) (R : List V) (r : Value) (wx : World) : Prop := NewO 24 3 W wx r R.length (vcs R)
theorem Rest.of {W wx : World} {a b : List V} {r : Value} (h : NewO 24 3 W wx r (([] ++ a) ++ b).length (vcs (([] ++ a) ++ b))) : Rest W (a ++ b) r wx := by
  rw [List.nil_append] at h
  exact h
theorem keys_d {w0 w : World} {S : Nat → Prop} {g : Nat} {L : List (V × V)} (h : HasD w0 w S g L) :
    Calls Try.prog 16 #[.pointer (some ⟨g, 0, none⟩)] w fun e w' => ∃ A c, e = .returned (.slice A L.length c) ∧ BesO w' S (.slice A L.length c) (L.map Prod.fst) ∧ Below w.heap.size w w' := by
  refine (keys_any h.d).mono ?_
  rintro e w' ⟨v, rfl, hN⟩
  obtain ⟨A, c, rfl, -, -⟩ := Own.rd hN.own
  exact ⟨A, c, rfl, BesO.of h.z hN (by simp), hN.bel⟩
theorem nodup_keys {L : List (V × V)} (h : Keyed L) {i j : Nat} {x : V} (hi : (L.map Prod.fst)[i]? = some x) (hj : (L.map Prod.fst)[j]? = some x) : i = j := by
  rw [List.getElem?_map] at hi hj
  cases h1 : L[i]? with
  | none => rw [h1] at hi; cases hi
  | some p =>
    cases h2 : L[j]? with
    | none => rw [h2] at hj; cases hj
    | some q =>
      rw [h1] at hi
      rw [h2] at hj
      exact nodup_at h h1 h2 ((Option.some.inj hi).trans (Option.some.inj hj).symm)

set_option maxRecDepth 100000 in
set_option maxHeartbeats 8000000 in
theorem order_walk (A : Option Addr) (n c : Nat) (l : List CallD) (k x y : V) (w : World) (hA : RdC w A n c l) (hk : k.Ok) :
    Calls Try.prog 3 #[.slice A n c, .agg #[.int .i64 k.k, .int .i64 k.n, .string k.s], .agg #[.int .i64 x.k, .int .i64 x.n, .string x.s, .int .i64 y.k, .int .i64 y.n, .string y.s]] w fun e w' => e = .returned (.bool true) ∧ Below w.heap.size w w' := by
  obtain ⟨k1, k2, k3⟩ := k
  obtain ⟨x1, x2, x3⟩ := x
  obtain ⟨y1, y2, y3⟩ := y
  have HA := Lib.hid hA
  have HAK := Lib.hid (And.intro (fitV_ok hk) (fitV_key ⟨k1, k2, k3⟩))
  clear hA hk
  go_enter Try.func3, Try.ntmps3
  go_wp2_with fail
  have hbx := box2' w 24 25 #[.int .i64 k1, .int .i64 k2, .string k3] #[.int .i64 x1, .int .i64 x2, .string x3, .int .i64 y1, .int .i64 y2, .string y3]
  have h00 : Below w.heap.size w ((w.alloc (.cells #[.int .i64 k1, .int .i64 k2, .string k3] 24)).alloc (.cells #[.int .i64 x1, .int .i64 x2, .string x3, .int .i64 y1, .int .i64 y2, .string y3] 25)) := (by repeat (first | exact Below.refl _ _ | assumption | refine Below.setCell ?_ (by first | (simp; done) | (simp; omega) | omega) _ | refine below_drewN ?_ _ | refine Below.drew ?_ | refine Below.alloc ?_ (by first | (simp; done) | (simp; omega) | omega) _))
  refine (shown_any _).mono ?_
  rintro e w0 ⟨rfl, hb0⟩
  have hbw := h00.trans (hb0.mono h00.size)
  have p4 := hbx.1.new' hb0
  have p5 := hbx.2.new' hb0
  clear hbx h00 hb0
  go_wp2_with fail
  refine (made_any A n c l w0 (HA.out.new hbw)).mono ?_
  rintro e W1 ⟨g, yr, S, rfl, hB1⟩
  have hD1 := hB1.dict
  have hlen := madeAll_length l
  generalize madeAll (l.take 40) = L at *
  have HKL := Lib.hid hB1.facts.1
  have HLEN := Lib.hid hlen
  have HBW := Lib.hid hbw
  have D0 := Lib.hid hD1
  have B4 : Hid (Bes W1 S w.heap.size 24 #[.int .i64 k1, .int .i64 k2, .string k3]) := Lib.hid ⟨p4.new' hD1.z.bel, fun hs => by have := hD1.z.own _ hs; have := p4.lt; omega⟩
  have B5 : Hid (Bes W1 S (w.heap.size + 1) 25 #[.int .i64 x1, .int .i64 x2, .string x3, .int .i64 y1, .int .i64 y2, .string y3]) := Lib.hid ⟨p5.new' hD1.z.bel, fun hs => by have := hD1.z.own _ hs; have := p5.lt; omega⟩
  clear hB1 hD1 p4 p5 hbw hlen HA
  have ck0 : W1.cell? ⟨w.heap.size, 0, none⟩ = some (.int .i64 k1) := Blk.cell B4.out.blk 0
  have ck1 : W1.cell? ⟨w.heap.size, 1, none⟩ = some (.int .i64 k2) := Blk.cell B4.out.blk 1
  have ck2 : W1.cell? ⟨w.heap.size, 2, none⟩ = some (.string k3) := Blk.cell B4.out.blk 2
  have lk := B4.out.blk.lt
  go_wp2_with fail
  refine (fit_any k1 k2 k3 _).mono ?_
  rintro e w1 ⟨rfl, hb⟩
  clear ck0 ck1 ck2 lk
  have B2 := Lib.hid (B4.out.new hb)
  have B3 := Lib.hid (B5.out.new hb)
  have D4 := Lib.hid (D0.out.new hb)
  clear B4 B5 D0 hb
  generalize hz : fitV ⟨k1, k2, k3⟩ = z at HAK
  obtain ⟨a1, a2, a3⟩ := z
  clear hz
  dsimp only [V.v]
  have hb5 : Below w1.heap.size w1 (w1.alloc (.cells #[.int .i64 a1, .int .i64 a2, .string a3] 24)) := (by repeat (first | exact Below.refl _ _ | assumption | refine Below.setCell ?_ (by first | (simp; done) | (simp; omega) | omega) _ | refine below_drewN ?_ _ | refine Below.drew ?_ | refine Below.alloc ?_ (by first | (simp; done) | (simp; omega) | omega) _))
  have B6 := Lib.hid (Bes.fresh D4.out.z (Blk.new w1 24 #[.int .i64 a1, .int .i64 a2, .string a3]) (Nat.le_refl _))
  have B7 := Lib.hid (B3.out.new hb5)
  have D8 := Lib.hid (D4.out.new hb5)
  clear B3 D4 hb5
  have ca0 : (w1.alloc (.cells #[.int .i64 a1, .int .i64 a2, .string a3] 24)).cell? ⟨w1.heap.size, 0, none⟩ = some (.int .i64 a1) := Blk.cell B6.out.blk 0
  have ca1 : (w1.alloc (.cells #[.int .i64 a1, .int .i64 a2, .string a3] 24)).cell? ⟨w1.heap.size, 1, none⟩ = some (.int .i64 a2) := Blk.cell B6.out.blk 1
  have ca2 : (w1.alloc (.cells #[.int .i64 a1, .int .i64 a2, .string a3] 24)).cell? ⟨w1.heap.size, 2, none⟩ = some (.string a3) := Blk.cell B6.out.blk 2
  have la := B6.out.blk.lt
  have cx0 : (w1.alloc (.cells #[.int .i64 a1, .int .i64 a2, .string a3] 24)).cell? ⟨w.heap.size + 1, 0, none⟩ = some (.int .i64 x1) := Blk.cell B7.out.blk 0
  have cx1 : (w1.alloc (.cells #[.int .i64 a1, .int .i64 a2, .string a3] 24)).cell? ⟨w.heap.size + 1, 1, none⟩ = some (.int .i64 x2) := Blk.cell B7.out.blk 1
  have cx2 : (w1.alloc (.cells #[.int .i64 a1, .int .i64 a2, .string a3] 24)).cell? ⟨w.heap.size + 1, 2, none⟩ = some (.string x3) := Blk.cell B7.out.blk 2
  have cx3 : (w1.alloc (.cells #[.int .i64 a1, .int .i64 a2, .string a3] 24)).cell? ⟨w.heap.size + 1, 3, none⟩ = some (.int .i64 y1) := Blk.cell B7.out.blk 3
  have cx4 : (w1.alloc (.cells #[.int .i64 a1, .int .i64 a2, .string a3] 24)).cell? ⟨w.heap.size + 1, 4, none⟩ = some (.int .i64 y2) := Blk.cell B7.out.blk 4
  have cx5 : (w1.alloc (.cells #[.int .i64 a1, .int .i64 a2, .string a3] 24)).cell? ⟨w.heap.size + 1, 5, none⟩ = some (.string y3) := Blk.cell B7.out.blk 5
  have lx := B7.out.blk.lt
  go_wp2_with fail
  refine (D8.out.put ⟨a1, a2, a3⟩ ⟨x1, x2, x3⟩ HAK.out.1).mono ?_
  rintro e w9 ⟨rfl, hD, hm⟩
  clear ca0 ca1 ca2 la cx0 cx1 cx2 cx3 cx4 cx5 lx
  have B10 := Lib.hid (B7.out.step hm)
  have B11 := Lib.hid (B6.out.step hm)
  have D12 := Lib.hid hD
  clear B7 B6 D8 hm hD
  have HPO := Lib.hid (putOk_small (L := L) (x := ⟨a1, a2, a3⟩) HAK.out.2 (by have := HLEN.out; omega))
  rw [HPO.out]
  have HM := Lib.hid (find_put_same ⟨x1, x2, x3⟩ HPO.out)
  have HML : Hid ((putR L ⟨a1, a2, a3⟩ ⟨x1, x2, x3⟩).length ≤ 41) := Lib.hid (by have := put_length_le L ⟨a1, a2, a3⟩ ⟨x1, x2, x3⟩; have := HLEN.out; omega)
  have HMK := Lib.hid (HKL.out.put ⟨a1, a2, a3⟩ ⟨x1, x2, x3⟩)
  generalize putR L ⟨a1, a2, a3⟩ ⟨x1, x2, x3⟩ = L1 at *
  clear HPO HLEN HKL
  go_wp2_with fail
  refine (keys_d D12.out).mono ?_
  rintro e w13 ⟨Abefore, cbefore, rfl, hK, hb⟩
  have B14 := Lib.hid (B10.out.new hb)
  have B15 := Lib.hid (B11.out.new hb)
  have D16 := Lib.hid (D12.out.new hb)
  clear B10 B11 D12 hb
  have B17 := Lib.hid hK
  clear hK
  have ca0 : w13.cell? ⟨w1.heap.size, 0, none⟩ = some (.int .i64 a1) := Blk.cell B15.out.blk 0
  have ca1 : w13.cell? ⟨w1.heap.size, 1, none⟩ = some (.int .i64 a2) := Blk.cell B15.out.blk 1
  have ca2 : w13.cell? ⟨w1.heap.size, 2, none⟩ = some (.string a3) := Blk.cell B15.out.blk 2
  have la := B15.out.blk.lt
  have cx0 : w13.cell? ⟨w.heap.size + 1, 0, none⟩ = some (.int .i64 x1) := Blk.cell B14.out.blk 0
  have cx1 : w13.cell? ⟨w.heap.size + 1, 1, none⟩ = some (.int .i64 x2) := Blk.cell B14.out.blk 1
  have cx2 : w13.cell? ⟨w.heap.size + 1, 2, none⟩ = some (.string x3) := Blk.cell B14.out.blk 2
  have cx3 : w13.cell? ⟨w.heap.size + 1, 3, none⟩ = some (.int .i64 y1) := Blk.cell B14.out.blk 3
  have cx4 : w13.cell? ⟨w.heap.size + 1, 4, none⟩ = some (.int .i64 y2) := Blk.cell B14.out.blk 4
  have cx5 : w13.cell? ⟨w.heap.size + 1, 5, none⟩ = some (.string y3) := Blk.cell B14.out.blk 5
  have lx := B14.out.blk.lt
  go_wp2_with fail
  refine (D16.out.put ⟨a1, a2, a3⟩ ⟨y1, y2, y3⟩ HAK.out.1).mono ?_
  rintro e w18 ⟨rfl, hD, hm⟩
  clear ca0 ca1 ca2 la cx0 cx1 cx2 cx3 cx4 cx5 lx
  have B19 := Lib.hid (B14.out.step hm)
  have B20 := Lib.hid (B15.out.step hm)
  have B21 := Lib.hid (B17.out.step hm)
  have D22 := Lib.hid hD
  clear B14 B15 B17 D16 hm hD
  have HPO := Lib.hid (show putOk L1 ⟨a1, a2, a3⟩ = true by simp [putOk, HM.out])
  rw [HPO.out]
  have HM2 := Lib.hid (find_put_same ⟨y1, y2, y3⟩ HPO.out)
  have HK2 := Lib.hid (keys_put_there ⟨y1, y2, y3⟩ (show (findL L1 ⟨a1, a2, a3⟩).isSome = true by rw [HM.out]; rfl))
  have HML2 : Hid ((putR L1 ⟨a1, a2, a3⟩ ⟨y1, y2, y3⟩).length = L1.length) := Lib.hid (by have := congrArg List.length HK2.out; simpa using this)
  have HMK2 := Lib.hid (HMK.out.put ⟨a1, a2, a3⟩ ⟨y1, y2, y3⟩)
  generalize putR L1 ⟨a1, a2, a3⟩ ⟨y1, y2, y3⟩ = L2 at *
  clear HPO
  go_wp2_with fail
  refine (keys_d D22.out).mono ?_
  rintro e w23 ⟨Aafter, cafter, rfl, hK, hb⟩
  have B24 := Lib.hid (B19.out.new hb)
  have B25 := Lib.hid (B20.out.new hb)
  have B26 := Lib.hid (B21.out.new hb)
  have D27 := Lib.hid (D22.out.new hb)
  clear B19 B20 B21 D22 hb
  have B28 := Lib.hid hK
  clear hK
  obtain ⟨p, hp⟩ : ∃ p : Nat, L2[p]? = some (⟨a1, a2, a3⟩, ⟨y1, y2, y3⟩) := find_some_mem HM2.out
  have HP := Lib.hid hp
  have hpl : p < L1.length := by have := (List.getElem?_eq_some_iff.1 hp).1; have := HML2.out; omega
  have hl41 := HML.out
  have HKP : Hid ((L1.map Prod.fst)[p]? = some ⟨a1, a2, a3⟩) := Lib.hid (by rw [← HK2.out, List.getElem?_map, hp]; rfl)
  rw [HML2.out]
  have HAF := Lib.hid B28.out
  rw [HML2.out, HK2.out] at HAF
  clear hp B28
  go_wp2_with fail
  go_loopw [15, 16] (fun at' i wr => ∃ j q : Nat, j ≤ L1.length ∧ i = .int .i64 j ∧ (at' = .int .i64 (if p < j then (p : Int) else -1)) ∧ wr = w23.drewN q) (fun _ i _ => L1.length - (intOf i).toNat)
  case atStart => exact ⟨0, 0, Nat.zero_le _, rfl, by simp, rfl⟩
  case round =>
    obtain ⟨j, q, hj, rfl, rfl, rfl⟩ := hrel
    by_cases hlt : j < L1.length
    · skip
      obtain ⟨bb, ob, rfl, hbb, u0, u1, u2⟩ := B26.out.rd.at_ hlt
      have hx : ∃ z, (L1.map Prod.fst)[j]'(by rw [List.length_map]; exact hlt) = z := ⟨_, rfl⟩
      obtain ⟨z, hz⟩ := hx
      rw [hz] at u0 u1 u2
      have HZ : Hid ((L1.map Prod.fst)[j]? = some z) := Lib.hid (by rw [List.getElem?_eq_getElem (by rw [List.length_map]; exact hlt), hz])
      obtain ⟨z1, z2, z3⟩ := z
      clear hz
      have ca0 : w23.cell? ⟨w1.heap.size, 0, none⟩ = some (.int .i64 a1) := Blk.cell B25.out.blk 0
      have ca1 : w23.cell? ⟨w1.heap.size, 1, none⟩ = some (.int .i64 a2) := Blk.cell B25.out.blk 1
      have ca2 : w23.cell? ⟨w1.heap.size, 2, none⟩ = some (.string a3) := Blk.cell B25.out.blk 2
      have la := B25.out.blk.lt
      by_cases hjp : j = p
      · have hs : V.same ⟨z1, z2, z3⟩ ⟨a1, a2, a3⟩ = true := V.same_iff.2 (by
          have := HKP.out
          rw [← hjp, HZ.out] at this
          exact Option.some.inj this)
        subst hjp
        go_wp2
        go_quiet (fail)
        go_wp2
        go_roundw
        case rel => exact ⟨j + 1, _, by omega, by go_num, by rw [if_pos (by omega)], rfl⟩
        case measure => simp [intOf]; omega
      · have hs : V.same ⟨z1, z2, z3⟩ ⟨a1, a2, a3⟩ = false := V.same_not.2 (fun e => hjp (nodup_keys HMK.out HZ.out (by rw [e]; exact HKP.out)))
        have hite : (if p < j + 1 then (p : Int) else -1) = (if p < j then (p : Int) else -1) := by
          by_cases h : p < j
          · rw [if_pos h, if_pos (by omega)]
          · rw [if_neg h, if_neg (by omega)]
        generalize (if p < j then (p : Int) else -1) = pp at *
        have HITE := Lib.hid hite
        clear hite
        go_wp2
        go_quiet (fail)
        go_wp2
        go_roundw
        case rel => exact ⟨j + 1, _, by omega, by go_num, by rw [HITE.out], rfl⟩
        case measure => simp [intOf]; omega
    · skip
      rw [if_pos (show p < j by omega)]
      obtain rfl : j = L1.length := by omega
      clear hlt hj
      have hbq : Below w23.heap.size w23 (w23.drewN q) := (by repeat (first | exact Below.refl _ _ | assumption | refine Below.setCell ?_ (by first | (simp; done) | (simp; omega) | omega) _ | refine below_drewN ?_ _ | refine Below.drew ?_ | refine Below.alloc ?_ (by first | (simp; done) | (simp; omega) | omega) _))
      have B29 := Lib.hid (B24.out.new hbq)
      have B30 := Lib.hid (B25.out.new hbq)
      have B31 := Lib.hid (B26.out.new hbq)
      have B32 := Lib.hid (HAF.out.new hbq)
      have D33 := Lib.hid (D27.out.new hbq)
      clear B24 B25 B26 HAF D27 hbq
      go_wp2_with fail
      refine (row_yes _ _ _ _ _ _ _ B31.out.rd B32.out.rd).mono ?_
      rintro e w34 ⟨rfl, hq2⟩
      have hbq : Below (w23.drewN q).heap.size (w23.drewN q) w34 := by
        obtain ⟨q2, rfl⟩ := hq2
        exact (by repeat (first | exact Below.refl _ _ | assumption | refine Below.setCell ?_ (by first | (simp; done) | (simp; omega) | omega) _ | refine below_drewN ?_ _ | refine Below.drew ?_ | refine Below.alloc ?_ (by first | (simp; done) | (simp; omega) | omega) _))
      clear hq2
      have B35 := Lib.hid (B29.out.new hbq)
      have B36 := Lib.hid (B30.out.new hbq)
      have B37 := Lib.hid (B31.out.new hbq)
      have D38 := Lib.hid (D33.out.new hbq)
      clear B29 B30 B31 D33 hbq
      have ca0 : w34.cell? ⟨w1.heap.size, 0, none⟩ = some (.int .i64 a1) := Blk.cell B36.out.blk 0
      have ca1 : w34.cell? ⟨w1.heap.size, 1, none⟩ = some (.int .i64 a2) := Blk.cell B36.out.blk 1
      have ca2 : w34.cell? ⟨w1.heap.size, 2, none⟩ = some (.string a3) := Blk.cell B36.out.blk 2
      have la := B36.out.blk.lt
      go_wp2_with fail
      refine (D38.out.del ⟨a1, a2, a3⟩ HAK.out.1).mono ?_
      rintro e w39 ⟨rfl, hD, hm⟩
      clear ca0 ca1 ca2 la
      have B40 := Lib.hid (B35.out.step hm)
      have B41 := Lib.hid (B36.out.step hm)
      have B42 := Lib.hid (B37.out.step hm)
      have D43 := Lib.hid hD
      clear B35 B36 B37 D38 hm hD
      have HKD : Hid ((delL L2 ⟨a1, a2, a3⟩).map Prod.fst = (L1.map Prod.fst).take p ++ (L1.map Prod.fst).drop (p + 1)) := Lib.hid (by
        have := keys_del HMK2.out HP.out
        rw [HK2.out] at this
        exact this)
      have HFD := Lib.hid (find_del_same L2 ⟨a1, a2, a3⟩)
      have HLD : Hid ((delL L2 ⟨a1, a2, a3⟩).length ≤ 41) := Lib.hid (by have := del_length_le L2 ⟨a1, a2, a3⟩; have := HML2.out; omega)
      generalize delL L2 ⟨a1, a2, a3⟩ = L3 at *
      have HKL1 : Hid ((L1.map Prod.fst).length = L1.length) := Lib.hid (by simp)
      generalize L1.map Prod.fst = K at *
      obtain ⟨bb, rfl⟩ : ∃ bb, Abefore = some ⟨bb, 0, none⟩ := by
        rcases B42.out.own.2 with ⟨_, h0⟩ | ⟨b, _, _, e, _⟩
        · have := HKL1.out; omega
        · injection e with e1 _ _
          exact ⟨b, e1⟩
      have hrb := B42.out.rd
      have hcn : L1.length ≤ cbefore := hrb.2.1
      have hc63 : cbefore ≤ 9223372036854775807 := hrb.2.2.1
      have HRB := Lib.hid hrb
      have hg0 : p ≤ cbefore := by omega
      have hg1 : (0 : Int) ≤ (p : Int) + 1 := by omega
      have hg2 : (p : Int) + 1 ≤ (L1.length : Int) := by omega
      have hg3 : (p : Int) ≤ (p : Int) + 1 := by omega
      have hg4 : (p : Int) ≤ (L1.length : Int) := by omega
      have hwr : IntKind.i64.wrap ((p : Int) + 1) = (p : Int) + 1 := IntWalk.i64_in _ (by omega)
      have HTK : Hid (([] ++ K.take p).length ≤ 41) := Lib.hid (by rw [List.nil_append, List.length_take]; omega)
      have HR1 : Hid (RdV w39 (some ⟨bb, 0, none⟩) p cbefore (K.take p)) := Lib.hid (by
        have h := hrb.shrink (k := p) (c' := cbefore) (by omega) hg0 (Nat.le_refl _)
        exact h)
      have N0 := Lib.hid (NewO.empty 24 3 w39)
      clear hrb
      go_wp2_with fail
      go_cut [17] (fun r wx => Rest w39 (K.take p ++ K.drop (p + 1)) r wx)
      case first =>
        by_cases hc1 : cbefore = p + 1
        · skip
          have HR2 : Hid (RdV w39 (some ⟨bb, 0, none⟩) 0 0 (K.drop (p + 1))) := Lib.hid (by
            have h := HRB.out.hi (k := p + 1) (by omega) (A' := (some ⟨bb, 0, none⟩)) (fun h => by omega)
            have e1 : L1.length - (p + 1) = 0 := by omega
            have e2 : cbefore - (p + 1) = 0 := by omega
            rw [e1, e2] at h
            exact h)
          subst hc1
          go_region_held3 (fun _ => True) (exact trivial)
            (first
            | (refine step_appendV _ rfl (.tmp 84) (.tmp 88) rfl (.slice A8 n8 k8) ([] ++ K.take p) rfl (by exact N8.out.own) (some ⟨bb, 0, none⟩) 0 0 (K.drop (p + 1)) rfl (by exact HR2.out.new N8.out.bel) (by have := HTK.out; omega) ?_; intro v9 w9 own9 grow9 at9; have N9 := Lib.hid (NewO.appV N8.out own9 grow9 at9); clear own9 grow9 at9)
            | (refine step_appendV _ rfl (.tmp 80) (.tmp 83) rfl (.slice (some ⟨w39.heap.size, 0, none⟩) 0 0) [] rfl (by exact (N0.out.below (Below.drew (Below.refl _ _))).own) (some ⟨bb, 0, none⟩) p (p + 1) (K.take p) rfl (by exact HR1.out.new (Below.drew (Below.alloc (Below.refl _ _) (Nat.le_refl _) _))) (by simp only [List.length_nil]; omega) ?_; intro v8 w8 own8 grow8 at8; obtain ⟨A8, n8, k8, rfl, hrd8, -⟩ := OwnV.rd own8; have N8 := Lib.hid (NewO.appV (N0.out.below (Below.drew (Below.refl _ _))) own8 grow8 at8); clear own8 grow8 at8 hrd8))
          all_goals
            go_wp2_with fail
            go_meet
            exact Rest.of N9.out
        · skip
          have HR2 : Hid (RdV w39 (some ⟨bb, (p + 1) * 3, none⟩) (L1.length - (p + 1)) (cbefore - (p + 1)) (K.drop (p + 1))) := Lib.hid (by
            have h := HRB.out.hi (k := p + 1) (by omega) (A' := (some ⟨bb, (p + 1) * 3, none⟩)) (fun h => by rw [Option.map_some, addr_none, Nat.zero_add])
            skip
            skip
            skip
            exact h)
          have hc2 : ¬ cbefore = p + 1 := hc1
          go_region_held3 (fun _ => True) (exact trivial)
            (first
            | (refine step_appendV _ rfl (.tmp 84) (.tmp 88) rfl (.slice A8 n8 k8) ([] ++ K.take p) rfl (by exact N8.out.own) (some ⟨bb, (p + 1) * 3, none⟩) (L1.length - (p + 1)) (cbefore - (p + 1)) (K.drop (p + 1)) rfl (by exact HR2.out.new N8.out.bel) (by have := HTK.out; omega) ?_; intro v9 w9 own9 grow9 at9; have N9 := Lib.hid (NewO.appV N8.out own9 grow9 at9); clear own9 grow9 at9)
            | (refine step_appendV _ rfl (.tmp 80) (.tmp 83) rfl (.slice (some ⟨w39.heap.size, 0, none⟩) 0 0) [] rfl (by exact (N0.out.below (Below.drew (Below.refl _ _))).own) (some ⟨bb, 0, none⟩) p cbefore (K.take p) rfl (by exact HR1.out.new (Below.drew (Below.alloc (Below.refl _ _) (Nat.le_refl _) _))) (by simp only [List.length_nil]; omega) ?_; intro v8 w8 own8 grow8 at8; obtain ⟨A8, n8, k8, rfl, hrd8, -⟩ := OwnV.rd own8; have N8 := Lib.hid (NewO.appV (N0.out.below (Below.drew (Below.refl _ _))) own8 grow8 at8); clear own8 grow8 at8 hrd8))
          all_goals
            go_wp2_with fail
            go_meet
            exact Rest.of N9.out
      case rest =>
        rename_i wx
        have hR : Rest _ _ _ _ := hcut
        obtain ⟨A9, c9, rfl, -, -⟩ := Own.rd hR.own
        have HLR : Hid ((K.take p ++ K.drop (p + 1)).length = L3.length) := Lib.hid (by have := congrArg List.length HKD.out; simpa using this.symm)
        have HRB0 := Lib.hid (BesO.of D43.out.z hR rfl)
        have hbR := hR.bel
        have HRNEW : Hid (∀ b, (Value.slice A9 (K.take p ++ K.drop (p + 1)).length c9).ownBlock = some b → w0.heap.size ≤ b ∧ b ≠ w1.heap.size) := Lib.hid (fun b e => by
          have h1 := hR.new b e
          have h2 := D43.out.z.bel.size
          have h3 := B41.out.blk.lt
          omega)
        generalize hRR : K.take p ++ K.drop (p + 1) = R at *
        clear hRR hR HRB HR1 HTK N0 hg0 hg1 hg2 hg3 hg4 hwr hcn hc63 hpl
        have B44 := Lib.hid (B40.out.new hbR)
        have B45 := Lib.hid (B41.out.new hbR)
        have D46 := Lib.hid (D43.out.new hbR)
        clear B40 B41 D43 hbR
        rw [HLR.out] at HRNEW ⊢
        go_wp2_with fail
        refine (keys_d D46.out).mono ?_
        rintro e w47 ⟨Aless, cless, rfl, hK, hb⟩
        have B48 := Lib.hid (B44.out.new hb)
        have B49 := Lib.hid (B45.out.new hb)
        have B50 := Lib.hid (HRB0.out.new hb)
        have D51 := Lib.hid (D46.out.new hb)
        clear B44 B45 HRB0 D46 hb
        have B52 := Lib.hid hK
        clear hK
        have ca0 : w47.cell? ⟨w1.heap.size, 0, none⟩ = some (.int .i64 a1) := Blk.cell B49.out.blk 0
        have ca1 : w47.cell? ⟨w1.heap.size, 1, none⟩ = some (.int .i64 a2) := Blk.cell B49.out.blk 1
        have ca2 : w47.cell? ⟨w1.heap.size, 2, none⟩ = some (.string a3) := Blk.cell B49.out.blk 2
        have la := B49.out.blk.lt
        have cx0 : w47.cell? ⟨w.heap.size + 1, 0, none⟩ = some (.int .i64 x1) := Blk.cell B48.out.blk 0
        have cx1 : w47.cell? ⟨w.heap.size + 1, 1, none⟩ = some (.int .i64 x2) := Blk.cell B48.out.blk 1
        have cx2 : w47.cell? ⟨w.heap.size + 1, 2, none⟩ = some (.string x3) := Blk.cell B48.out.blk 2
        have cx3 : w47.cell? ⟨w.heap.size + 1, 3, none⟩ = some (.int .i64 y1) := Blk.cell B48.out.blk 3
        have cx4 : w47.cell? ⟨w.heap.size + 1, 4, none⟩ = some (.int .i64 y2) := Blk.cell B48.out.blk 4
        have cx5 : w47.cell? ⟨w.heap.size + 1, 5, none⟩ = some (.string y3) := Blk.cell B48.out.blk 5
        have lx := B48.out.blk.lt
        go_wp2_with fail
        refine (D51.out.put ⟨a1, a2, a3⟩ ⟨x1, x2, x3⟩ HAK.out.1).mono ?_
        rintro e w53 ⟨rfl, hD, hm⟩
        clear ca0 ca1 ca2 la cx0 cx1 cx2 cx3 cx4 cx5 lx
        have B54 := Lib.hid (B48.out.step hm)
        have B55 := Lib.hid (B49.out.step hm)
        have B56 := Lib.hid (B50.out.step hm)
        have B57 := Lib.hid (B52.out.step hm)
        have D58 := Lib.hid hD
        clear B48 B49 B50 B52 D51 hm hD
        have HPO := Lib.hid (putOk_small (L := L3) (x := ⟨a1, a2, a3⟩) HAK.out.2 (by have := HLD.out; omega))
        rw [HPO.out]
        have HK4 := Lib.hid (keys_put_new ⟨x1, x2, x3⟩ HFD.out HAK.out.2 (by have := HLD.out; omega))
        rw [HKD.out] at HK4
        generalize putR L3 ⟨a1, a2, a3⟩ ⟨x1, x2, x3⟩ = L4 at *
        clear HPO
        have hless := B57.out
        rw [HKD.out] at hless
        have hrest := B56.out
        have HLESS := Lib.hid hless.rd
        have hrest_rd : RdV w53 A9 L3.length c9 R := by
          have h := hrest
          rw [HLR.out] at h
          exact h.rd
        have HRESTRD := Lib.hid hrest_rd
        have HREST : Hid (OwnV w53 (.slice A9 L3.length c9) R) := Lib.hid (by
          have h := hrest.own
          rw [HLR.out] at h
          show Own _ 24 3 _ R.length _
          rw [HLR.out]
          exact h)
        clear hless hrest hrest_rd
        have HBA := Lib.hid B55.out.blk
        have HD := Lib.hid D58.out
        have hbd : Below w53.heap.size w53 w53.drew := (by repeat (first | exact Below.refl _ _ | assumption | refine Below.setCell ?_ (by first | (simp; done) | (simp; omega) | omega) _ | refine below_drewN ?_ _ | refine Below.drew ?_ | refine Below.alloc ?_ (by first | (simp; done) | (simp; omega) | omega) _))
        have S0 := Lib.hid (bes_V B55.out)
        have SD := Lib.hid (bes_V (B55.out.new hbd))
        have h3 := HLD.out
        have hL4 : Hid (L4.length = L3.length + 1) := Lib.hid (by have := congrArg List.length HK4.out; rw [List.length_map, List.length_append, HLR.out] at this; exact this)
        clear hbd B55 B54 B57 B56 D58
        go_wp2_with fail
        go_region_held3 (fun w' => w'.cell? ⟨w1.heap.size, 0, none⟩ = some (.int .i64 a1) ∧ w'.cell? ⟨w1.heap.size, 1, none⟩ = some (.int .i64 a2) ∧ w'.cell? ⟨w1.heap.size, 2, none⟩ = some (.string a3))
          (first | exact SC.out | exact SB.out | exact SA1.out | exact SA.out | exact SD.out | exact S0.out | go_keep)
          (first
          | (go_at_call 17; refine (row_yes _ _ L4.length c4 c5 (R ++ [⟨a1, a2, a3⟩]) _ HKF.out HRF.out).mono ?_; rintro e w44 ⟨rfl, hq⟩; have hb44 := below_q hq; have SC := Lib.hid (cells_new SB.out HBA5.out hb44); have HE44 := Lib.hid (HBE.out.trans (hb44.mono HBE.out.size)); clear hb44 hq)
          | (refine step_appendVg _ (by rfl) (.tmp 106) (.tmp 108) rfl (.slice A9 L3.length c9) R rfl (by exact HR41.out) (some ⟨w40.heap.size, 0, none⟩) 1 1 [⟨a1, a2, a3⟩] rfl (by exact HONE.out) (by have := HLR.out; omega) ?_; intro v5 w5 o5 g5 a5; obtain ⟨A5, n5, c5, rfl, hr5, -⟩ := OwnV.rd o5; have e5 : n5 = L4.length := (by have h1 := hr5.1; have h2 := hL4.out; rw [List.length_append, HLR.out] at h1; simp at h1; omega); subst e5; have HRF := Lib.hid hr5; have m5 : Mod (fun i => (Value.slice A9 L3.length c9).ownBlock = some i) w41 w5 := Mod.grown (Mod.refl _ _) g5 (fun k e _ => e); have HKF := Lib.hid (rd_far HK41.out m5 HFAR.out); have HBA5 := Lib.hid (HBA41.out.mod m5 (fun e => (HRNEW.out _ e).2 rfl)); have SB := Lib.hid (blk_V HBA5.out); have HBE := Lib.hid (below_mod HB41.out m5 (fun i e => (HRNEW.out i e).1)); clear o5 g5 a5 hr5 m5)
          | (refine step_appendVg _ (by rfl) (.tmp 106) (.tmp 108) rfl (.slice A9 L3.length c9) R rfl (by exact HR41.out.new (Below.alloc (Below.refl _ _) (Nat.le_refl _) _)) (some ⟨w41.heap.size, 0, none⟩) 1 1 [⟨a1, a2, a3⟩] rfl (by exact one_rdV w41 ⟨a1, a2, a3⟩) (by have := HLR.out; omega) ?_; intro v5 w5 o5 g5 a5; obtain ⟨A5, n5, c5, rfl, hr5, -⟩ := OwnV.rd o5; have e5 : n5 = L4.length := (by have h1 := hr5.1; have h2 := hL4.out; rw [List.length_append, HLR.out] at h1; simp at h1; omega); subst e5; have HRF := Lib.hid hr5; have m5 : Mod (fun i => (Value.slice A9 L3.length c9).ownBlock = some i) w41 w5 := Mod.grown (Mod.alloc (Mod.refl _ _) _) g5 (fun k e _ => e); have HKF := Lib.hid (rd_far HK41.out m5 HFAR.out); have HBA5 := Lib.hid (HBA41.out.mod m5 (fun e => (HRNEW.out _ e).2 rfl)); have SB := Lib.hid (blk_V HBA5.out); have HBE := Lib.hid (below_mod HB41.out m5 (fun i e => (HRNEW.out i e).1)); clear o5 g5 a5 hr5 m5)
          | (go_at_call 16; refine (keys_any (HD40.out.new (by exact (by repeat (first | exact Below.refl _ _ | assumption | refine Below.setCell ?_ (by first | (simp; done) | (simp; omega) | omega) _ | refine below_drewN ?_ _ | refine Below.drew ?_ | refine Below.alloc ?_ (by first | (simp; done) | (simp; omega) | omega) _)))).d).mono ?_; rintro e w41 ⟨v4, rfl, hN4⟩; obtain ⟨A4, c4, rfl, -, -⟩ := Own.rd hN4.own; have HK41 := Lib.hid (show Own w41 24 3 (.slice A4 L4.length c4) L4.length (vcs (R ++ [⟨a1, a2, a3⟩])) from (by rw [← HK4.out]; exact hN4.own)); have HFAR := Lib.hid (far_new HR40.out (by exact (by repeat (first | exact Below.refl _ _ | assumption | refine Below.setCell ?_ (by first | (simp; done) | (simp; omega) | omega) _ | refine below_drewN ?_ _ | refine Below.drew ?_ | refine Below.alloc ?_ (by first | (simp; done) | (simp; omega) | omega) _))) hN4.new); have HR41 := Lib.hid (HR40.out.new (Below.trans (by exact (by repeat (first | exact Below.refl _ _ | assumption | refine Below.setCell ?_ (by first | (simp; done) | (simp; omega) | omega) _ | refine below_drewN ?_ _ | refine Below.drew ?_ | refine Below.alloc ?_ (by first | (simp; done) | (simp; omega) | omega) _))) (hN4.bel.mono (by simp)))); have HBA41 := Lib.hid (HBA40.out.new' (Below.trans (by exact (by repeat (first | exact Below.refl _ _ | assumption | refine Below.setCell ?_ (by first | (simp; done) | (simp; omega) | omega) _ | refine below_drewN ?_ _ | refine Below.drew ?_ | refine Below.alloc ?_ (by first | (simp; done) | (simp; omega) | omega) _))) (hN4.bel.mono (by simp)))); have HB41 := Lib.hid (show Below w0.heap.size w0 w41 from HB40.out.trans (Below.mono (Below.trans (by exact (by repeat (first | exact Below.refl _ _ | assumption | refine Below.setCell ?_ (by first | (simp; done) | (simp; omega) | omega) _ | refine below_drewN ?_ _ | refine Below.drew ?_ | refine Below.alloc ?_ (by first | (simp; done) | (simp; omega) | omega) _))) (hN4.bel.mono (by simp))) HB40.out.size)); have SA1 := Lib.hid (blk_V HBA41.out); have HONE := Lib.hid ((one_rdV w40 ⟨a1, a2, a3⟩).new (show Below (w40.alloc (.cells #[.int .i64 a1, .int .i64 a2, .string a3] 24)).heap.size (w40.alloc (.cells #[.int .i64 a1, .int .i64 a2, .string a3] 24)) w41 from hN4.bel)); clear hN4)
          | (go_at_call 16; refine (keys_any (HD40.out.new (by exact (by repeat (first | exact Below.refl _ _ | assumption | refine Below.setCell ?_ (by first | (simp; done) | (simp; omega) | omega) _ | refine below_drewN ?_ _ | refine Below.drew ?_ | refine Below.alloc ?_ (by first | (simp; done) | (simp; omega) | omega) _)))).d).mono ?_; rintro e w41 ⟨v4, rfl, hN4⟩; obtain ⟨A4, c4, rfl, -, -⟩ := Own.rd hN4.own; have HK41 := Lib.hid (show Own w41 24 3 (.slice A4 L4.length c4) L4.length (vcs (R ++ [⟨a1, a2, a3⟩])) from (by rw [← HK4.out]; exact hN4.own)); have HFAR := Lib.hid (far_new HR40.out (by exact (by repeat (first | exact Below.refl _ _ | assumption | refine Below.setCell ?_ (by first | (simp; done) | (simp; omega) | omega) _ | refine below_drewN ?_ _ | refine Below.drew ?_ | refine Below.alloc ?_ (by first | (simp; done) | (simp; omega) | omega) _))) hN4.new); have HR41 := Lib.hid (HR40.out.new (Below.trans (by exact (by repeat (first | exact Below.refl _ _ | assumption | refine Below.setCell ?_ (by first | (simp; done) | (simp; omega) | omega) _ | refine below_drewN ?_ _ | refine Below.drew ?_ | refine Below.alloc ?_ (by first | (simp; done) | (simp; omega) | omega) _))) (hN4.bel.mono (by simp)))); have HBA41 := Lib.hid (HBA40.out.new' (Below.trans (by exact (by repeat (first | exact Below.refl _ _ | assumption | refine Below.setCell ?_ (by first | (simp; done) | (simp; omega) | omega) _ | refine below_drewN ?_ _ | refine Below.drew ?_ | refine Below.alloc ?_ (by first | (simp; done) | (simp; omega) | omega) _))) (hN4.bel.mono (by simp)))); have HB41 := Lib.hid (show Below w0.heap.size w0 w41 from HB40.out.trans (Below.mono (Below.trans (by exact (by repeat (first | exact Below.refl _ _ | assumption | refine Below.setCell ?_ (by first | (simp; done) | (simp; omega) | omega) _ | refine below_drewN ?_ _ | refine Below.drew ?_ | refine Below.alloc ?_ (by first | (simp; done) | (simp; omega) | omega) _))) (hN4.bel.mono (by simp))) HB40.out.size)); have SA1 := Lib.hid (blk_V HBA41.out); clear hN4)
          | (go_at_call 17; refine (row_yes _ _ _ _ _ R _ (HLESS.out.new (by exact (by repeat (first | exact Below.refl _ _ | assumption | refine Below.setCell ?_ (by first | (simp; done) | (simp; omega) | omega) _ | refine below_drewN ?_ _ | refine Below.drew ?_ | refine Below.alloc ?_ (by first | (simp; done) | (simp; omega) | omega) _)))) (HRESTRD.out.new (by exact (by repeat (first | exact Below.refl _ _ | assumption | refine Below.setCell ?_ (by first | (simp; done) | (simp; omega) | omega) _ | refine below_drewN ?_ _ | refine Below.drew ?_ | refine Below.alloc ?_ (by first | (simp; done) | (simp; omega) | omega) _))))).mono ?_; rintro e w40 ⟨rfl, hq⟩; have hb40 : Below w53.heap.size w53 w40 := (by obtain ⟨q, rfl⟩ := hq; exact (by repeat (first | exact Below.refl _ _ | assumption | refine Below.setCell ?_ (by first | (simp; done) | (simp; omega) | omega) _ | refine below_drewN ?_ _ | refine Below.drew ?_ | refine Below.alloc ?_ (by first | (simp; done) | (simp; omega) | omega) _))); have HD40 := Lib.hid (HD.out.new hb40); have HR40 := Lib.hid (show OwnV w40 (.slice A9 L3.length c9) R from Own.new HREST.out hb40); have HBA40 := Lib.hid (HBA.out.new' hb40); have HB40 := Lib.hid HD40.out.z.bel; have SA := Lib.hid (blk_V HBA40.out); clear hb40 hq))
        all_goals
          go_wp2_with fail
          go_ret
          exact ⟨rfl, HBW.out.trans (HE44.out.mono HBW.out.size)⟩
end Go.Proofs.Ytfdihmbmlhlkgaa
