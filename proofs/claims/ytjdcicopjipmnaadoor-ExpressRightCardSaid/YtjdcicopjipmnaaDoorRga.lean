/- The document's Right: rows of numbers; expr, exprs, ops, Kids. -/
import Derived.Test.YtjdcicopjipmnaaDoorEql
namespace Go.Proofs.YtjdcicopjipmnaaDoor
open Go.RowKit
set_option linter.unusedVariables false
set_option linter.unusedSimpArgs false
def exprB3 (op : Int) : Bool := decide (1 ≤ op) && decide (op ≤ 21)
set_option maxRecDepth 100000 in
theorem expr3_any (op : Int) (w : World) : Calls Tryd.prog 39 #[.int .i64 op] w fun e w' => e = .returned (.bool (exprB3 op)) ∧ w' = w := by
  unfold exprB3
  by_cases h1 : 1 ≤ op
  · have d1 : decide (1 ≤ op) = true := decide_eq_true h1
    rw [d1, Bool.true_and]
    go_enter Tryd.func39, Tryd.ntmps39
    go_wp2_with fail
    go_ret
    exact ⟨rfl, rfl⟩
  · have d1 : decide (1 ≤ op) = false := decide_eq_false h1
    rw [d1, Bool.false_and]
    go_enter Tryd.func39, Tryd.ntmps39
    go_wp2_with fail
    go_ret
    exact ⟨rfl, rfl⟩
/-- new since w: a row of numbers -/
structure NewI (w wr : World) (v : Value) (xs : List Int) : Prop where
  own : OwnI wr v xs
  new : ∀ b, v.ownBlock = some b → w.heap.size ≤ b
  bel : Below w.heap.size w wr
set_option maxRecDepth 100000 in
set_option maxHeartbeats 4000000 in
theorem exprs_any {w : World} {A : Option Addr} {n c : Nat} {xs : List Int} (h : Rd w A n c 1 (ics xs)) (hn : xs.length = n) (hx : ∀ x ∈ xs, 1 ≤ x ∧ x ≤ 21) : Calls Tryd.prog 62 #[.slice A n c] w fun e w' => e = .returned (.bool true) ∧ w' = w := by
  have H := Lib.hid h
  have HN := Lib.hid hn
  have HX := Lib.hid hx
  have hbig : n ≤ 9223372036854775807 := Nat.le_trans h.1 h.2.1
  clear h hn hx
  go_enter Tryd.func62, Tryd.ntmps62
  go_wp2_with fail
  go_loopw [3, 4] (fun v3 v4 wr => ∃ i : Nat, i ≤ n ∧ v3 = .int .i64 i ∧ wr = w) (fun v3 _ _ => n - (intOf v3).toNat)
  case atStart => exact ⟨0, Nat.zero_le _, rfl, rfl⟩
  case round =>
    obtain ⟨i, hi, rfl, rfl⟩ := hrel
    by_cases hlt : i < n
    · obtain ⟨x, hx⟩ : ∃ x, xs[i]? = some x := ⟨_, List.getElem?_eq_getElem (by have := HN.out; omega)⟩
      obtain ⟨b, o, rfl, hb, p0⟩ := H.out.kid hx (by omega)
      have h2 := HX.out x (List.mem_of_getElem? hx)
      have h3 : exprB3 x = true := by unfold exprB3; simp [h2]
      have HX3 := Lib.hid h3
      clear hx h2 h3
      go_wp2_with (go_at_call 39; go_must (refine (expr3_any x _).mono ?_); rintro e w2 ⟨rfl, rfl⟩; rw [HX3.out])
      go_round
      case rel => exact ⟨i + 1, by omega, by go_num, by first | trivial | rfl⟩
      case measure => simp [intOf]; omega
    · go_wp2_with fail
      go_ret
      exact ⟨rfl, rfl⟩
/-- appended to: still new -/
theorem NewI.app {w wr W' w6 : World} {v v6 : Value} {xs ys : List Int} (h : NewI w wr v xs) (hb : Below wr.heap.size wr W') (ho : OwnI w6 v6 ys) (hg : W'.grownBy w6 v.ownBlock) (hn : v6.ownBlock = v.ownBlock ∨ v6.ownBlock = some W'.heap.size) : NewI w w6 v6 ys := by
  have hs := h.bel.size
  have hs2 := hb.size
  refine ⟨ho, fun b e => ?_, (h.bel.trans (hb.mono hs)).grown hg (by omega) fun k e => h.new k e⟩
  rcases hn with e' | e' <;> rw [e'] at e
  · exact h.new b e
  · injection e with e
    omega
theorem NewI.nil_ (w : World) : NewI w w (.slice none 0 0) [] := ⟨OwnI.nil_ w, (fun b e => by cases e), Below.refl _ _⟩
/-- an int alone, as a new row -/
theorem Rd.intG {g : Nat} {w : World} (hg : g = w.heap.size) (x : Int) : Rd (w.alloc (.cells #[.int .i64 x] 3)) (some ⟨g, 0, none⟩) 1 1 1 (ics [x]) := by
  subst hg
  exact Rd.ints w [x] _ 1 rfl rfl (by omega)
def opsOf (T : List NodeD) (kids : List Int) : List Int := kids.map fun k => ((T[k.toNat]?).map (·.op)).getD 0
set_option maxRecDepth 100000 in
set_option maxHeartbeats 4000000 in
/-- the Ops of a node's kids -/
theorem ops_any {w : World} {A : Option Addr} {n c i : Nat} {T : List NodeD} {x : NodeD} (h : RdT w A n c T) (hi : T[i]? = some x) (hk : ∀ k ∈ x.kids, 0 ≤ k ∧ k < (i : Int)) (hl : x.kids.length ≤ 4398046511103) : Calls Tryd.prog 61 #[.slice A n c, .int .i64 i] w fun e w' => ∃ v, e = .returned v ∧ NewI w w' v (opsOf T x.kids) := by
  have H := Lib.hid h
  have HN := Lib.hid h.len
  have hbig : n ≤ 9223372036854775807 := h.le
  have hin : i < n := by have := (List.getElem?_eq_some_iff.1 hi).1; have := h.len; omega
  have HI := Lib.hid hi
  have HK := Lib.hid hk
  obtain ⟨km, hkm⟩ : ∃ km, x.kids.length = km := ⟨_, rfl⟩
  have HKM := Lib.hid hkm
  rw [hkm] at hl
  clear h hi hk hkm
  go_enter Tryd.func61, Tryd.ntmps61
  go_wp2_with fail
  go_loopw [5, 6] (fun v5 v6 wr => ∃ (j : Nat) (A1 : Option Addr) (c1 : Nat) (M : List Int), j ≤ km ∧ v6 = .int .i64 j ∧ v5 = .slice A1 M.length c1 ∧ Hid (M = opsOf T (x.kids.take j)) ∧ Hid (M.length = j) ∧ Hid (NewI w wr (.slice A1 M.length c1) M)) (fun _ v6 _ => km - (intOf v6).toNat)
  case atStart => exact ⟨0, none, 0, [], Nat.zero_le _, rfl, rfl, Lib.hid rfl, Lib.hid rfl, Lib.hid (NewI.nil_ w)⟩
  case round =>
    obtain ⟨j, A1, c1, M, hj, rfl, rfl, HM, HMl, HW⟩ := hrel
    obtain ⟨b, o, K, d, rfl, hb, -, -, -, -, p4, hkr⟩ := (H.out.stay (StayC.bel HW.out.bel)).nth HI.out
    rw [HKM.out] at p4 hkr
    by_cases hlt : j < km
    · obtain ⟨y, hy⟩ : ∃ y, x.kids[j]? = some y := ⟨_, List.getElem?_eq_getElem (by have := HKM.out; omega)⟩
      obtain ⟨b1, o1, rfl, hb1, q0⟩ := hkr.kid hy (by omega)
      obtain ⟨hy0, hyi⟩ := HK.out y (List.mem_of_getElem? hy)
      obtain ⟨yn, rfl⟩ := Int.eq_ofNat_of_zero_le hy0
      have hyn : yn < n := by omega
      obtain ⟨z, hz⟩ : ∃ z, T[yn]? = some z := ⟨_, List.getElem?_eq_getElem (by have := HN.out; omega)⟩
      obtain ⟨b2, o2, K2, d2, e2, hb2, r0, -, -, -, -, -⟩ := (H.out.stay (StayC.bel HW.out.bel)).nth hz
      cases e2
      have hml : M.length ≤ 4398046511103 := by have := HMl.out; omega
      have HY := Lib.hid (And.intro hy hz)
      clear hkr hy hz hy0 hyi
      go_wp2_with (at_builtin; go_must (refine wpList_appendN _ rfl _ _ rfl (.slice A1 M.length c1) M rfl (OwnI.bel HW.out.own (by exact (by repeat (first | exact Below.refl _ _ | assumption | refine Below.setCell ?_ (by first | (simp; done) | (simp; omega) | omega) _ | refine below_drewN ?_ _ | refine Below.drew ?_ | refine Below.alloc ?_ (by first | (simp; done) | (simp; omega) | omega) _)))) _ 1 1 [z.op] rfl (Rd.intG rfl z.op) rfl (by omega) ?_); intro v6 w6 ho6 hg6 hn6; have HW6 := Lib.hid (HW.out.app (by exact (by repeat (first | exact Below.refl _ _ | assumption | refine Below.setCell ?_ (by first | (simp; done) | (simp; omega) | omega) _ | refine below_drewN ?_ _ | refine Below.drew ?_ | refine Below.alloc ?_ (by first | (simp; done) | (simp; omega) | omega) _))) ho6 hg6 hn6); generalize hG : M ++ [z.op] = G at ho6 HW6; obtain ⟨A2, c2, rfl, -, -⟩ := Own.rd ho6; have HG := Lib.hid hG; clear hG ho6 hg6 hn6 p4 q0 r0 hb hb1)
      go_round
      case rel => exact ⟨j + 1, A2, c2, G, by omega, by go_num, rfl, Lib.hid (by rw [← HG.out, HM.out, List.take_add_one, HY.out.1]; simp [opsOf, HY.out.2]), Lib.hid (by rw [← HG.out, List.length_append, HMl.out]; rfl), HW6⟩
      case measure => simp [intOf]; omega
    · go_wp2_with fail
      go_ret
      have e : opsOf T x.kids = M := by
        rw [HM.out, List.take_of_length_le (by have := HKM.out; omega)]
      rw [e]
      exact ⟨_, rfl, HW.out⟩
set_option maxRecDepth 100000 in
set_option maxHeartbeats 4000000 in
/-- a node's kids: all of them -/
theorem kids3_any {w : World} {A : Option Addr} {n c i : Nat} {T : List NodeD} {x : NodeD} (h : RdT w A n c T) (hi : T[i]? = some x) (hk : ∀ k ∈ x.kids, 0 ≤ k ∧ k < (i : Int)) (hl : x.kids.length ≤ 4398046511103) : Calls Tryd.prog 38 #[.slice A n c, .int .i64 i] w fun e w' => ∃ v, e = .returned v ∧ NewI w w' v x.kids := by
  have H := Lib.hid h
  have hbig : n ≤ 9223372036854775807 := h.le
  have hin : i < n := by have := (List.getElem?_eq_some_iff.1 hi).1; have := h.len; omega
  have HI := Lib.hid hi
  have HK := Lib.hid hk
  obtain ⟨km, hkm⟩ : ∃ km, x.kids.length = km := ⟨_, rfl⟩
  have HKM := Lib.hid hkm
  rw [hkm] at hl
  have hd0 : decide ((i : Int) < 0) = false := decide_eq_false (by omega)
  have hd1 : decide (n ≤ i) = false := decide_eq_false (by omega)
  clear h hi hk hkm
  go_enter Tryd.func38, Tryd.ntmps38
  go_wp2_with fail
  go_loopw [5, 6, 7] (fun v5 v6 v7 wr => ∃ (j : Nat) (A1 : Option Addr) (c1 : Nat) (M : List Int), j ≤ km ∧ v6 = .int .i64 j ∧ v5 = .slice A1 M.length c1 ∧ Hid (M = x.kids.take j) ∧ Hid (M.length = j) ∧ Hid (NewI w wr (.slice A1 M.length c1) M)) (fun _ v6 _ _ => km - (intOf v6).toNat)
  case atStart => exact ⟨0, none, 0, [], Nat.zero_le _, rfl, rfl, Lib.hid rfl, Lib.hid rfl, Lib.hid (NewI.nil_ w)⟩
  case round =>
    obtain ⟨j, A1, c1, M, hj, rfl, rfl, HM, HMl, HW⟩ := hrel
    obtain ⟨b, o, K, d, rfl, hb, -, -, -, -, p4, hkr⟩ := (H.out.stay (StayC.bel HW.out.bel)).nth HI.out
    rw [HKM.out] at p4 hkr
    by_cases hlt : j < km
    · obtain ⟨y, hy⟩ : ∃ y, x.kids[j]? = some y := ⟨_, List.getElem?_eq_getElem (by have := HKM.out; omega)⟩
      obtain ⟨b1, o1, rfl, hb1, q0⟩ := hkr.kid hy (by omega)
      obtain ⟨hy0, hyi⟩ := HK.out y (List.mem_of_getElem? hy)
      have d0 : decide (0 ≤ y) = true := decide_eq_true hy0
      have d1 : decide (y < (i : Int)) = true := decide_eq_true hyi
      have hml : M.length ≤ 4398046511103 := by have := HMl.out; omega
      have HY := Lib.hid hy
      clear hkr hy
      go_wp2_with (at_builtin; go_must (refine wpList_appendN _ rfl _ _ rfl (.slice A1 M.length c1) M rfl (OwnI.bel HW.out.own (by exact (by repeat (first | exact Below.refl _ _ | assumption | refine Below.setCell ?_ (by first | (simp; done) | (simp; omega) | omega) _ | refine below_drewN ?_ _ | refine Below.drew ?_ | refine Below.alloc ?_ (by first | (simp; done) | (simp; omega) | omega) _)))) _ 1 1 [y] rfl (Rd.intG rfl y) rfl (by omega) ?_); intro v6 w6 ho6 hg6 hn6; have HW6 := Lib.hid (HW.out.app (by exact (by repeat (first | exact Below.refl _ _ | assumption | refine Below.setCell ?_ (by first | (simp; done) | (simp; omega) | omega) _ | refine below_drewN ?_ _ | refine Below.drew ?_ | refine Below.alloc ?_ (by first | (simp; done) | (simp; omega) | omega) _))) ho6 hg6 hn6); generalize hG : M ++ [y] = G at ho6 HW6; obtain ⟨A2, c2, rfl, -, -⟩ := Own.rd ho6; have HG := Lib.hid hG; clear hG ho6 hg6 hn6 p4 q0 hb hb1)
      go_round
      case rel => exact ⟨j + 1, A2, c2, G, by omega, by go_num, rfl, Lib.hid (by rw [← HG.out, HM.out, List.take_add_one, HY.out]; rfl), Lib.hid (by rw [← HG.out, List.length_append, HMl.out]; rfl), HW6⟩
      case measure => simp [intOf]; omega
    · go_wp2_with fail
      go_ret
      have e : x.kids = M := by
        rw [HM.out, List.take_of_length_le (by have := HKM.out; omega)]
      rw [e]
      exact ⟨_, rfl, HW.out⟩
end Go.Proofs.YtjdcicopjipmnaaDoor
