/- The document's Right: depths. The document's Right: texts among some, and names. The document's Right: params. -/
import Derived.Test.YtjdcicopjipmnaaDoorRga
import Derived.Test.YtjdcicopjipmnaaDoorTid
namespace Go.Proofs.YtjdcicopjipmnaaDoor
open Go.RowKit
set_option linter.unusedVariables false
set_option linter.unusedSimpArgs false
def atI (D : List Int) (k : Int) : Int := (D[k.toNat]?).getD 0
def maxK (D : List Int) (kids : List Int) : Int := kids.foldl (fun m k => max m (atI D k)) 0
def dpL (T : List NodeD) : List Int := T.foldl (fun D x => D ++ [maxK D x.kids + 1]) []
theorem dpL_snoc (T : List NodeD) (x : NodeD) : dpL (T ++ [x]) = dpL T ++ [maxK (dpL T) x.kids + 1] := by unfold dpL; rw [List.foldl_append]; rfl
theorem dpL_take {T : List NodeD} {i : Nat} {x : NodeD} (h : T[i]? = some x) : dpL (T.take (i + 1)) = dpL (T.take i) ++ [maxK (dpL (T.take i)) x.kids + 1] := by
  rw [List.take_add_one, h]
  exact dpL_snoc _ _
theorem maxK_snoc (D kids : List Int) (k : Int) : maxK D (kids ++ [k]) = max (maxK D kids) (atI D k) := by unfold maxK; rw [List.foldl_append]; rfl
theorem maxK_le {D : List Int} {b : Int} (hb : 0 ≤ b) (h : ∀ v ∈ D, 0 ≤ v ∧ v ≤ b) : ∀ (kids : List Int), 0 ≤ maxK D kids ∧ maxK D kids ≤ b := by
  have key : ∀ (kids : List Int) (m : Int), 0 ≤ m → m ≤ b → 0 ≤ kids.foldl (fun m k => max m (atI D k)) m ∧ kids.foldl (fun m k => max m (atI D k)) m ≤ b := by
    intro kids
    induction kids with
    | nil => exact fun m h0 h1 => ⟨h0, h1⟩
    | cons k kids ih =>
      intro m h0 h1
      have hk : 0 ≤ atI D k ∧ atI D k ≤ b := by
        unfold atI
        cases hx : D[k.toNat]? with
        | none => simp [hb]
        | some v => exact h v (List.mem_of_getElem? hx)
      exact ih (max m (atI D k)) (by omega) (by omega)
  exact fun kids => key kids 0 (Int.le_refl _) hb
theorem dpL_ok (T : List NodeD) : ∀ i, i ≤ T.length → (dpL (T.take i)).length = i ∧ ∀ v ∈ dpL (T.take i), 0 ≤ v ∧ v ≤ (i : Int)
  | 0, h => ⟨by simp [dpL], fun v hv => by simp [dpL] at hv⟩
  | i + 1, h => by
    obtain ⟨h1, h2⟩ := dpL_ok T i (by omega)
    rw [dpL_take (List.getElem?_eq_getElem (show i < T.length by omega))]
    have h3 := maxK_le (b := (i : Int)) (by omega) h2 (T[i]).kids
    refine ⟨by simp [h1], fun v hv => ?_⟩
    rcases List.mem_append.1 hv with hv | hv
    · have := h2 v hv
      omega
    · rw [List.mem_singleton.1 hv]
      omega
theorem ics_set (R : List Int) (i : Nat) (u : Int) : (ics R).set i (.int .i64 u) = ics (R.set i u) := by simp [ics, List.map_set]
/-- a number of one's own row is set -/
theorem OwnI.set_ {w : World} {g n c i : Nat} {R : List Int} {y : Int} (h : OwnI w (.slice (some ⟨g, 0, none⟩) n c) R) (hn : R.length = n) (hi : R[i]? = some y) (u : Int) :
    w.cell? ⟨g, i, none⟩ = some (.int .i64 y) ∧ w.frozen? ⟨g, i, none⟩ = false ∧ OwnI (w.setCell ⟨g, i, none⟩ (.int .i64 u)) (.slice (some ⟨g, 0, none⟩) n c) (R.set i u) := by
  subst hn
  have hlt := (List.getElem?_eq_some_iff.1 hi).1
  obtain ⟨h1, h2, h3⟩ := Own.set_ (j := i) h (by omega) (.int .i64 u)
  refine ⟨?_, h2, ?_⟩
  · rw [h1]
    simp [ics, hi]
  · unfold OwnI
    rw [List.length_set, ← ics_set]
    exact h3
theorem OwnI.cell {w : World} {g n c i : Nat} {R : List Int} {y : Int} (h : OwnI w (.slice (some ⟨g, 0, none⟩) n c) R) (hn : R.length = n) (hi : R[i]? = some y) : w.cell? ⟨g, i, none⟩ = some (.int .i64 y) := (h.set_ hn hi 0).1
theorem OwnI.made0 (w : World) (n : Nat) (hn : n ≤ 9223372036854775807) : OwnI (w.alloc (.cells (List.replicate n (.int .i64 0)).toArray 3)) (.slice (some ⟨w.heap.size, 0, none⟩) n n) (List.replicate n 0) := by
  have h := Own.made (t := 3) (sz := 1) w (List.replicate n (.int .i64 0)).toArray n hn (by simp)
  unfold OwnI
  simp only [List.length_replicate, ics, List.map_replicate]
  exact h
theorem at_app0 {D : List Int} {i : Nat} (h : D.length = i) {m : Nat} (hm : 0 < m) : (D ++ List.replicate m (0 : Int))[i]? = some 0 := by
  rw [List.getElem?_append_right (by omega), h, Nat.sub_self]
  simp [hm]
set_option maxRecDepth 100000 in
set_option maxHeartbeats 8000000 in
theorem depths3_any {w : World} {A : Option Addr} {n c : Nat} {T : List NodeD} (h : RdT w A n c T) (hK : KidsOk T) (hl : ∀ (i : Nat) (x : NodeD), T[i]? = some x → x.kids.length ≤ 4398046511103) (hbig : n ≤ 1099511627776) : Calls Tryd.prog 37 #[.slice A n c] w fun e w' => ∃ v, e = .returned v ∧ NewI w w' v (dpL T) := by
  have H := Lib.hid h
  have HN := Lib.hid h.len
  have HKO := Lib.hid hK
  have HKL := Lib.hid hl
  have HMK := Lib.hid (make_I n (by omega) w)
  have HR0 : Hid (OwnI _ _ (List.replicate n 0)) := Lib.hid (OwnI.made0 w n (by omega))
  have HB0 : Hid (Below w.heap.size w (w.alloc (.cells (List.replicate n (.int .i64 0)).toArray 3))) := Lib.hid (by repeat (first | exact Below.refl _ _ | assumption | refine Below.setCell ?_ (by first | (simp; done) | (simp; omega) | omega) _ | refine below_drewN ?_ _ | refine Below.drew ?_ | refine Below.alloc ?_ (by first | (simp; done) | (simp; omega) | omega) _))
  have hmk := HMK.out
  clear h hK hl HMK
  go_enter Tryd.func37, Tryd.ntmps37
  go_wp2_with fail
  clear hmk
  go_loopw [4, 5, 6] (fun v4 v5 v6 wr => ∃ (i : Nat) (R : List Int), i ≤ n ∧ v4 = .int .i64 i ∧ Hid (R = dpL (T.take i) ++ List.replicate (n - i) 0) ∧ Hid (R.length = n) ∧ Hid (OwnI wr (.slice (some ⟨w.heap.size, 0, none⟩) n n) R) ∧ Hid (Below w.heap.size w wr)) (fun v4 _ _ _ => n - (intOf v4).toNat)
  case atStart => exact ⟨0, _, Nat.zero_le _, rfl, Lib.hid (by simp [dpL]), Lib.hid (by simp), HR0, HB0⟩
  case round =>
    obtain ⟨i, R, hi, rfl, HR, HRl, HO, HB⟩ := hrel
    clear HR0 HB0
    by_cases hlt : i < n
    · obtain ⟨x, hx⟩ : ∃ x, T[i]? = some x := ⟨_, List.getElem?_eq_getElem (by have := HN.out; omega)⟩
      have HX := Lib.hid hx
      obtain ⟨D, hD⟩ : ∃ D, dpL (T.take i) = D := ⟨_, rfl⟩
      have hok := dpL_ok T i (by have := HN.out; omega)
      rw [hD] at hok
      have HD := Lib.hid hD
      have HDO := Lib.hid hok
      obtain ⟨km, hkm⟩ : ∃ km, x.kids.length = km := ⟨_, rfl⟩
      have hkl := HKL.out i x hx
      rw [hkm] at hkl
      have HKM := Lib.hid hkm
      have hlt0 : w.heap.size < wr.heap.size := Own.lt HO.out rfl
      clear hx hD hok hkm
      go_wp2_with (go_at_call 38; go_must (refine (kids3_any (H.out.stay (StayC.bel HB.out)) HX.out (HKO.out i x HX.out) (HKL.out i x HX.out)).mono ?_); rintro e w3 ⟨v, rfl, hn⟩; obtain ⟨A5, c5, rfl, -, -⟩ := Own.rd hn.own; rw [HKM.out] at hn ⊢; have HK5 : Hid (OwnI w3 (.slice A5 km c5) x.kids) := Lib.hid hn.own; have HNE : Hid (∀ b, (Value.slice A5 km c5).ownBlock = some b → w.heap.size ≠ b) := Lib.hid (fun b e => by have := hn.new b e; omega); have HO3 : Hid (OwnI w3 (.slice (some ⟨w.heap.size, 0, none⟩) n n) R) := Lib.hid (OwnI.bel HO.out hn.bel); have HB3 := Lib.hid (HB.out.trans (below_low hn.bel HB.out.size)); clear hn)
      clear HO HB hlt0
      go_loopw [6] (fun v6 wq => ∃ (k : Nat) (M : List Int), k ≤ km ∧ v6 = .int .i64 k ∧ Hid (M = R.set i (maxK D (x.kids.take k))) ∧ Hid (OwnI wq (.slice (some ⟨w.heap.size, 0, none⟩) n n) M) ∧ Hid (OwnI wq (.slice A5 km c5) x.kids) ∧ Hid (Below w.heap.size w wq)) (fun v6 _ => km - (intOf v6).toNat)
      case atStart => exact ⟨0, R, Nat.zero_le _, rfl, Lib.hid (by
        have h1 : R[i]? = some 0 := by rw [HR.out, HD.out]; exact at_app0 HDO.out.1 (by omega)
        have h2 := (List.getElem?_eq_some_iff.1 h1)
        show R = R.set i (maxK D [])
        obtain ⟨h3, h4⟩ := h2
        rw [show maxK D [] = R[i] from by rw [h4]; rfl, List.set_getElem_self]), HO3, HK5, HB3⟩
      case round =>
        obtain ⟨k, M, hk, rfl, HM, HO, HK, HB⟩ := hrel
        clear HO3 HK5 HB3
        have hMl : M.length = n := by rw [HM.out, List.length_set]; exact HRl.out
        by_cases hltk : k < km
        · obtain ⟨y, hy⟩ : ∃ y, x.kids[k]? = some y := ⟨_, List.getElem?_eq_getElem (by have := HKM.out; omega)⟩
          obtain ⟨hy0, hyi⟩ := HKO.out i x HX.out y (List.mem_of_getElem? hy)
          obtain ⟨yn, rfl⟩ := Int.eq_ofNat_of_zero_le hy0
          have hyn : yn < i := by omega
          have hyn2 : yn < n := by omega
          obtain ⟨m0, hm0⟩ : ∃ m0, maxK D (x.kids.take k) = m0 := ⟨_, rfl⟩
          have hRi : i < R.length := by have := HRl.out; omega
          have hMi : M[i]? = some m0 := by rw [HM.out, hm0, List.getElem?_set_self hRi]
          obtain ⟨dy, hdy⟩ : ∃ dy, D[yn]? = some dy := ⟨_, List.getElem?_eq_getElem (by have := HDO.out.1; omega)⟩
          have hMy : M[yn]? = some dy := by rw [HM.out, List.getElem?_set_ne (by omega), HR.out, HD.out, List.getElem?_append_left (by have := HDO.out.1; omega)]; exact hdy
          have hnext : maxK D (x.kids.take (k + 1)) = max m0 dy := by
            rw [List.take_add_one, hy]
            show maxK D (x.kids.take k ++ [(yn : Int)]) = _
            rw [maxK_snoc, hm0]
            unfold atI
            rw [Int.toNat_natCast, hdy]
            rfl
          obtain ⟨p0, f0, hset⟩ := OwnI.set_ HO.out hMl hMi (max m0 dy)
          have p1 := OwnI.cell HO.out hMl hMy
          obtain ⟨A5', c5', e5, hr5, -⟩ := Own.rd HK.out
          injection e5 with e5 e6 e7
          subst e5 e7
          rw [HKM.out] at hr5
          obtain ⟨b5, o5, rfl, hb5, q0⟩ := hr5.kid hy (by omega)
          have hgl : w.heap.size < wr.heap.size := Own.lt HO.out rfl
          have HS := Lib.hid hset
          have HNX := Lib.hid hnext
          have hne := HNE.out b5 rfl
          have HK6 : Hid (OwnI (wr.setCell ⟨w.heap.size, i, none⟩ (.int .i64 (max m0 dy))) (.slice (some ⟨b5, o5, none⟩) km c5) x.kids) := Lib.hid (Own.keep HK.out fun b e => Below.heap_setCell wr ⟨w.heap.size, i, none⟩ _ b (Ne.symm (HNE.out b e)))
          clear hy hy0 hyi hm0 hMi hdy hMy hnext hset hr5 e6
          go_upto_region 9 with fail
          go_still_tail 15, (by kernel_rfl)
          go_wp2_with fail
          go_round
          case rel => exact ⟨k + 1, M.set i (max m0 dy), by omega, by go_num, Lib.hid (by rw [HM.out, List.set_set, HNX.out]), Lib.hid (OwnI.bel HS.out (by repeat (first | exact Below.refl _ _ | assumption | refine Below.setCell ?_ (by first | (simp; done) | (simp; omega) | omega) _ | refine below_drewN ?_ _ | refine Below.drew ?_ | refine Below.alloc ?_ (by first | (simp; done) | (simp; omega) | omega) _))), Lib.hid (OwnI.bel HK6.out (by repeat (first | exact Below.refl _ _ | assumption | refine Below.setCell ?_ (by first | (simp; done) | (simp; omega) | omega) _ | refine below_drewN ?_ _ | refine Below.drew ?_ | refine Below.alloc ?_ (by first | (simp; done) | (simp; omega) | omega) _))), Lib.hid (Below.drew (Below.setCell HB.out (Nat.le_refl _) _))⟩
          case measure => simp [intOf]; omega
        · obtain rfl : k = km := by omega
          obtain ⟨m0, hm0⟩ : ∃ m0, maxK D x.kids = m0 := ⟨_, rfl⟩
          have htk : x.kids.take k = x.kids := List.take_of_length_le (by have := HKM.out; omega)
          have hRi : i < R.length := by have := HRl.out; omega
          have hMi : M[i]? = some m0 := by rw [HM.out, htk, hm0, List.getElem?_set_self hRi]
          have hmb := maxK_le (b := (i : Int)) (by omega) HDO.out.2 x.kids
          rw [hm0] at hmb
          obtain ⟨hmb0, hmb1⟩ := hmb
          have hwm : wrap64 (m0 + 1) = m0 + 1 := by unfold wrap64; omega
          obtain ⟨p0, f0, hset⟩ := OwnI.set_ HO.out hMl hMi (m0 + 1)
          have hgl : w.heap.size < wr.heap.size := Own.lt HO.out rfl
          have HS := Lib.hid hset
          have HM0 := Lib.hid hm0
          clear hset hMi hm0
          go_wp2_with fail
          go_round
          case rel =>
            refine ⟨i + 1, M.set i (m0 + 1), by omega, by go_num, Lib.hid ?_, Lib.hid (by rw [List.length_set]; exact hMl), HS, Lib.hid (Below.setCell HB.out (Nat.le_refl _) _)⟩
            rw [HM.out, List.set_set, dpL_take HX.out, HR.out, HD.out, HM0.out, List.set_append_right _ _ (by have := HDO.out.1; omega), HDO.out.1, Nat.sub_self, show n - i = (n - (i + 1)) + 1 from by omega, List.replicate_succ, List.set_cons_zero]
            simp
          case measure => simp [intOf]; omega
    · obtain rfl : i = n := by omega
      go_wp2_with fail
      go_ret
      refine ⟨_, rfl, ?_⟩
      have e : dpL T = R := by
        have := HN.out
        rw [HR.out, List.take_of_length_le (by omega), Nat.sub_self]
        simp
      rw [e]
      exact ⟨by have := HO.out; rw [show (Value.slice (some ⟨w.heap.size, 0, none⟩) i i) = (Value.slice (some ⟨w.heap.size, 0, none⟩) i i) from rfl] at this; exact this, fun b eb => by have e2 : w.heap.size = b := (by simpa [Value.ownBlock] using eb); omega, HB.out⟩
theorem rep_set {m i : Nat} (h : i < m) : (List.replicate m (0 : Int)).set i 0 = List.replicate m 0 := by simp
theorem rep_at {m i : Nat} (h : i < m) : (List.replicate m (0 : Int))[i]? = some 0 := by simp [h]
set_option maxRecDepth 100000 in
set_option maxHeartbeats 8000000 in
theorem blocks3_any {w : World} {A : Option Addr} {n c : Nat} {T : List NodeD} (h : RdT w A n c T) (hK : KidsOk T) (hl : ∀ (i : Nat) (x : NodeD), T[i]? = some x → x.kids.length ≤ 4398046511103) (hop : ∀ x ∈ T, x.op ≠ 41) (hbig : n ≤ 1099511627776) : Calls Tryd.prog 42 #[.slice A n c] w fun e w' => e = .returned (.int .i64 0) ∧ Below w.heap.size w w' := by
  have H := Lib.hid h
  have HN := Lib.hid h.len
  have HKO := Lib.hid hK
  have HKL := Lib.hid hl
  have HOP := Lib.hid hop
  obtain ⟨n1, hn1⟩ : ∃ n1, n1 = n + 1 := ⟨_, rfl⟩
  have hmk := make_I n1 (by omega) w
  rw [show ((n1 : Nat) : Int) = (n : Int) + 1 from by omega] at hmk
  have HR0 : Hid (OwnI _ _ (List.replicate n1 0)) := Lib.hid (OwnI.made0 w n1 (by omega))
  have HB0 : Hid (Below w.heap.size w (w.alloc (.cells (List.replicate n1 (.int .i64 0)).toArray 3))) := Lib.hid (by repeat (first | exact Below.refl _ _ | assumption | refine Below.setCell ?_ (by first | (simp; done) | (simp; omega) | omega) _ | refine below_drewN ?_ _ | refine Below.drew ?_ | refine Below.alloc ?_ (by first | (simp; done) | (simp; omega) | omega) _))
  have HN1 := Lib.hid hn1
  have hnb : n1 ≤ 1099511627777 := by omega
  clear h hK hl hop hn1
  go_enter Tryd.func42, Tryd.ntmps42
  go_wp2_with fail
  clear hmk
  go_loopw [4, 5, 6] (fun v4 v5 v6 wr => ∃ (i : Nat), i ≤ n ∧ v4 = .int .i64 i ∧ Hid (OwnI wr (.slice (some ⟨w.heap.size, 0, none⟩) n1 n1) (List.replicate n1 0)) ∧ Hid (Below w.heap.size w wr)) (fun v4 _ _ _ => n - (intOf v4).toNat)
  case atStart => exact ⟨0, Nat.zero_le _, rfl, HR0, HB0⟩
  case round =>
    obtain ⟨i, hi, rfl, HO, HB⟩ := hrel
    clear HR0 HB0
    by_cases hlt : i < n
    · obtain ⟨x, hx⟩ : ∃ x, T[i]? = some x := ⟨_, List.getElem?_eq_getElem (by have := HN.out; omega)⟩
      have HX := Lib.hid hx
      obtain ⟨km, hkm⟩ : ∃ km, x.kids.length = km := ⟨_, rfl⟩
      have hkl := HKL.out i x hx
      rw [hkm] at hkl
      have HKM := Lib.hid hkm
      have hlt0 : w.heap.size < wr.heap.size := Own.lt HO.out rfl
      clear hx hkm
      go_wp2_with (go_at_call 38; go_must (refine (kids3_any (H.out.stay (StayC.bel HB.out)) HX.out (HKO.out i x HX.out) (HKL.out i x HX.out)).mono ?_); rintro e w3 ⟨v, rfl, hn⟩; obtain ⟨A5, c5, rfl, -, -⟩ := Own.rd hn.own; rw [HKM.out] at hn ⊢; have HK5 : Hid (OwnI w3 (.slice A5 km c5) x.kids) := Lib.hid hn.own; have HNE : Hid (∀ b, (Value.slice A5 km c5).ownBlock = some b → w.heap.size ≠ b) := Lib.hid (fun b e => by have := hn.new b e; omega); have HO3 : Hid (OwnI w3 (.slice (some ⟨w.heap.size, 0, none⟩) n1 n1) (List.replicate n1 0)) := Lib.hid (OwnI.bel HO.out hn.bel); have HB3 := Lib.hid (HB.out.trans (below_low hn.bel HB.out.size)); clear hn)
      clear HO HB hlt0
      go_loopw [6] (fun v6 wq => ∃ (k : Nat), k ≤ km ∧ v6 = .int .i64 k ∧ Hid (OwnI wq (.slice (some ⟨w.heap.size, 0, none⟩) n1 n1) (List.replicate n1 0)) ∧ Hid (OwnI wq (.slice A5 km c5) x.kids) ∧ Hid (Below w.heap.size w wq)) (fun v6 _ => km - (intOf v6).toNat)
      case atStart => exact ⟨0, Nat.zero_le _, rfl, HO3, HK5, HB3⟩
      case round =>
        obtain ⟨k, hk, rfl, HO, HK, HB⟩ := hrel
        clear HO3 HK5 HB3
        have hin1 : i < n1 := by have := HN1.out; omega
        by_cases hltk : k < km
        · obtain ⟨y, hy⟩ : ∃ y, x.kids[k]? = some y := ⟨_, List.getElem?_eq_getElem (by have := HKM.out; omega)⟩
          obtain ⟨hy0, hyi⟩ := HKO.out i x HX.out y (List.mem_of_getElem? hy)
          obtain ⟨yn, rfl⟩ := Int.eq_ofNat_of_zero_le hy0
          have hyn2 : yn < n1 := by have := HN1.out; omega
          obtain ⟨p0, f0, hset⟩ := OwnI.set_ HO.out (by simp) (rep_at hin1) 0
          have p1 := OwnI.cell HO.out (by simp) (rep_at hyn2)
          rw [rep_set hin1] at hset
          obtain ⟨A5', c5', e5, hr5, -⟩ := Own.rd HK.out
          injection e5 with e5 e6 e7
          subst e5 e7
          rw [HKM.out] at hr5
          obtain ⟨b5, o5, rfl, hb5, q0⟩ := hr5.kid hy (by omega)
          have hgl : w.heap.size < wr.heap.size := Own.lt HO.out rfl
          have HS := Lib.hid hset
          have hne := HNE.out b5 rfl
          have HK6 : Hid (OwnI (wr.setCell ⟨w.heap.size, i, none⟩ (.int .i64 0)) (.slice (some ⟨b5, o5, none⟩) km c5) x.kids) := Lib.hid (Own.keep HK.out fun b e => Below.heap_setCell wr ⟨w.heap.size, i, none⟩ _ b (Ne.symm (HNE.out b e)))
          clear hy hy0 hyi hset hr5 e6
          go_upto_region 9 with fail
          go_still_tail 15, (by kernel_rfl)
          go_wp2_with fail
          go_round
          case rel => exact ⟨k + 1, by omega, by go_num, Lib.hid (OwnI.bel HS.out (by repeat (first | exact Below.refl _ _ | assumption | refine Below.setCell ?_ (by first | (simp; done) | (simp; omega) | omega) _ | refine below_drewN ?_ _ | refine Below.drew ?_ | refine Below.alloc ?_ (by first | (simp; done) | (simp; omega) | omega) _))), Lib.hid (OwnI.bel HK6.out (by repeat (first | exact Below.refl _ _ | assumption | refine Below.setCell ?_ (by first | (simp; done) | (simp; omega) | omega) _ | refine below_drewN ?_ _ | refine Below.drew ?_ | refine Below.alloc ?_ (by first | (simp; done) | (simp; omega) | omega) _))), Lib.hid (Below.drew (Below.setCell HB.out (Nat.le_refl _) _))⟩
          case measure => simp [intOf]; omega
        · obtain ⟨b, o, K, d, rfl, hb, r0, -, -, -, -, -⟩ := (H.out.stay (StayC.bel HB.out)).nth HX.out
          have h41 : (x.op == 41) = false := by rw [beq_eq_false_iff_ne]; exact HOP.out x (List.mem_of_getElem? HX.out)
          go_wp2_with fail
          go_round
          case rel => exact ⟨i + 1, by omega, by go_num, HO, HB⟩
          case measure => simp [intOf]; omega
    · obtain rfl : i = n := by omega
      go_wp2_with fail
      obtain ⟨wo, rfl⟩ : ∃ wo, wo = wr := ⟨_, rfl⟩
      go_loopw [7, 8] (fun v7 v8 wq => ∃ (k : Nat), k ≤ n1 ∧ v8 = .int .i64 k ∧ v7 = .int .i64 0 ∧ wq = wo) (fun _ v8 _ => n1 - (intOf v8).toNat)
      case atStart => exact ⟨0, Nat.zero_le _, rfl, rfl, rfl⟩
      case round =>
        obtain ⟨k, hk, rfl, rfl, rfl⟩ := hrel
        by_cases hltk : k < n1
        · have p0 := OwnI.cell HO.out (by simp) (rep_at hltk)
          have hgl : w.heap.size < wr.heap.size := Own.lt HO.out rfl
          go_wp2_with fail
          go_round
          case rel => exact ⟨k + 1, by omega, by go_num, by first | trivial | rfl, by first | trivial | rfl⟩
          case measure => simp [intOf]; omega
        · go_wp2_with fail
          go_ret
          exact ⟨rfl, HB.out⟩

def strsB (K : List ByteArray) : List Value := K.map Value.string
theorem Rd.str {w : World} {A : Option Addr} {n c : Nat} {K : List ByteArray} (h : Rd w A n c 1 (strsB K)) {j : Nat} {y : ByteArray} (hj : K[j]? = some y) (hk : 0 < n) : ∃ b o, A = some ⟨b, o, none⟩ ∧ b < w.heap.size ∧ w.cell? ⟨b, o + j, none⟩ = some (.string y) := by
  obtain ⟨b, o, e, hb, hc⟩ := h.2.2.2 hk
  exact ⟨b, o, e, hb, hc j _ (by simp [strsB, hj])⟩
set_option maxRecDepth 100000 in
set_option maxHeartbeats 4000000 in
theorem among_any {w : World} {A : Option Addr} {n c : Nat} {K : List ByteArray} (s : ByteArray) (h : Rd w A n c 1 (strsB K)) (hn : K.length = n) : Calls Tryd.prog 59 #[.string s, .slice A n c] w fun e w' => e = .returned (.bool (K.any fun k => decide (k = s))) ∧ w' = w := by
  have H := Lib.hid h
  have HN := Lib.hid hn
  have hbig : n ≤ 9223372036854775807 := Nat.le_trans h.1 h.2.1
  clear h hn
  go_enter Tryd.func59, Tryd.ntmps59
  go_wp2_with fail
  go_loopw [5] (fun v5 wr => ∃ i : Nat, i ≤ n ∧ v5 = .int .i64 i ∧ Hid (∀ j k, j < i → K[j]? = some k → k ≠ s) ∧ wr = w) (fun v5 _ => n - (intOf v5).toNat)
  case atStart => exact ⟨0, Nat.zero_le _, rfl, Lib.hid fun j k hj => absurd hj (by omega), rfl⟩
  case round =>
    obtain ⟨i, hi, rfl, H0, rfl⟩ := hrel
    by_cases hlt : i < n
    · obtain ⟨y, hy⟩ : ∃ y, K[i]? = some y := ⟨_, List.getElem?_eq_getElem (by have := HN.out; omega)⟩
      obtain ⟨b, o, rfl, hb, p0⟩ := H.out.str hy (by omega)
      have HY := Lib.hid hy
      clear hy
      by_cases he : y = s
      · subst he
        have HR : Hid ((K.any fun k => decide (k = y)) = true) := Lib.hid (List.any_eq_true.2 ⟨y, List.mem_of_getElem? HY.out, by simp⟩)
        go_wp2_with fail
        go_ret
        exact ⟨ret_b HR.out.symm, rfl⟩
      · have h1 := toList_no he
        have HE := Lib.hid he
        clear he
        go_wp2_with fail
        go_round
        case rel =>
          refine ⟨i + 1, by omega, by go_num, Lib.hid fun j k hj hk => ?_, by first | trivial | rfl⟩
          by_cases e : j = i
          · subst e
            rw [HY.out] at hk
            rw [← Option.some.inj hk]
            exact HE.out
          · exact H0.out j k (by omega) hk
        case measure => simp [intOf]; omega
    · go_wp2_with fail
      go_ret
      refine ⟨ret_b ?_, rfl⟩
      symm
      rw [List.any_eq_false]
      intro k hk
      obtain ⟨j, hj⟩ := List.getElem?_of_mem hk
      have := (List.getElem?_eq_some_iff.1 hj).1
      have := HN.out
      simpa using H0.out j k (by omega) hj
set_option maxRecDepth 100000 in
theorem keywords3_any (w : World) : Calls Tryd.prog 85 #[] w fun e w' => e = .returned (.slice (some ⟨w.heap.size, 0, none⟩) 30 30) ∧ w' = w.alloc (.cells (strsB keywords).toArray 9) := by
  go_enter Tryd.func85, Tryd.ntmps85
  go_wp2_with fail
  go_ret
  exact ⟨rfl, rfl⟩
theorem letter_ways : ∀ i : Fin 256, letterB (UInt8.ofNat i.val) = true → (97 ≤ i.val ∧ i.val ≤ 122) ∨ (65 ≤ i.val ∧ i.val ≤ 90) ∨ i.val = 95 := by decide +kernel
theorem letter_way {c : UInt8} (h : letterB c = true) : (97 ≤ c.toNat ∧ c.toNat ≤ 122) ∨ (65 ≤ c.toNat ∧ c.toNat ≤ 90) ∨ c.toNat = 95 := by
  have := letter_ways ⟨c.toNat, c.toNat_lt⟩
  simp only [UInt8.ofNat_toNat] at this
  exact this h
theorem digit_way {c : UInt8} (h : digitB c = true) : 48 ≤ c.toNat ∧ c.toNat ≤ 57 := by
  unfold digitB at h
  simp only [Bool.and_eq_true, decide_eq_true_eq, UInt8.le_iff_toNat_le] at h
  exact ⟨by simpa using h.1, by simpa using h.2⟩
theorem Rd.words3 (w : World) : Rd (w.alloc (.cells (strsB keywords).toArray 9)) (some ⟨w.heap.size, 0, none⟩) 30 30 1 (strsB keywords) :=
  ⟨Nat.le_refl _, by omega, rfl, fun _ => ⟨w.heap.size, 0, rfl, by simp, fun j u hj => by
    rw [Nat.zero_add, (Blk.new w 9 _).cell]
    simpa using hj⟩⟩
set_option maxRecDepth 100000 in
set_option maxHeartbeats 4000000 in
theorem name3_yes (t : ByteArray) (ht : t.size ≤ maxLen) (hn : nameB t = true) (w : World) : Calls Tryd.prog 58 #[.string t] w fun e w' => e = .returned (.bool true) ∧ Below w.heap.size w w' := by
  have ht2 : t.size ≤ 9223372036854775807 := by have := ht; unfold maxLen at this; omega
  have h0 : ¬ t = ⟨#[]⟩ := fun e => by rw [e] at hn; cases hn
  have hsz : 0 < t.size := by
    rcases Nat.eq_zero_or_pos t.size with h | h
    · exact absurd (bytes_ext (x := t) (y := ⟨#[]⟩) (List.eq_nil_of_length_eq_zero (by simpa using h))) h0
    · exact h
  have hne : t.toList.isEmpty = false := by
    rw [ByteArray.toList_eq]
    cases hl : t.data.toList with
    | nil => exact absurd (bytes_ext (x := t) (y := ⟨#[]⟩) hl) h0
    | cons _ _ => rfl
  rw [nameB_ne hsz] at hn
  simp only [Bool.and_eq_true, Bool.not_eq_true'] at hn
  obtain ⟨⟨hl0, hall⟩, hkw⟩ := hn
  have HL0 := Lib.hid hl0
  have HALL := Lib.hid hall
  have HKW : Hid ((keywords.any fun k => decide (k = t)) = false) := Lib.hid hkw
  clear hl0 hall hkw h0
  go_enter Tryd.func58, Tryd.ntmps58
  go_wp2_with fail
  go_loopw [3, 4, 5] (fun v3 v4 v5 wr => ∃ k : Nat, k ≤ t.size ∧ v3 = .int .i64 k ∧ wr = w) (fun v3 _ _ _ => t.size - (intOf v3).toNat)
  case atStart => exact ⟨0, Nat.zero_le _, rfl, rfl⟩
  case round =>
    obtain ⟨k, hk, rfl, rfl⟩ := hrel
    by_cases hlt : k < t.size
    · have hx : t.data.toList[k]? = some t[k] := by rw [List.getElem?_eq_getElem (by simpa using hlt)]; rfl
      have hok : letterB t[k] = true ∨ (0 < k ∧ digitB t[k] = true) := by
        have h1 := List.all_eq_true.1 HALL.out t[k] (List.mem_of_getElem? hx)
        unfold okB at h1
        rw [Bool.or_eq_true] at h1
        rcases Nat.eq_zero_or_pos k with h2 | h2
        · subst h2
          exact .inl HL0.out
        · exact h1.imp id fun h => ⟨h2, h⟩
      have hway : (97 ≤ t[k].toNat ∧ t[k].toNat ≤ 122) ∨ (65 ≤ t[k].toNat ∧ t[k].toNat ≤ 90) ∨ t[k].toNat = 95 ∨ (0 < k ∧ 48 ≤ t[k].toNat ∧ t[k].toNat ≤ 57) := by
        rcases hok with h | ⟨h1, h⟩
        · rcases letter_way h with h | h | h
          · exact .inl h
          · exact .inr (.inl h)
          · exact .inr (.inr (.inl h))
        · exact .inr (.inr (.inr ⟨h1, digit_way h⟩))
      clear hok hx
      rcases hway with ⟨h1, h2⟩ | ⟨h1, h2⟩ | h1 | ⟨h1, h2, h3⟩
      · have e0 : decide ((97 : Int) ≤ (t[k].toNat : Int)) = true := decide_eq_true (by omega)
        have e1 : decide ((t[k].toNat : Int) ≤ 122) = true := decide_eq_true (by omega)
        have e4 : ((t[k].toNat : Int) == 95) = false := by rw [beq_eq_false_iff_ne]; omega
        go_wp2_with fail
        go_round
        case rel => exact ⟨k + 1, by omega, by go_num, by first | trivial | rfl⟩
        case measure => simp [intOf]; omega
      · have e0 : decide ((97 : Int) ≤ (t[k].toNat : Int)) = false := decide_eq_false (by omega)
        have e2 : decide ((65 : Int) ≤ (t[k].toNat : Int)) = true := decide_eq_true (by omega)
        have e3 : decide ((t[k].toNat : Int) ≤ 90) = true := decide_eq_true (by omega)
        have e4 : ((t[k].toNat : Int) == 95) = false := by rw [beq_eq_false_iff_ne]; omega
        go_wp2_with fail
        go_round
        case rel => exact ⟨k + 1, by omega, by go_num, by first | trivial | rfl⟩
        case measure => simp [intOf]; omega
      · have e0 : decide ((97 : Int) ≤ (t[k].toNat : Int)) = false := decide_eq_false (by omega)
        have e2 : decide ((65 : Int) ≤ (t[k].toNat : Int)) = true := decide_eq_true (by omega)
        have e3 : decide ((t[k].toNat : Int) ≤ 90) = false := decide_eq_false (by omega)
        have e4 : ((t[k].toNat : Int) == 95) = true := by rw [beq_iff_eq]; omega
        go_wp2_with fail
        go_round
        case rel => exact ⟨k + 1, by omega, by go_num, by first | trivial | rfl⟩
        case measure => simp [intOf]; omega
      · have e0 : decide ((97 : Int) ≤ (t[k].toNat : Int)) = false := decide_eq_false (by omega)
        have e2 : decide ((65 : Int) ≤ (t[k].toNat : Int)) = false := decide_eq_false (by omega)
        have e4 : ((t[k].toNat : Int) == 95) = false := by rw [beq_eq_false_iff_ne]; omega
        have e5 : decide ((t[k].toNat : Int) < 48) = false := decide_eq_false (by omega)
        have e6 : decide (57 < (t[k].toNat : Int)) = false := decide_eq_false (by omega)
        have e9 : ((k : Int) == 0) = false := by rw [beq_eq_false_iff_ne]; omega
        go_wp2_with fail
        go_round
        case rel => exact ⟨k + 1, by omega, by go_num, by first | trivial | rfl⟩
        case measure => simp [intOf]; omega
    · obtain rfl : k = t.size := by omega
      go_wp2_with (first | (go_at_call 85; go_must (refine (keywords3_any _).mono ?_); rintro e w1 ⟨rfl, rfl⟩) | (go_at_call 59; go_must (refine (among_any t (K := keywords) (Rd.words3 _) rfl).mono ?_); rintro e w1 ⟨rfl, rfl⟩; rw [HKW.out]))
      go_ret
      exact ⟨rfl, (by repeat (first | exact Below.refl _ _ | assumption | refine Below.setCell ?_ (by first | (simp; done) | (simp; omega) | omega) _ | refine below_drewN ?_ _ | refine Below.drew ?_ | refine Below.alloc ?_ (by first | (simp; done) | (simp; omega) | omega) _))⟩

def kidsOfI (T : List NodeD) (k : Int) : List Int := ((T[k.toNat]?).map (·.kids)).getD []
def lateOf (T : List NodeD) (l : List Int) : Bool := l.any fun k => !(kidsOfI T k).isEmpty
theorem OpAt.kidsOf {p : NodeD → Prop} {T : List NodeD} {k : Int} (h : OpAt p T k) : ∃ (kn : Nat) (nd : NodeD), k = kn ∧ T[kn]? = some nd ∧ p nd ∧ kidsOfI T k = nd.kids := by
  obtain ⟨kn, nd, rfl, h1, h2⟩ := h
  exact ⟨kn, nd, rfl, h1, h2, by unfold kidsOfI; rw [Int.toNat_natCast, h1]; rfl⟩
theorem lateOf_snoc (T : List NodeD) (l : List Int) (k : Int) : lateOf T (l ++ [k]) = (lateOf T l || !(kidsOfI T k).isEmpty) := by unfold lateOf; rw [List.any_append]; simp
theorem ParOk.late_ {T : List NodeD} {l : List Int} {late : Bool} (h : ParOk T l late) : late = lateOf T l := by
  induction h with
  | nil => rfl
  | some_ _ h2 ih =>
    obtain ⟨kn, nd, rfl, h3, h4, h5⟩ := h2.kidsOf
    rw [lateOf_snoc, h5]
    cases hk : nd.kids with
    | nil => exact absurd hk h4.2
    | cons a b => simp
  | none_ _ h2 ih =>
    obtain ⟨kn, nd, rfl, h3, h4, h5⟩ := h2.kidsOf
    rw [lateOf_snoc, h5, ← ih, h4.2]
    rfl
theorem ParOk.nth {T : List NodeD} {l : List Int} {late : Bool} (h : ParOk T l late) : ∀ (i : Nat) (k : Int), l[i]? = some k → ∃ (kn : Nat) (nd : NodeD), k = kn ∧ T[kn]? = some nd ∧ nd.op = 22 ∧ kidsOfI T k = nd.kids ∧ (lateOf T (l.take i) = true → nd.kids ≠ []) := by
  induction h with
  | nil => exact fun i k h => by cases h
  | @some_ out late k0 h1 h2 ih =>
    intro i k hk
    by_cases hi : i < out.length
    · rw [List.getElem?_append_left hi] at hk
      rw [List.take_append_of_le_length (by omega)]
      exact ih i k hk
    · obtain rfl : i = out.length := by
        have := (List.getElem?_eq_some_iff.1 hk).1
        simp at this
        omega
      rw [List.getElem?_append_right (Nat.le_refl _), Nat.sub_self] at hk
      obtain rfl := Option.some.inj hk
      obtain ⟨kn, nd, rfl, h3, h4, h5⟩ := h2.kidsOf
      exact ⟨kn, nd, rfl, h3, h4.1, h5, fun _ => h4.2⟩
  | @none_ out k0 h1 h2 ih =>
    intro i k hk
    by_cases hi : i < out.length
    · rw [List.getElem?_append_left hi] at hk
      rw [List.take_append_of_le_length (by omega)]
      exact ih i k hk
    · obtain rfl : i = out.length := by
        have := (List.getElem?_eq_some_iff.1 hk).1
        simp at this
        omega
      rw [List.getElem?_append_right (Nat.le_refl _), Nat.sub_self] at hk
      obtain rfl := Option.some.inj hk
      obtain ⟨kn, nd, rfl, h3, h4, h5⟩ := h2.kidsOf
      refine ⟨kn, nd, rfl, h3, h4.1, h5, fun hl => ?_⟩
      rw [List.take_left', ← h1.late_] at hl
      · cases hl
      · rfl
set_option maxRecDepth 100000 in
set_option maxHeartbeats 4000000 in
theorem params3_any {w : World} {A B : Option Addr} {n c m d : Nat} {T : List NodeD} {ps : List Int} {k9 : Int} {late : Bool} (h : RdT w A n c T) (hr : Rd w B m d 1 (ics (ps ++ [k9]))) (hm : (ps ++ [k9]).length = m) (hp : ParOk T ps late) : Calls Tryd.prog 63 #[.slice A n c, .slice B m d] w fun e w' => e = .returned (.bool true) ∧ Below w.heap.size w w' := by
  have H := Lib.hid h
  have HR := Lib.hid hr
  have HP := Lib.hid hp
  have HN := Lib.hid h.len
  have hbig : n ≤ 9223372036854775807 := h.le
  have hbm : m ≤ 9223372036854775807 := Nat.le_trans hr.1 hr.2.1
  have hpm : ps.length + 1 = m := by rw [← hm]; simp
  have HPM := Lib.hid hpm
  have hw : IntKind.i64.wrap ((m : Int) - 1) = ((m - 1 : Nat) : Int) := by rw [IntWalk.i64_in _ (by omega)]; omega
  have hm0 : 0 < m := by omega
  clear h hr hp hm hpm
  go_enter Tryd.func63, Tryd.ntmps63
  go_wp2_with fail
  go_loopw [5, 6, 7] (fun v5 v6 v7 wr => ∃ i : Nat, i + 1 ≤ m ∧ v6 = .int .i64 i ∧ v5 = .bool (lateOf T (ps.take i)) ∧ Hid (Below w.heap.size w wr)) (fun _ v6 _ _ => m - (intOf v6).toNat)
  case atStart => exact ⟨0, by omega, rfl, rfl, Lib.hid (Below.refl _ _)⟩
  case round =>
    obtain ⟨i, hi, rfl, rfl, HB⟩ := hrel
    by_cases hlt : i + 1 < m
    · obtain ⟨k, hk⟩ : ∃ k, ps[i]? = some k := ⟨_, List.getElem?_eq_getElem (by have := HPM.out; omega)⟩
      obtain ⟨kn, nd, rfl, hnd, hop, hkk, hlate⟩ := HP.out.nth i k hk
      have hk2 : (ps ++ [k9])[i]? = some (kn : Int) := by rw [List.getElem?_append_left (by have := HPM.out; omega)]; exact hk
      obtain ⟨b, o, rfl, hb, p0⟩ := (HR.out.bel HB.out).kid hk2 (by omega)
      obtain ⟨b1, o1, K, e1, rfl, hb1, q0, q1, q2, q3, q4, -⟩ := (H.out.stay (StayC.bel HB.out)).nth hnd
      have hkn : kn < n := by have := (List.getElem?_eq_some_iff.1 hnd).1; have := HN.out; omega
      rw [hop] at q0
      have hnx : lateOf T (ps.take (i + 1)) = (lateOf T (ps.take i) || !nd.kids.isEmpty) := by
        rw [List.take_add_one, hk]
        show lateOf T (ps.take i ++ [(kn : Int)]) = _
        rw [lateOf_snoc, hkk]
      obtain ⟨km, hkm⟩ : ∃ km, nd.kids.length = km := ⟨_, rfl⟩
      rw [hkm] at q4
      have HNX := Lib.hid hnx
      have hci : decide ((i : Int) < ((m - 1 : Nat) : Int)) = true := decide_eq_true (by omega)
      obtain ⟨lt, hlte⟩ : ∃ lt, lateOf T (ps.take i) = lt := ⟨_, rfl⟩
      rw [hlte] at hlate HNX ⊢
      have hemp : nd.kids.isEmpty = decide (km = 0) := by rw [← hkm]; cases nd.kids <;> simp
      rw [hemp] at HNX
      have hl0 : lt = true → km ≠ 0 := fun h e => hlate h (List.eq_nil_of_length_eq_zero (hkm.trans e))
      clear hk hnd hop hkk hlate hk2 hnx hlte hemp
      cases lt with
      | true =>
        have hk0 := hl0 rfl
        have e0 : ((km : Int) == 0) = false := by rw [beq_eq_false_iff_ne]; omega
        go_wp2_with fail
        go_round
        case rel => exact ⟨i + 1, by omega, by go_num, by rw [HNX.out]; simp, Lib.hid (by have := HB.out; have hs := this.size; exact (by repeat (first | exact Below.refl _ _ | assumption | refine Below.setCell ?_ (by first | (simp; done) | (simp; omega) | omega) _ | refine below_drewN ?_ _ | refine Below.drew ?_ | refine Below.alloc ?_ (by first | (simp; done) | (simp; omega) | omega) _)))⟩
        case measure => simp [intOf]; omega
      | false =>
        by_cases hk0 : km = 0
        · have e0 : ((km : Int) == 0) = true := by simp [hk0]
          have e1 : decide (0 < km) = false := decide_eq_false (by omega)
          go_wp2_with fail
          go_round
          case rel => exact ⟨i + 1, by omega, by go_num, by rw [HNX.out]; simp [hk0], Lib.hid (by have := HB.out; have hs := this.size; exact (by repeat (first | exact Below.refl _ _ | assumption | refine Below.setCell ?_ (by first | (simp; done) | (simp; omega) | omega) _ | refine below_drewN ?_ _ | refine Below.drew ?_ | refine Below.alloc ?_ (by first | (simp; done) | (simp; omega) | omega) _)))⟩
          case measure => simp [intOf]; omega
        · have e0 : ((km : Int) == 0) = false := by rw [beq_eq_false_iff_ne]; omega
          have e1 : decide (0 < km) = true := decide_eq_true (by omega)
          go_wp2_with fail
          go_round
          case rel => exact ⟨i + 1, by omega, by go_num, by rw [HNX.out]; simp [hk0], Lib.hid (by have := HB.out; have hs := this.size; exact (by repeat (first | exact Below.refl _ _ | assumption | refine Below.setCell ?_ (by first | (simp; done) | (simp; omega) | omega) _ | refine below_drewN ?_ _ | refine Below.drew ?_ | refine Below.alloc ?_ (by first | (simp; done) | (simp; omega) | omega) _)))⟩
          case measure => simp [intOf]; omega
    · have hci : decide ((i : Int) < ((m - 1 : Nat) : Int)) = false := decide_eq_false (by omega)
      go_wp2_with fail
      go_ret
      exact ⟨rfl, HB.out⟩

end Go.Proofs.YtjdcicopjipmnaaDoor
