/- LinearMerges: the walk. -/
import Derived.Test.YtbfjkjkanckcjaaSml
namespace Go.Proofs.Ytbfjkjkanckcjaa
open Go.RowKit Go.Shelf

theorem cutTo_length (m : Nat) (rows : List (List Int)) (k : Nat) : (cutTo m rows k).length ≤ k := by simp [cutTo]; omega
theorem cutTo_row {m : Nat} {rows : List (List Int)} {k : Nat} {r : List Int} (h : r ∈ cutTo m rows k) : r.length ≤ m := by
  simp only [cutTo, List.mem_map] at h
  obtain ⟨s, _, rfl⟩ := h
  rw [List.length_take]
  omega
theorem weight_le (m : Nat) : ∀ (rows : List (List Int)), (∀ r ∈ rows, r.length ≤ m) → Lin.weight rows ≤ rows.length * m
  | [], _ => by simp [Lin.weight]
  | r :: rows, h => by
    have h1 := weight_le m rows fun s hs => h s (by simp [hs])
    have h2 := h r (by simp)
    simp only [Lin.weight, List.map_cons, List.sum_cons, List.length_cons, Nat.succ_mul] at h1 ⊢
    omega
theorem cutTo_weight (m : Nat) (rows : List (List Int)) (k : Nat) : Lin.weight (cutTo m rows k) ≤ k * m :=
  Nat.le_trans (weight_le m _ fun _ h => cutTo_row h) (Nat.mul_le_mul_right m (cutTo_length m rows k))
/-- what cut leaves, opened -/
theorem NewRows.rd {t tr : TypeId} {w w' : World} {v : Value} {os : List SlI} (h : NewRows t tr w w' v os) {m k : Nat} {rows : List (List Int)} (hu : nums os = cutTo m rows k) :
    ∃ A n c, v = .slice A n c ∧ RdR w' A n c os ∧ AllOk w' os ∧ n ≤ k ∧ Lin.weight (nums os) ≤ k * m ∧ Below w.heap.size w w' := by
  obtain ⟨A, n, c, rfl, hr, _⟩ := OwnR.rd h.r.own
  refine ⟨A, n, c, rfl, hr, h.i.ok, ?_, by rw [hu]; exact cutTo_weight m rows k, h.r.bel⟩
  rw [← hr.1, ← nums_length, hu]
  exact cutTo_length m rows k
theorem merge_of (A : Option Addr) (n c : Nat) (rs : List SlI) (w : World) (rows : List (List Int)) (hu : nums rs = rows) (hR : RdR w A n c rs) (hok : AllOk w rs) (hn : n ≤ 900) (hw : Lin.weight (nums rs) ≤ 1000000) :
    Calls Try.prog 16 #[.slice A n c] w fun e w' => ∃ A' n' c', e = .returned (.tuple #[.slice A' n' c', .bool (Lin.merge rows).isSome]) ∧ RdI w' A' n' c' ((Lin.merge rows).getD []) ∧ Below w.heap.size w w' := by
  subst hu
  refine (merge_any A n c rs w hR hok (by omega) hw).mono ?_
  rintro e w' ⟨v, rfl, hv⟩
  obtain ⟨A', n', c', rfl, hr, _⟩ := OwnI.rd hv.own
  exact ⟨A', n', c', rfl, hr, hv.bel⟩
theorem rmerge_of (A : Option Addr) (n c : Nat) (rs : List SlI) (w : World) (rows : List (List Int)) (hu : nums rs = rows) (hR : RdR w A n c rs) (hok : AllOk w rs) (hn : n ≤ 900) (hw : Lin.weight (nums rs) ≤ 1000000) :
    Calls Try.prog 17 #[.slice A n c] w fun e w' => ∃ A' n' c', e = .returned (.tuple #[.slice A' n' c', .bool (Lin.merge rows).isSome]) ∧ RdI w' A' n' c' ((Lin.merge rows).getD []) ∧ Below w.heap.size w w' := by
  subst hu
  refine (rmerge_any A n c rs w hR hok (by omega) hw).mono ?_
  rintro e w' ⟨v, rfl, hv⟩
  obtain ⟨A', n', c', rfl, hr, _⟩ := OwnI.rd hv.own
  exact ⟨A', n', c', rfl, hr, hv.bel⟩
theorem getElem_of_nums {os : List SlI} {rows : List (List Int)} (h : nums os = rows) {k : Nat} (hk : k < os.length) : ∃ hr : k < rows.length, os[k].xs = rows[k] := by
  subst h
  exact ⟨by rw [nums_length]; exact hk, by simp [nums]⟩

theorem quiet_same_sum {P : Program} {f : FuncId} {args : Array Value} {W : World} {q x : Nat} {v : Value} (h : Calls P f args (W.drewN (q + x)) fun e w' => e = .returned v ∧ ∃ m, w' = (W.drewN (q + x)).drewN m) :
    Calls P f args (W.drewN (q + x)) fun e w'' => e = .returned v ∧ ∃ m, w'' = W.drewN (q + m) := h.mono fun _ _ ⟨he, m, hm⟩ => ⟨he, x + m, by rw [hm, drewN_add, Nat.add_assoc]⟩

set_option maxRecDepth 100000 in
set_option maxHeartbeats 4000000 in
theorem merges_walk (A : Option Addr) (n c : Nat) (rs : List SlI) (w : World) (hR : RdR w A n c rs) (hok : AllOk w rs) :
    Calls Try.prog 3 #[.slice A n c] w fun e w' => e = .returned (.bool true) ∧ Below w.heap.size w w' := by
  have HR := Lib.hid hR
  have HOK := Lib.hid hok
  clear hR hok
  go_enter Try.func3, Try.ntmps3
  go_wp2_with fail
  (with_reducible refine (shown_any _).mono ?_)
  rintro e w1 ⟨rfl, hb1⟩
  have HB1 := Lib.hid hb1
  have HC1 := Lib.hid (cut_any A n c rs w1 (HR.out.new hb1) (HOK.out.new hb1))
  clear hb1
  go_wp2_with fail
  (with_reducible refine HC1.out.mono ?_)
  rintro e w2 ⟨v2, o2, rfl, hn2, hu2⟩
  obtain ⟨A2, n2, c2, rfl, hr2, hk2, hl2, hw2, hb2⟩ := hn2.rd hu2
  have HB2 := Lib.hid (HB1.out.trans (hb2.mono HB1.out.size))
  have HR2 := Lib.hid hr2
  have HK2 := Lib.hid hk2
  have HU2 := Lib.hid hu2
  have HM2 := Lib.hid (merge_of A2 n2 c2 o2 w2 _ hu2 hr2 hk2 (by omega) (by omega))
  clear hn2 hu2 hr2 hk2 hw2 hb2 HC1 HB1
  go_wp2_with fail
  (with_reducible refine HM2.out.mono ?_)
  rintro e w3 ⟨A3, n3, c3, rfl, hr3, hb3⟩
  have HB3 := Lib.hid (HB2.out.trans (hb3.mono HB2.out.size))
  have HR3 := Lib.hid hr3
  have HR2 := Lib.hid (HR2.out.new hb3)
  have HK2 := Lib.hid (HK2.out.new hb3)
  have HC3 := Lib.hid (cut_any A n c rs w3 (HR.out.new HB3.out) (HOK.out.new HB3.out))
  clear hr3 hb3 HB2 HM2
  generalize hgr : Lin.merge (cutTo 8 (nums rs) 8) = r at *
  have HGR := Lib.hid hgr
  clear hgr
  go_wp2_with fail
  (with_reducible refine HC3.out.mono ?_)
  rintro e w4 ⟨v4, o4, rfl, hn4, hu4⟩
  obtain ⟨A4, n4, c4, rfl, hr4, hk4, hl4, hw4, hb4⟩ := hn4.rd hu4
  have HB4 := Lib.hid (HB3.out.trans (hb4.mono HB3.out.size))
  have hm4 := rmerge_of A4 n4 c4 o4 w4 _ hu4 hr4 hk4 (by omega) (by omega)
  rw [HGR.out] at hm4
  have HM4 := Lib.hid hm4
  have HR2 := Lib.hid (HR2.out.new hb4)
  have HK2 := Lib.hid (HK2.out.new hb4)
  have HR3 := Lib.hid (HR3.out.new hb4)
  clear hn4 hu4 hr4 hk4 hw4 hb4 HC3 HB3 hm4
  go_wp2_with fail
  (with_reducible refine HM4.out.mono ?_)
  rintro e w5 ⟨A5, n5, c5, rfl, hr5, hb5⟩
  have HB5 := Lib.hid (HB4.out.trans (hb5.mono HB4.out.size))
  have HR5 := Lib.hid hr5
  have HR2 := Lib.hid (HR2.out.new hb5)
  have HK2 := Lib.hid (HK2.out.new hb5)
  have HR3 := Lib.hid (HR3.out.new hb5)
  have HC5 := Lib.hid (cut_any A n c rs w5 (HR.out.new HB5.out) (HOK.out.new HB5.out))
  clear hr5 hb5 HB4 HM4
  go_wp2_with fail
  (with_reducible refine HC5.out.mono ?_)
  rintro e w6 ⟨v6, o6, rfl, hn6, hu6⟩
  obtain ⟨A6, n6, c6, rfl, hr6, hk6, hl6, hw6, hb6⟩ := hn6.rd hu6
  have HB6 := Lib.hid (HB5.out.trans (hb6.mono HB5.out.size))
  have HR2 := Lib.hid (HR2.out.new hb6)
  have HK2 := Lib.hid (HK2.out.new hb6)
  have HR3 := Lib.hid (HR3.out.new hb6)
  have HR5 := Lib.hid (HR5.out.new hb6)
  have HR6 := Lib.hid hr6
  have HK6 := Lib.hid hk6
  have HU6 := Lib.hid hu6
  have hl26 : n2 = n6 := by rw [← HR2.out.1, ← hr6.1, ← nums_length, ← nums_length, HU2.out, hu6]
  have HL := Lib.hid hl26
  have hn29 : n2 ≤ 8 := hl2
  clear hn6 hu6 hr6 hk6 hw6 hb6 HC5 HB5 hl26 HR HOK
  go_wp2_with fail
  go_loopw [10] (fun i wr => ∃ k : Nat, k ≤ n2 ∧ i = .int .i64 k ∧ ∃ q, wr = w6.drewN q) (fun i _ => n2 - (intOf i).toNat)
  case atStart => exact ⟨0, Nat.zero_le _, rfl, 0, rfl⟩
  case round =>
    obtain ⟨k, hk, rfl, q, rfl⟩ := hrel
    by_cases hlt : k < n2
    · have hlt6 : k < n6 := by rw [← HL.out]; exact hlt
      have hx2 : k < o2.length := by rw [HR2.out.1]; exact hlt
      have hx6 : k < o6.length := by rw [HR6.out.1]; exact hlt6
      obtain ⟨ba, oa, rfl, _, g2⟩ := HR2.out.at_ hlt
      obtain ⟨bc, oc, rfl, _, g6⟩ := HR6.out.at_ hlt6
      have hk2 := HK2.out o2[k] (List.getElem_mem hx2)
      have hk6 := HK6.out o6[k] (List.getElem_mem hx6)
      obtain ⟨_, e2⟩ := getElem_of_nums HU2.out (k := k) hx2
      obtain ⟨_, e6⟩ := getElem_of_nums HU6.out (k := k) hx6
      have hx : o2[k].xs = o6[k].xs := e2.trans e6.symm
      generalize o2[k] = s2 at *
      generalize o6[k] = s6 at *
      obtain ⟨Aa, na, ca, xa⟩ := s2
      obtain ⟨Ac, nc, cc, xc⟩ := s6
      have hx : xa = xc := hx
      subst hx
      have g2 : w6.cell? ⟨ba, oa + k, none⟩ = some (.slice Aa na ca) := g2
      have g6 : w6.cell? ⟨bc, oc + k, none⟩ = some (.slice Ac nc cc) := g6
      have KA := Lib.hid (fun q' => RdI.new (show RdI w6 Aa na ca xa from hk2) (below_drewN (Below.refl w6.heap.size w6) q'))
      have KC := Lib.hid (fun q' => RdI.new (show RdI w6 Ac nc cc xa from hk6) (below_drewN (Below.refl w6.heap.size w6) q'))
      clear hk2 hk6 e2 e6
      go_wp2_with fail
      go_quiet ((go_at_call 18; exact quiet_same_sum (same_is _ _ _ _ _ _ xa xa _ true (KA.out _) (KC.out _) (sameI_self _))))
      go_wp2_with fail
      go_roundw
      case rel => exact ⟨k + 1, by omega, by go_num, _, rfl⟩
      case measure => simp [intOf]; omega
    · have HA := Lib.hid (RdI.new HR3.out (below_drewN (Below.refl w6.heap.size w6) q))
      have HB := Lib.hid (RdI.new HR5.out (below_drewN (Below.refl w6.heap.size w6) q))
      go_wp2_with fail
      (with_reducible refine (same_is _ _ _ _ _ _ _ _ _ true HA.out HB.out (sameI_self _)).mono ?_)
      rintro e w7 ⟨rfl, q2, rfl⟩
      go_wp2_with fail
      go_ret
      exact ⟨rfl, below_drewN HB6.out _⟩
end Go.Proofs.Ytbfjkjkanckcjaa
