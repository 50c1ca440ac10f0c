/- A tree as memory holds it; a node's kids; is there such a node. -/
import Derived.Test.YtjdcicopjipmnaaDoorPse
namespace Go.Proofs.YtjdcicopjipmnaaDoor
open Go.RowKit
set_option linter.unusedVariables false
set_option linter.unusedSimpArgs false
/-- all cells lie as they lay -/
structure StayC (W W' : World) : Prop where
  size : W.heap.size ≤ W'.heap.size
  same : ∀ (k : Nat) cs t z, W.heap[k]? = some (.cells cs t z) → W'.heap[k]? = W.heap[k]?
theorem StayC.refl (W : World) : StayC W W := ⟨Nat.le_refl _, fun _ _ _ _ _ => rfl⟩
theorem StayC.trans {A B C : World} (h : StayC A B) (k : StayC B C) : StayC A C := ⟨Nat.le_trans h.size k.size, fun i cs t z hi => by
  have e := h.same i cs t z hi
  rw [← e] at hi ⊢
  exact k.same i cs t z hi⟩
theorem StayC.bel {W W' : World} (h : Below W.heap.size W W') : StayC W W' := ⟨h.size, fun k cs t z hk => h.block k (Array.getElem?_eq_some_iff.1 hk).1⟩
theorem cell_block {W : World} {b o : Nat} {u : Value} (h : W.cell? ⟨b, o, none⟩ = some u) : ∃ cs t z, W.heap[b]? = some (.cells cs t z) := by
  unfold World.cell? at h
  simp only at h
  split at h
  · rename_i cs t z hh
    exact ⟨cs, t, z, hh⟩
  · cases h
theorem Rd.stay {w w' : World} {A : Option Addr} {n c sz : Nat} {cs : List Value} (h : Rd w A n c sz cs) (hs : StayC w w') : Rd w' A n c sz cs :=
  ⟨h.1, h.2.1, h.2.2.1, fun hn => by
    obtain ⟨b, o, e, hb, hc⟩ := h.2.2.2 hn
    refine ⟨b, o, e, Nat.lt_of_lt_of_le hb hs.size, fun j u hu => ?_⟩
    have h1 := hc j u hu
    obtain ⟨cs', t, z, hh⟩ := cell_block h1
    exact (World.cell?_of_block (hs.same b cs' t z hh)).trans h1⟩
/-- the slice reads as these nodes, each with its row of kids -/
def RdT (w : World) (A : Option Addr) (n c : Nat) (ns : List NodeD) : Prop :=
  ∃ Z : List NdS, Z.map (·.x) = ns ∧ Z.length = n ∧ Rd w A n c 5 (Z.flatMap NdS.cs) ∧ ∀ z ∈ Z, Rd w z.A z.x.kids.length z.c 1 (ics z.x.kids)
theorem RdT.stay {w w' : World} {A : Option Addr} {n c : Nat} {ns : List NodeD} (h : RdT w A n c ns) (hs : StayC w w') : RdT w' A n c ns := by
  obtain ⟨Z, e, hl, h1, h2⟩ := h
  exact ⟨Z, e, hl, h1.stay hs, fun z hz => (h2 z hz).stay hs⟩
theorem RdT.len {w : World} {A : Option Addr} {n c : Nat} {ns : List NodeD} (h : RdT w A n c ns) : ns.length = n := by
  obtain ⟨Z, e, hl, _⟩ := h
  rw [← e, List.length_map, hl]
theorem RdT.le {w : World} {A : Option Addr} {n c : Nat} {ns : List NodeD} (h : RdT w A n c ns) : n ≤ 9223372036854775807 := by
  obtain ⟨Z, e, hl, h1, _⟩ := h
  exact h1.le
theorem zflat_at : ∀ {Z : List NdS} {k : Nat} {z : NdS}, Z[k]? = some z → ∀ j u, z.cs[j]? = some u → (Z.flatMap NdS.cs)[k * 5 + j]? = some u
  | [], k, z, h, j, u, hu => by simp at h
  | x :: Z, 0, z, h, j, u, hu => by
    obtain rfl : x = z := by simpa using h
    rw [List.flatMap_cons, List.getElem?_append_left (by have := (List.getElem?_eq_some_iff.1 hu).1; omega), Nat.zero_mul, Nat.zero_add]
    exact hu
  | x :: Z, k + 1, z, h, j, u, hu => by
    rw [List.flatMap_cons, List.getElem?_append_right (by show 5 ≤ _; omega)]
    have e : (k + 1) * 5 + j - x.cs.length = k * 5 + j := by show (k + 1) * 5 + j - 5 = _; omega
    rw [e]
    exact zflat_at (by simpa using h) j u hu
/-- one of its nodes -/
theorem RdT.at_ {w : World} {A : Option Addr} {n c : Nat} {ns : List NodeD} (h : RdT w A n c ns) {i : Nat} {x : NodeD} (hx : ns[i]? = some x) :
    ∃ b o A1 c1, A = some ⟨b, o, none⟩ ∧ b < w.heap.size ∧ (∀ j u, (NdS.cs ⟨x, A1, c1⟩)[j]? = some u → w.cell? ⟨b, o + i * 5 + j, none⟩ = some u) ∧ Rd w A1 x.kids.length c1 1 (ics x.kids) := by
  obtain ⟨Z, e, hl, h1, h2⟩ := h
  rw [← e, List.getElem?_map] at hx
  cases hz : Z[i]? with
  | none => rw [hz] at hx; cases hx
  | some z =>
    rw [hz] at hx
    obtain rfl : z.x = x := by simpa using hx
    have hi := (List.getElem?_eq_some_iff.1 hz).1
    obtain ⟨b, o, rfl, hb, hc⟩ := h1.2.2.2 (by omega)
    refine ⟨b, o, z.A, z.c, rfl, hb, fun j u hu => ?_, h2 z (List.mem_of_getElem? hz)⟩
    have := hc _ u (zflat_at hz j u hu)
    rwa [← Nat.add_assoc] at this
theorem RowN.rdT {F : Nat → Prop} {w : World} {v : Value} {ns : List NodeD} (h : RowN F w v ns) : ∃ A c, v = .slice A ns.length c ∧ RdT w A ns.length c ns := by
  obtain ⟨Z, e, h1, h2⟩ := h
  obtain ⟨A, c, rfl, hr, _⟩ := Own.rd h1
  have hl : Z.length = ns.length := by rw [← e, List.length_map]
  rw [hl] at hr
  refine ⟨A, c, by rw [hl], Z, e, hl, hr, fun z hz => ?_⟩
  obtain ⟨A2, c2, e2, hr2, _⟩ := Own.rd (h2 z hz).1
  unfold NdS.v at e2
  injection e2 with e3 e4 e5
  rw [e3, e5]
  exact hr2
theorem RowN.kl {F : Nat → Prop} {w : World} {v : Value} {ns : List NodeD} (h : RowN F w v ns) (i : Nat) (x : NodeD) (hx : ns[i]? = some x) : x.kids.length ≤ 4398046511103 := by
  obtain ⟨Z, e, h1, h2⟩ := h
  rw [← e, List.getElem?_map] at hx
  cases hz : Z[i]? with
  | none => rw [hz] at hx; cases hx
  | some z =>
    rw [hz] at hx
    obtain rfl : z.x = x := by simpa using hx
    exact (h2 z (List.mem_of_getElem? hz)).2.2
set_option maxRecDepth 100000 in
set_option maxHeartbeats 4000000 in
theorem kidsT_any {w : World} {A : Option Addr} {n c i : Nat} {ns : List NodeD} {x : NodeD} (h : RdT w A n c ns) (hx : ns[i]? = some x) (hk : x.kids.length ≤ 4398046511103) :
    Calls Tryd.prog 100 #[.slice A n c, .int .i64 i] w fun e w' => ∃ v, e = .returned v ∧ OwnI w' v (keepK i x.kids) ∧ Below w.heap.size w w' ∧ ∀ g, v.ownBlock = some g → w.heap.size ≤ g := by
  have hnl := h.len
  have hin := (List.getElem?_eq_some_iff.1 hx).1
  have hle := h.le
  obtain ⟨b, o, A1, c1, rfl, hb, hc, hr⟩ := h.at_ hx
  have c4 := hc 4 _ rfl
  have hir : i < n := by omega
  have hrl := hr.le
  have HR := Lib.hid hr
  unfold NdS.v at c4
  simp only at c4
  generalize hK : x.kids = kids at *
  clear hc hr h hx hK
  go_enter Tryd.func100, Tryd.ntmps100
  go_wp2_with fail
  go_loopw [5, 14] (fun vo vi wr => ∃ (j : Nat) (A2 : Option Addr) (c2 : Nat) (M : List Int), j ≤ kids.length ∧ vi = .int .i64 j ∧ vo = .slice A2 M.length c2 ∧ Hid (keepK i (kids.take j) = M) ∧ OwnI wr (.slice A2 M.length c2) M ∧ Hid (∀ g, (Value.slice A2 M.length c2).ownBlock = some g → w.heap.size ≤ g) ∧ Below w.heap.size w wr) (fun _ vi _ => kids.length - (intOf vi).toNat)
  case atStart => exact ⟨0, none, 0, [], Nat.zero_le _, rfl, rfl, Lib.hid rfl, OwnI.nil_ w, Lib.hid fun g hg => (by cases hg), Below.refl _ _⟩
  case round =>
    obtain ⟨j, A2, c2, M, hj, rfl, rfl, HM, hown, HV, hbel⟩ := hrel
    have hMl : M.length ≤ j := by
      rw [← HM.out]
      unfold keepK
      exact Nat.le_trans (List.length_filter_le _ _) (by rw [List.length_take]; omega)
    have HO := Lib.hid hown
    have HB := Lib.hid hbel
    clear hown
    by_cases hlt : j < kids.length
    · obtain ⟨b3, o3, rfl, hb3, hc3⟩ := (HR.out.bel hbel).2.2.2 (by omega)
      obtain ⟨y, hy⟩ : ∃ y, kids[j]? = some y := ⟨_, List.getElem?_eq_getElem hlt⟩
      have hce : wr.cell? ⟨b3, o3 + j, none⟩ = some (.int .i64 y) := hc3 j _ (by rw [ics, List.getElem?_map, hy]; rfl)
      have HY := Lib.hid hy
      clear hy hc3 hbel
      by_cases h0 : 0 ≤ y
      · have d0 : decide (0 ≤ y) = true := decide_eq_true h0
        by_cases h1 : y < (i : Int)
        · have d1 : decide (y < (i : Int)) = true := decide_eq_true h1
          go_wp2_with (at_builtin; go_must (refine wpList_appendN _ rfl _ _ rfl _ M rfl (HO.out.bel (Below.alloc (Below.refl _ _) (Nat.le_refl _) _)) _ 1 1 [y] rfl Rd.one rfl (by simp; omega) ?_); intro v6 w6 ho6 hg6 hn6; generalize hG : M ++ [y] = G at ho6; have HG := Lib.hid hG; obtain ⟨A6, c6, rfl, -, -⟩ := Own.rd ho6; clear hG; have hb6 : Below w.heap.size w w6 := (HB.out.alloc HB.out.size _).grown hg6 (by have := HB.out.size; simp; omega) (fun g hg => HV.out g hg); have HO6 := Lib.hid ho6; have HB6 := Lib.hid hb6; have HN6 := Lib.hid hn6; clear ho6 hg6 hn6 hb6)
          go_round
          case rel =>
            refine ⟨j + 1, A6, c6, G, by omega, by go_num, rfl, Lib.hid ?_, HO6.out, Lib.hid fun g hg => ?_, HB6.out⟩
            · rw [keepK_snoc _ _ _ _ HY.out, if_pos ⟨h0, h1⟩, HM.out, HG.out]
            · rcases HN6.out with e9 | e9
              · exact HV.out g (e9 ▸ hg)
              · rw [e9] at hg
                injection hg with hg
                have := HB.out.size
                rw [← hg]
                simp
                omega
          case measure => simp [intOf]; omega
        · have d1 : decide (y < (i : Int)) = false := decide_eq_false h1
          go_wp2_with fail
          go_round
          case rel => exact ⟨j + 1, _, _, M, by omega, by go_num, rfl, Lib.hid (by rw [keepK_snoc _ _ _ _ HY.out, if_neg (fun h => h1 h.2), HM.out]), HO.out, HV, HB.out⟩
          case measure => simp [intOf]; omega
      · have d0 : decide (0 ≤ y) = false := decide_eq_false h0
        go_wp2_with fail
        go_round
        case rel => exact ⟨j + 1, _, _, M, by omega, by go_num, rfl, Lib.hid (by rw [keepK_snoc _ _ _ _ HY.out, if_neg (fun h => h0 h.1), HM.out]), HO.out, HV, HB.out⟩
        case measure => simp [intOf]; omega
    · obtain rfl : j = kids.length := by omega
      go_wp2_with fail
      go_ret
      have hm := HM.out
      rw [List.take_of_length_le (Nat.le_refl _)] at hm
      rw [hm]
      exact ⟨_, rfl, HO.out, HB.out, HV.out⟩
theorem isT_any (A : Option Addr) (n c i : Nat) (w : World) (hi : i < n) : Calls Tryd.prog 83 #[.slice A n c, .int .i64 i] w fun e w' => e = .returned (.bool true) ∧ w' = w := by
  have d0 : decide (0 ≤ (i : Int)) = true := decide_eq_true (by omega)
  have d1 : decide ((i : Int) < (n : Int)) = true := decide_eq_true (by omega)
  go_enter Tryd.func83, Tryd.ntmps83
  go_wp2_with fail
  go_ret
  exact ⟨rfl, rfl⟩
end Go.Proofs.YtjdcicopjipmnaaDoor
