/- Equal: a tree is the same as itself. -/
import Derived.Test.YtjdcicopjipmnaaDoorFew
namespace Go.Proofs.YtjdcicopjipmnaaDoor
open Go.RowKit
set_option linter.unusedVariables false
set_option linter.unusedSimpArgs false
theorem RdT.nth {w : World} {A : Option Addr} {m c : Nat} {ns : List NodeD} (h : RdT w A m c ns) {j : Nat} {x : NodeD} (hj : ns[j]? = some x) : ∃ b o A1 c1, A = some ⟨b, o, none⟩ ∧ b < w.heap.size ∧ w.cell? ⟨b, o + j * 5, none⟩ = some (.int .i64 x.op) ∧ w.cell? ⟨b, o + j * 5 + 1, none⟩ = some (.int .i64 x.at_) ∧ w.cell? ⟨b, o + j * 5 + 2, none⟩ = some (.string x.s) ∧ w.cell? ⟨b, o + j * 5 + 3, none⟩ = some (.int .i64 x.n) ∧ w.cell? ⟨b, o + j * 5 + 4, none⟩ = some (.slice A1 x.kids.length c1) ∧ Rd w A1 x.kids.length c1 1 (ics x.kids) := by
  obtain ⟨b, o, A1, c1, e2, hb, hc, hk⟩ := h.at_ hj
  exact ⟨b, o, A1, c1, e2, hb, hc 0 _ rfl, hc 1 _ rfl, hc 2 _ rfl, hc 3 _ rfl, hc 4 _ rfl, hk⟩
theorem Rd.kid {w : World} {A : Option Addr} {k c : Nat} {kids : List Int} (h : Rd w A k c 1 (ics kids)) {j : Nat} {y : Int} (hj : kids[j]? = some y) (hk : 0 < k) : ∃ b o, A = some ⟨b, o, none⟩ ∧ b < w.heap.size ∧ w.cell? ⟨b, o + j, none⟩ = some (.int .i64 y) := by
  obtain ⟨b, o, e, hb, hc⟩ := h.2.2.2 hk
  exact ⟨b, o, e, hb, hc j _ (by simp [ics, hj])⟩
set_option maxRecDepth 100000 in
set_option maxHeartbeats 4000000 in
theorem equal_same {w : World} {A A' : Option Addr} {n c c' : Nat} {T : List NodeD} (h1 : RdT w A n c T) (h2 : RdT w A' n c' T) (hks : ∀ (i : Nat) (x : NodeD), T[i]? = some x → x.kids.length ≤ 4398046511103) : Calls Tryd.prog 17 #[.slice A n c, .slice A' n c'] w fun e w' => e = .returned (.bool true) ∧ Below w.heap.size w w' := by
  have H1 := Lib.hid h1
  have H2 := Lib.hid h2
  have HN := Lib.hid h1.len
  have hbig : n ≤ 9223372036854775807 := h1.le
  have HKS := Lib.hid hks
  clear h1 h2 hks
  go_enter Tryd.func17, Tryd.ntmps17
  go_wp2_with fail
  go_loopw [5] (fun v5 wr => ∃ i : Nat, i ≤ n ∧ v5 = .int .i64 i ∧ Hid (Below w.heap.size w wr)) (fun v5 _ => n - (intOf v5).toNat)
  case atStart => exact ⟨0, Nat.zero_le _, rfl, Lib.hid (Below.refl _ _)⟩
  case round =>
    obtain ⟨i, hi, rfl, HB⟩ := hrel
    by_cases hlt : i < n
    · have hil : i < T.length := by have := HN.out; omega
      obtain ⟨x, hx⟩ : ∃ x, T[i]? = some x := ⟨_, List.getElem?_eq_getElem hil⟩
      obtain ⟨b, o, K, d, rfl, hb, p0, p1, p2, p3, p4, hk⟩ := (H1.out.stay (StayC.bel HB.out)).nth hx
      obtain ⟨b', o', K', d', rfl, hb', q0, q1, q2, q3, q4, hk'⟩ := (H2.out.stay (StayC.bel HB.out)).nth hx
      have hkm := HKS.out i x hx
      obtain ⟨km, hkl⟩ : ∃ km, x.kids.length = km := ⟨_, rfl⟩
      rw [hkl] at p4 q4 hkm hk hk'
      have HK := Lib.hid hk
      have HK' := Lib.hid hk'
      have HKL := Lib.hid hkl
      clear hk hk' hx hkl hil
      go_upto_region 6 with fail
      simp only [List.append]
      go_quiet (fail)
      have hd : Below wr.heap.size wr (wr.drewN nq) := (by repeat (first | exact Below.refl _ _ | assumption | refine Below.setCell ?_ (by first | (simp; done) | (simp; omega) | omega) _ | refine below_drewN ?_ _ | refine Below.drew ?_ | refine Below.alloc ?_ (by first | (simp; done) | (simp; omega) | omega) _))
      replace HB := Lib.hid (HB.out.trans (below_low hd HB.out.size))
      replace HK := Lib.hid (HK.out.bel hd)
      replace HK' := Lib.hid (HK'.out.bel hd)
      replace p4 := (World.cell?_of_block (a := ⟨_, _, none⟩) (hd.block _ hb)).trans p4
      replace q4 := (World.cell?_of_block (a := ⟨_, _, none⟩) (hd.block _ hb')).trans q4
      replace hb := Nat.lt_of_lt_of_le hb hd.size
      replace hb' := Nat.lt_of_lt_of_le hb' hd.size
      clear p0 p1 p2 p3 q0 q1 q2 q3 hd
      generalize wr.drewN nq = wo at HB HK HK' p4 q4 hb hb' ⊢
      go_wp2_with fail
      go_loopw [6] (fun v6 wq => ∃ j : Nat, j ≤ km ∧ v6 = .int .i64 j ∧ Hid (Below wo.heap.size wo wq)) (fun v6 _ => km - (intOf v6).toNat)
      case atStart => exact ⟨0, Nat.zero_le _, rfl, Lib.hid (Below.refl _ _)⟩
      case round =>
        obtain ⟨j, hj, rfl, HQ⟩ := hrel
        have hs := HQ.out.size
        have u4 := (World.cell?_of_block (a := ⟨_, _, none⟩) (HQ.out.block _ hb)).trans p4
        have v4 := (World.cell?_of_block (a := ⟨_, _, none⟩) (HQ.out.block _ hb')).trans q4
        have hb1 : b < wr.heap.size := by omega
        have hb2 : b' < wr.heap.size := by omega
        clear p4 q4
        by_cases hltj : j < km
        · obtain ⟨y, hy⟩ : ∃ y, x.kids[j]? = some y := ⟨_, List.getElem?_eq_getElem (by have := HKL.out; omega)⟩
          obtain ⟨e, f, rfl, he, r0⟩ := (HK.out.bel HQ.out).kid hy (by omega)
          obtain ⟨e', f', rfl, he', r1⟩ := (HK'.out.bel HQ.out).kid hy (by omega)
          clear hy
          go_wp2_with fail
          go_quiet (fail)
          have hd : Below wr.heap.size wr (wr.drewN nq) := (by repeat (first | exact Below.refl _ _ | assumption | refine Below.setCell ?_ (by first | (simp; done) | (simp; omega) | omega) _ | refine below_drewN ?_ _ | refine Below.drew ?_ | refine Below.alloc ?_ (by first | (simp; done) | (simp; omega) | omega) _))
          have HQ2 := Lib.hid (HQ.out.trans (below_low hd HQ.out.size))
          clear hd
          generalize wr.drewN nq = wz at HQ2 ⊢
          go_wp2_with fail
          go_round
          case rel => exact ⟨j + 1, by omega, by go_num, HQ2⟩
          case measure => simp [intOf]; omega
        · go_wp2_with fail
          go_round
          case rel => exact ⟨i + 1, by omega, by go_num, Lib.hid (HB.out.trans (below_low HQ.out HB.out.size))⟩
          case measure => simp [intOf]; omega
    · go_wp2_with fail
      go_ret
      exact ⟨rfl, HB.out⟩
end Go.Proofs.YtjdcicopjipmnaaDoor
