/- Fit and fill. -/
import Derived.Test.YthdkloojhenlkaaCod
namespace Go.Proofs.Ythdkloojhenlkaa
open Go.RowKit
attribute [local go_sem high] guardV eqV neqV
attribute [local go_sem] V.v

theorem RdS.take {w : World} {A : Option Addr} {n c : Nat} {xs : List ByteArray} (h : RdS w A n c xs) {m : Nat} (hm : m ≤ n) : RdS w A m c (xs.take m) := by
  refine ⟨by rw [List.length_take, h.1]; omega, ?_⟩
  have := h.2.shrink (k := m) (c' := c) hm (by have := h.2.1; omega) (Nat.le_refl _)
  rw [Nat.mul_one] at this
  have e : scs (xs.take m) = (scs xs).take m := by simp [scs, List.map_take]
  rw [e]
  exact this

set_option maxRecDepth 100000 in
set_option maxHeartbeats 4000000 in
theorem fit_any (Ap : Option Addr) (n c : Nat) (ps : List CodeV) (w : World) (hP : RdP w Ap n c ps) (hok : ∀ p ∈ ps, p.Ok w) :
    Calls Try.prog 13 #[.slice Ap n c] w fun e w' => ∃ v qs, e = .returned v ∧ OwnP w' v qs ∧ (∀ q ∈ qs, CodeV.Small w q) ∧ 1 ≤ qs.length ∧ qs.length ≤ 4 ∧ (∀ b, v.ownBlock = some b → w.heap.size ≤ b) ∧ Below w.heap.size w w' := by
  have hn := hP.2.le
  go_enter Try.func13, Try.ntmps13
  go_wp2_with fail
  go_loopw [3, 4] (fun v i wr => ∃ (k : Nat) (qs : List CodeV), k ≤ 4 ∧ i = .int .i64 k ∧ qs.length = k ∧ OwnP wr v qs ∧ (∀ q ∈ qs, CodeV.Small w q) ∧ (∀ b, v.ownBlock = some b → w.heap.size ≤ b) ∧ Below w.heap.size w wr) (fun _ i _ => 4 - (intOf i).toNat)
  case atStart => exact ⟨0, [], by omega, rfl, rfl, Own.made w #[] 0 (by omega) rfl, fun q hq => by simp at hq, fun b e => (by simp [Value.ownBlock] at e; omega), (by repeat (first | exact Below.refl _ _ | assumption | refine Below.setCell ?_ (by first | (simp; done) | (simp; omega) | omega) _ | refine below_drewN ?_ _ | refine Below.drew ?_ | refine Below.alloc ?_ (by first | (simp; done) | (simp; omega) | omega) _))⟩
  case round =>
    obtain ⟨k, qs, hk, rfl, hl, hv, hs, hvn, hb⟩ := hrel
    obtain ⟨Av, nv, cv, rfl, _⟩ := OwnP.rd hv
    have HS := Lib.hid hs
    have HVN := Lib.hid hvn
    have HB := Lib.hid hb
    clear hs hvn
    by_cases hlt : k < n ∧ k < 4
    · obtain ⟨hlt, h4⟩ := hlt
      have hkl : k < ps.length := by rw [hP.1]; exact hlt
      obtain ⟨b, o, rfl, hbb, z0, z1, z2, z3, z4, z5, z6, z7, z8, z9, z10⟩ := (hP.new hb).at_ hlt (List.getElem?_eq_getElem hkl)
      have hq := hok ps[k] (List.getElem_mem hkl)
      generalize ps[k] = q at *
      obtain ⟨s0, k1, par, k3, b4, AL, nL, cL, LL, AC, nC, cC, CC, AF, nF, cF, A8, n8, c8, A9, n9, c9, A10, n10, c10⟩ := q
      have i1 := hq.l.2.1
      have i2 := hq.l.2.2.1
      have i3 := hq.c.2.1
      have i4 := hq.c.2.2.1
      have i5 := hq.f.1
      have i6 := hq.f.2
      simp only at z0 z1 z2 z3 z4 z5 z6 z7 z8 z9 z10 i1 i2 i3 i4 i5 i6
      have HQ := Lib.hid hq
      have HV := Lib.hid hv
      have HL := Lib.hid hl
      clear hb hq hv hl
      go_upto_region 8 with fail
      clear z0 z1 z2 z3 z4 z5 z6 z7 z8 z9 z10
      go_cut [] (fun wx => ∃ mL, mL ≤ nL ∧ mL ≤ 6 ∧ wx = wr.alloc (.cells #[.string s0, .int .i64 k1, .int .i64 par, .int .i64 k3, .bool b4, .slice AL mL cL, .slice AC nC cC, .slice AF nF cF, .slice A8 n8 c8, .slice A9 n9 c9, .slice A10 n10 c10] 31))
      case first =>
        by_cases h6 : 6 < nL
        · go_wp2_with fail
          go_meet
          exact ⟨6, by omega, by omega, rfl⟩
        · go_wp2_with fail
          go_meet
          exact ⟨nL, by omega, by omega, rfl⟩
      case rest =>
        obtain ⟨mL, e1, e2, rfl⟩ := hcut
        go_upto_region 9 with fail
        go_cut [] (fun wx => ∃ mC, mC ≤ nC ∧ mC ≤ 6 ∧ wx = wr.alloc (.cells #[.string s0, .int .i64 k1, .int .i64 par, .int .i64 k3, .bool b4, .slice AL mL cL, .slice AC mC cC, .slice AF nF cF, .slice A8 n8 c8, .slice A9 n9 c9, .slice A10 n10 c10] 31))
        case first =>
          by_cases h6 : 6 < nC
          · go_wp2_with fail
            go_meet
            exact ⟨6, by omega, by omega, rfl⟩
          · go_wp2_with fail
            go_meet
            exact ⟨nC, by omega, by omega, rfl⟩
        case rest =>
          obtain ⟨mC, e3, e4, rfl⟩ := hcut
          go_upto_region 10 with fail
          go_cut [] (fun wx => ∃ mF, mF ≤ nF ∧ mF ≤ 6 ∧ wx = wr.alloc (.cells #[.string s0, .int .i64 k1, .int .i64 par, .int .i64 k3, .bool b4, .slice AL mL cL, .slice AC mC cC, .slice AF mF cF, .slice A8 n8 c8, .slice A9 n9 c9, .slice A10 n10 c10] 31))
          case first =>
            by_cases h6 : 6 < nF
            · go_wp2_with fail
              go_meet
              exact ⟨6, by omega, by omega, rfl⟩
            · go_wp2_with fail
              go_meet
              exact ⟨nF, by omega, by omega, rfl⟩
          case rest =>
            obtain ⟨mF, e5, e6, rfl⟩ := hcut
            have hz : (((mL : Int) + 1) == 0) = false := by simp; omega
            have hone := fun (p : Int) (c1 : Array Value) => one_rdP (wr.alloc (.cells c1 31)) ⟨s0, k1, p, k3, b4, AL, mL, cL, LL.take mL, AC, mC, cC, CC.take mC, AF, mF, cF, A8, n8, c8, A9, n9, c9, A10, n10, c10⟩
            simp only [World.size_alloc] at hone
            have HONE := Lib.hid hone
            have hqs : qs.length ≤ 4 := by rw [HL.out]; exact hk
            clear hone
            go_wp2_with (at_builtin; refine wpList_appendP _ rfl (.tmp 68) (.tmp 70) rfl (.slice Av nv cv) qs rfl (by exact Own.new HV.out (by repeat (first | exact Below.refl _ _ | assumption | refine Below.setCell ?_ (by first | (simp; done) | (simp; omega) | omega) _ | refine below_drewN ?_ _ | refine Below.drew ?_ | refine Below.alloc ?_ (by first | (simp; done) | (simp; omega) | omega) _))) _ 1 1 [_] rfl (by exact HONE.out _ _) (by omega) ?_; intro v1 w1 hv1 hg1 ha1; have HV1 := Lib.hid hv1; have HG1 := Lib.hid hg1; have HA1 := Lib.hid ha1; clear hv1 hg1 ha1)
            go_roundw
            case rel =>
              refine ⟨k + 1, _, by omega, by go_num, by simp [HL.out], HV1.out, fun q hq => ?_, fun b e => ?_, ?_⟩
              · rcases List.mem_append.1 hq with hq | hq
                · exact HS.out q hq
                · rw [List.mem_singleton] at hq
                  subst hq
                  exact ⟨⟨HQ.out.l.take e1, HQ.out.c.take e3, by show mF ≤ cF; omega, i6⟩, by simp; omega, by simp; omega, e6⟩
              · rcases HA1.out with e' | e' <;> rw [e'] at e
                · exact HVN.out b e
                · have := HB.out.size
                  simp at e
                  omega
              · exact Below.grown (by exact ((HB.out.alloc HB.out.size _).alloc (by have := HB.out.size; simp; omega) _)) HG1.out (by have := HB.out.size; simp; omega) HVN.out
            case measure => simp [intOf]; omega
    · have HV := Lib.hid hv
      by_cases hk0 : k = 0
      · subst hk0
        have hn0 : n = 0 := by omega
        subst hn0
        have hqs : qs = [] := List.eq_nil_of_length_eq_zero hl
        subst hqs
        have hone := fun (p : Int) (c1 : Array Value) => one_rdP (wr.alloc (.cells c1 31)) ⟨⟨#[]⟩, 0, p, 0, false, none, 0, 0, [], none, 0, 0, [], none, 0, 0, none, 0, 0, none, 0, 0, none, 0, 0⟩
        simp only [World.size_alloc] at hone
        have HONE := Lib.hid hone
        clear hone hv hb hl
        go_wp2_with (at_builtin; refine wpList_appendP _ rfl (.tmp 68) (.tmp 70) rfl (.slice Av nv cv) [] rfl (by exact Own.new HV.out (by repeat (first | exact Below.refl _ _ | assumption | refine Below.setCell ?_ (by first | (simp; done) | (simp; omega) | omega) _ | refine below_drewN ?_ _ | refine Below.drew ?_ | refine Below.alloc ?_ (by first | (simp; done) | (simp; omega) | omega) _))) _ 1 1 [_] rfl (by exact HONE.out _ _) (by simp) ?_; intro v1 w1 hv1 hg1 ha1; have HV1 := Lib.hid hv1; have HG1 := Lib.hid hg1; have HA1 := Lib.hid ha1; clear hv1 hg1 ha1)
        go_roundw
        case rel =>
          refine ⟨1, _, by omega, rfl, rfl, HV1.out, fun q hq => ?_, fun b e => ?_, ?_⟩
          · simp only [List.nil_append, List.mem_singleton] at hq
            subst hq
            exact ⟨⟨nil_rdS _, nil_rdS _, by show 0 ≤ 0 ∧ 0 ≤ 9223372036854775807; omega⟩, by simp, by simp, by show 0 ≤ 6; omega⟩
          · rcases HA1.out with e' | e' <;> rw [e'] at e
            · exact HVN.out b e
            · have := HB.out.size
              simp at e
              omega
          · exact Below.grown (by exact ((HB.out.alloc HB.out.size _).alloc (by have := HB.out.size; simp; omega) _)) HG1.out (by have := HB.out.size; simp; omega) HVN.out
        case measure => simp [intOf]
      · have hz : ((k : Int) == 0) = false := by simp; exact hk0
        have HL := Lib.hid hl
        clear hv hb hl
        by_cases hkn : k < n
        all_goals
          first
            | have hk2 : ¬ k < 4 := by omega
            | skip
          go_wp2
          go_ret
          exact ⟨_, qs, rfl, HV.out, HS.out, by rw [HL.out]; omega, by rw [HL.out]; omega, HVN.out, HB.out⟩

set_option maxRecDepth 100000 in
set_option maxHeartbeats 1000000 in
theorem fill_any (A : Option Addr) (n c : Nat) (xs : List V) (k : Int) (w : World) (hA : RdV w A n c xs) :
    Calls Try.prog 15 #[.slice A n c, .int .i64 k] w fun e w' => ∃ v ys, e = .returned v ∧ NewRow w w' v ys ∧ ys.length ≤ 12 := by
  have hn := hA.le
  go_enter Try.func15, Try.ntmps15
  go_wp2_with fail
  go_loopw [5, 6] (fun v i wr => ∃ (j : Nat) (ys : List V), j ≤ 12 ∧ i = .int .i64 j ∧ ys.length = j ∧ NewRow w wr v ys) (fun _ i _ => 12 - (intOf i).toNat)
  case atStart => exact ⟨0, [], by omega, rfl, rfl, newrowR w⟩
  case round =>
    obtain ⟨j, ys, hj, rfl, hl, hv⟩ := hrel
    obtain ⟨Av, nv, cv, rfl, _⟩ := OwnV.rd hv.own
    have HV := Lib.hid hv
    have HL := Lib.hid hl
    have hyl : ys.length ≤ 12 := by omega
    by_cases hlt : (j : Int) < k ∧ j < 12
    · obtain ⟨hlt, h12⟩ := hlt
      by_cases hjn : j < n
      · obtain ⟨b, o, rfl, hb, z0, z1, z2⟩ := (hA.new hv.bel).at_ hjn
        generalize xs[j]'_ = x at *
        have h1 := one_rdV wr x
        clear hv hl
        go_wp2_with (at_builtin; refine wpList_appendV _ rfl _ _ rfl (.slice Av nv cv) ys rfl (by exact Own.new HV.out.own (by repeat (first | exact Below.refl _ _ | assumption | refine Below.setCell ?_ (by first | (simp; done) | (simp; omega) | omega) _ | refine below_drewN ?_ _ | refine Below.drew ?_ | refine Below.alloc ?_ (by first | (simp; done) | (simp; omega) | omega) _))) _ 1 1 [x] rfl h1 (by omega) ?_; intro v1 w1 hv1 hg1 ha1; have HV1 := Lib.hid hv1; have HG1 := Lib.hid hg1; have HA1 := Lib.hid ha1; clear hv1 hg1 ha1)
        go_roundw
        case rel => exact ⟨j + 1, _, by omega, by go_num, by simp [HL.out], NewRow.app (HV.out.below (by exact (by repeat (first | exact Below.refl _ _ | assumption | refine Below.setCell ?_ (by first | (simp; done) | (simp; omega) | omega) _ | refine below_drewN ?_ _ | refine Below.drew ?_ | refine Below.alloc ?_ (by first | (simp; done) | (simp; omega) | omega) _)))) HV1.out HG1.out HA1.out⟩
        case measure => simp [intOf]; omega
      · have h1 := one_rdV wr V.zero
        clear hv hl
        go_wp2_with (at_builtin; refine wpList_appendV _ rfl _ _ rfl (.slice Av nv cv) ys rfl (by exact Own.new HV.out.own (by repeat (first | exact Below.refl _ _ | assumption | refine Below.setCell ?_ (by first | (simp; done) | (simp; omega) | omega) _ | refine below_drewN ?_ _ | refine Below.drew ?_ | refine Below.alloc ?_ (by first | (simp; done) | (simp; omega) | omega) _))) _ 1 1 [V.zero] rfl (by exact h1) (by omega) ?_; intro v1 w1 hv1 hg1 ha1; have HV1 := Lib.hid hv1; have HG1 := Lib.hid hg1; have HA1 := Lib.hid ha1; clear hv1 hg1 ha1)
        go_roundw
        case rel => exact ⟨j + 1, _, by omega, by go_num, by simp [HL.out], NewRow.app (HV.out.below (by exact (by repeat (first | exact Below.refl _ _ | assumption | refine Below.setCell ?_ (by first | (simp; done) | (simp; omega) | omega) _ | refine below_drewN ?_ _ | refine Below.drew ?_ | refine Below.alloc ?_ (by first | (simp; done) | (simp; omega) | omega) _)))) HV1.out HG1.out HA1.out⟩
        case measure => simp [intOf]; omega
    · clear hv hl
      by_cases hkn : (j : Int) < k
      all_goals
        first
          | have hk2 : ¬ j < 12 := by omega
          | skip
        go_wp2
        go_ret
        first
          | exact ⟨_, ys, rfl, HV.out, hyl⟩
          | exact ⟨_, rfl, ys, HV.out, hyl⟩
end Go.Proofs.Ythdkloojhenlkaa
