/- LinearKeeps: the walk. -/
import Derived.Test.YtbfjkjkanckcjaaLMer
import Derived.Test.YtbfjkjkanckcjaaRnd
namespace Go.Proofs.Ytbfjkjkanckcjaa
open Go.RowKit Go.Shelf

theorem any_take_succ {α : Type} {f : α → Bool} {xs : List α} {k : Nat} {a : α} (h : xs[k]? = some a) : (xs.take (k + 1)).any f = ((xs.take k).any f || f a) := by
  obtain ⟨hk, e⟩ := List.getElem?_eq_some_iff.1 h
  rw [List.take_succ_eq_append_getElem hk, e, List.any_append]
  simp
theorem nodup_ne {l : List Int} (h : l.Nodup) {i k : Nat} (hk : k < i) (hi : i < l.length) : (l[k] != l[i]) = true := by
  have := List.pairwise_iff_getElem.1 h k i (by omega) hi hk
  simpa using this
/-- a row of rows, and what its rows are -/
theorem row_of {w : World} {A : Option Addr} {n c : Nat} {os : List SlI} {rows : List (List Int)} (hR : RdR w A n c os) (hK : AllOk w os) (hu : nums os = rows) {k : Nat} (hk : k < n) :
    ∃ b o Ak nk ck xk, A = some ⟨b, o, none⟩ ∧ b < w.heap.size ∧ w.cell? ⟨b, o + k, none⟩ = some (.slice Ak nk ck) ∧ RdI w Ak nk ck xk ∧ rows[k]? = some xk := by
  have hx : k < os.length := by rw [hR.1]; exact hk
  obtain ⟨b, o, e, hb, h1⟩ := hR.at_ hk
  exact ⟨b, o, _, _, _, _, e, hb, h1, hK os[k] (List.getElem_mem hx), by rw [← hu]; simp [nums, hx]⟩

set_option maxRecDepth 100000 in
set_option maxHeartbeats 4000000 in
theorem keeps_walk (A : Option Addr) (n c : Nat) (rs : List SlI) (w : World) (hR : RdR w A n c rs) (hok : AllOk w rs) :
    Calls Try.prog 6 #[.slice A n c] w fun e w' => e = .returned (.bool true) ∧ Below w.heap.size w w' := by
  have HR := Lib.hid hR
  have HOK := Lib.hid hok
  clear hR hok
  go_enter Try.func6, Try.ntmps6
  go_wp2_with fail
  (with_reducible refine (shown_any _).mono ?_)
  rintro e w1 ⟨rfl, hb1⟩
  have HB1 := Lib.hid hb1
  have HC1 := Lib.hid (cut_any A n c rs w1 (HR.out.new hb1) (HOK.out.new hb1))
  clear hb1
  go_wp2_with fail
  (with_reducible refine HC1.out.mono ?_)
  rintro e w2 ⟨v2, o2, rfl, hn2, hu2⟩
  obtain ⟨A2, n2, c2, rfl, hr2, hk2, hl2, hw2, hb2⟩ := hn2.rd hu2
  have HB2 := Lib.hid (HB1.out.trans (hb2.mono HB1.out.size))
  have HR2 := Lib.hid hr2
  have HK2 := Lib.hid hk2
  have HM2 := Lib.hid (merge_of A2 n2 c2 o2 w2 _ hu2 hr2 hk2 (by omega) (by omega))
  have HU2 := Lib.hid hu2
  clear hn2 hu2 hr2 hk2 hw2 hb2 HC1 HB1
  generalize hrows : cutTo 8 (nums rs) 8 = rows at *
  have hln : rows.length = n2 := by rw [← HU2.out, nums_length, HR2.out.1]
  have HLN := Lib.hid hln
  clear hrows hln HR HOK
  go_wp2_with fail
  (with_reducible refine HM2.out.mono ?_)
  rintro e w3 ⟨A3, n3, c3, rfl, hr3, hb3⟩
  have HB3 := Lib.hid (HB2.out.trans (hb3.mono HB2.out.size))
  have HR2 := Lib.hid (HR2.out.new hb3)
  have HK2 := Lib.hid (HK2.out.new hb3)
  clear hb3 HM2 HB2
  cases hr : Lin.merge rows with
  | none =>
    rw [hr] at hr3
    obtain rfl : n3 = 0 := hr3.1.symm
    simp only [Option.isSome_none]
    clear hr3 hr
    go_wp2_with fail
    go_ret
    exact ⟨rfl, HB3.out⟩
  | some a =>
    have hkeep := Lin.merge_keeps hr
    have hnodup := Lin.merge_nodup hr
    have hfrom := Lin.merge_from hr
    rw [hr] at hr3
    have hr3 : RdI w3 A3 n3 c3 a := hr3
    have hl3 := hr3.1
    have hn39 := hr3.le
    have hnc3 := hr3.2.1
    have hc39 := hr3.2.2.1
    have HR3 := Lib.hid hr3
    have HKEEP := Lib.hid hkeep
    have HNOD := Lib.hid hnodup
    have HFROM := Lib.hid hfrom
    simp only [Option.isSome_some]
    clear hr hr3 hkeep hnodup hfrom
    go_wp2_with fail
    go_loopw [7] (fun i wr => ∃ k : Nat, k ≤ n2 ∧ i = .int .i64 k ∧ ∃ q, wr = w3.drewN q) (fun i _ => n2 - (intOf i).toNat)
    case atStart => exact ⟨0, Nat.zero_le _, rfl, 0, rfl⟩
    case round =>
      obtain ⟨k, hk, rfl, q, rfl⟩ := hrel
      by_cases hlt : k < n2
      · obtain ⟨b, o, Ak, nk, ck, xk, rfl, hb, g1, gx, gk⟩ := row_of HR2.out HK2.out HU2.out hlt
        have HA := Lib.hid (HR3.out.new (below_drewN (Below.refl w3.heap.size w3) q))
        have HX := Lib.hid (gx.new (below_drewN (Below.refl w3.heap.size w3) q))
        have HKP := Lib.hid (keepI_iff.2 (HKEEP.out xk (List.mem_of_getElem? gk)))
        clear gx gk
        go_wp2_with fail
        (with_reducible refine (keeps_is HA.out HX.out HKP.out).mono ?_)
        rintro e w5 ⟨rfl, q5, rfl⟩
        go_wp2_with fail
        go_roundw
        case rel => exact ⟨k + 1, by omega, by go_num, _, rfl⟩
        case measure => simp [intOf]; omega
      · skip
        go_wp2_with fail
        go_loopw [8] (fun i wr => ∃ k : Nat, k ≤ n3 ∧ i = .int .i64 k ∧ ∃ q, wr = w3.drewN q) (fun i _ => n3 - (intOf i).toNat)
        case atStart => exact ⟨0, Nat.zero_le _, rfl, _, rfl⟩
        case round =>
          obtain ⟨i, hi, rfl, q1, rfl⟩ := hrel
          by_cases hlti : i < n3
          · have hia : i < a.length := by omega
            have hone := HR3.out
            obtain ⟨ba, oa, rfl, hba, gx⟩ := HR3.out.at_ hlti
            have hone := hone.one hlti
            have hmem : a[i] ∈ a := List.getElem_mem hia
            have hany : rows.any (fun r => hasI r a[i]) = true := by
              obtain ⟨r, h1, h2⟩ := HFROM.out _ hmem
              exact List.any_eq_true.2 ⟨r, h1, hasI_iff.2 h2⟩
            have hne : ∀ k (hk : k < i), (a[k]'(by omega) != a[i]) = true := fun k hk => nodup_ne HNOD.out hk hia
            have HONE := Lib.hid (fun q => hone.new (below_drewN (Below.refl w3.heap.size w3) q))
            have HNE := Lib.hid hne
            generalize a[i] = x at *
            have HANY := Lib.hid hany
            have hci : c3 ≠ i := by omega
            have hci2 : i + 1 ≤ c3 := by omega
            clear hone hmem hany hne
            go_wp2_with fail
            go_loopw [9, 10] (fun f i wr => ∃ (m : Nat) (fb : Bool), m ≤ n2 ∧ i = .int .i64 m ∧ (∃ q, wr = w3.drewN q) ∧ f = .bool fb ∧ Hid ((rows.take m).any (fun r => hasI r x) = fb)) (fun _ i _ => n2 - (intOf i).toNat)
            case atStart => exact ⟨0, false, Nat.zero_le _, rfl, ⟨_, rfl⟩, rfl, rfl⟩
            case round =>
              obtain ⟨m, fb, hm, rfl, ⟨q2, rfl⟩, rfl, hfb⟩ := hrel
              by_cases hltm : m < n2
              · obtain ⟨b, o, Ak, nk, ck, xk, rfl, hb, g1, gxk, gk⟩ := row_of HR2.out HK2.out HU2.out hltm
                have hst := any_take_succ (f := fun r => hasI r x) gk
                rw [hfb.out] at hst
                have HX := Lib.hid (fun q => gxk.new (below_drewN (Below.refl w3.heap.size w3) q))
                cases fb
                · cases hh : hasI xk x
                  all_goals
                    rw [hh] at hst
                    have HST := Lib.hid hst
                    have HK := Lib.hid ((keep_one xk x).trans hh)
                    clear hst hh gxk gk
                    have hw1 : IntKind.i64.wrap ((i : Int) + 1) = (i : Int) + 1 := IntWalk.i64_in _ (by omega)
                    have hw2 : ((i : Int) + 1).toNat = i + 1 := by omega
                    have hw3 : (0 : Int) ≤ (i : Int) + 1 := by omega
                    have hw4 : (i : Int) + 1 ≤ (c3 : Int) := by omega
                    have hw5 : (i : Int) ≤ (i : Int) + 1 := by omega
                    go_wp2_with fail
                    go_quiet ((go_at_call 25; exact quiet_same_sum (keeps_is (HX.out _) (HONE.out _) HK.out)))
                    clear hw1 hw2 hw3 hw4 hw5
                    go_wp2_with fail
                    go_roundw
                    case rel => exact ⟨m + 1, _, by omega, by go_num, ⟨_, rfl⟩, rfl, HST.out⟩
                    case measure => simp [intOf]; omega
                · have HST := Lib.hid hst
                  clear hst gxk gk
                  go_wp2_with fail
                  go_quiet (fail)
                  go_wp2_with fail
                  go_roundw
                  case rel => exact ⟨m + 1, true, by omega, by go_num, ⟨_, rfl⟩, rfl, by unfold Hid; rw [HST.out]; rfl⟩
                  case measure => simp [intOf]; omega
              · have hfb2 : fb = true := by
                  have h := hfb.out
                  rw [List.take_of_length_le (by rw [HLN.out]; omega), HANY.out] at h
                  exact h.symm
                subst hfb2
                go_wp2_with fail
                go_loopw [9, 11] (fun f j wr => ∃ m : Nat, m ≤ i ∧ j = .int .i64 m ∧ (∃ q, wr = w3.drewN q) ∧ f = .bool true) (fun _ j _ => i - (intOf j).toNat)
                case atStart => exact ⟨0, Nat.zero_le _, rfl, ⟨_, rfl⟩, rfl⟩
                case round =>
                  obtain ⟨p, hp, rfl, ⟨q3, rfl⟩, rfl⟩ := hrel
                  by_cases hltp : p < i
                  · obtain ⟨_, _, e, _, gp⟩ := HR3.out.at_ (show p < n3 by omega)
                    cases e
                    have hnp := HNE.out p hltp
                    generalize a[p]'_ = y at *
                    go_wp2_with fail
                    go_quiet (fail)
                    go_wp2_with fail
                    go_roundw
                    case rel => exact ⟨p + 1, by omega, by go_num, ⟨_, rfl⟩, rfl⟩
                    case measure => simp [intOf]; omega
                  · skip
                    go_wp2_with fail
                    go_roundw
                    case rel => exact ⟨i + 1, by omega, by go_num, _, rfl⟩
                    case measure => simp [intOf]; omega
          · skip
            go_wp2_with fail
            go_ret
            exact ⟨rfl, below_drewN HB3.out _⟩
end Go.Proofs.Ytbfjkjkanckcjaa
