/- LinearFirst: the walk. -/
import Derived.Test.YtbfjkjkanckcjaaLKee
import Derived.Test.YtbfjkjkanckcjaaLTwi
import Derived.Test.YtbfjkjkanckcjaaLin3
import Derived.Deep.DeepCutAuto
namespace Go.Proofs.Ytbfjkjkanckcjaa
open Go.RowKit Go.Shelf

theorem add_none (b o k : Nat) : (⟨b, o, none⟩ : Addr).add k = ⟨b, o + k, none⟩ := by
  unfold Addr.add
  split
  · simp_all
  · rfl
theorem leftOf_cons_in {pre : List Int} {x : Int} {t : List Int} (h : hasI pre x = true) : leftOf pre (x :: t) = leftOf pre t := by
  unfold leftOf
  rw [List.dropWhile_cons, if_pos h]
theorem leftOf_cons_out {pre : List Int} {x : Int} {t : List Int} (h : hasI pre x = false) : leftOf pre (x :: t) = x :: t := by
  unfold leftOf
  rw [List.dropWhile_cons, if_neg (by rw [h]; decide)]
theorem map_take_succ {α β : Type} {f : α → β} {xs : List α} {k : Nat} {a : α} (h : xs[k]? = some a) : (xs.take (k + 1)).map f = (xs.take k).map f ++ [f a] := by
  obtain ⟨hk, e⟩ := List.getElem?_eq_some_iff.1 h
  rw [List.take_succ_eq_append_getElem hk, e, List.map_append]
  rfl

set_option maxRecDepth 100000 in
set_option maxHeartbeats 8000000 in
theorem first_walk (A : Option Addr) (n c : Nat) (rs : List SlI) (w : World) (hR : RdR w A n c rs) (hok : AllOk w rs) :
    Calls Try.prog 8 #[.slice A n c] w fun e w' => e = .returned (.bool true) ∧ Below w.heap.size w w' := by
  have HR := Lib.hid hR
  have HOK := Lib.hid hok
  clear hR hok
  go_enter Try.func8, Try.ntmps8
  go_wp2_with fail
  (with_reducible refine (shown_any _).mono ?_)
  rintro e w1 ⟨rfl, hb1⟩
  have HB1 := Lib.hid hb1
  have HC1 := Lib.hid (cut_any A n c rs w1 (HR.out.new hb1) (HOK.out.new hb1))
  clear hb1
  go_wp2_with fail
  (with_reducible refine HC1.out.mono ?_)
  rintro e w2 ⟨v2, o2, rfl, hn2, hu2⟩
  obtain ⟨A2, n2, c2, rfl, hr2, hk2, hl2, hw2, hb2⟩ := hn2.rd hu2
  have HB2 := Lib.hid (HB1.out.trans (hb2.mono HB1.out.size))
  have HR2 := Lib.hid hr2
  have HK2 := Lib.hid hk2
  have HM2 := Lib.hid (merge_of A2 n2 c2 o2 w2 _ hu2 hr2 hk2 (by omega) (by omega))
  have HU2 := Lib.hid hu2
  clear hn2 hu2 hr2 hk2 hw2 hb2 HC1 HB1
  generalize hrows : cutTo 8 (nums rs) 8 = rows at *
  have hln : rows.length = n2 := by rw [← HU2.out, nums_length, HR2.out.1]
  have HLN := Lib.hid hln
  clear hrows hln HR HOK
  go_wp2_with fail
  (with_reducible refine HM2.out.mono ?_)
  rintro e w3 ⟨A3, n3, c3, rfl, hr3, hb3⟩
  have HB3 := Lib.hid (HB2.out.trans (hb3.mono HB2.out.size))
  have HR2 := Lib.hid (HR2.out.new hb3)
  have HK2 := Lib.hid (HK2.out.new hb3)
  clear hb3 HM2 HB2
  cases hr : Lin.merge rows with
  | none =>
    simp only [Option.isSome_none]
    clear hr3 hr
    go_wp2_with fail
    go_ret
    exact ⟨rfl, HB3.out⟩
  | some a =>
    rw [hr] at hr3
    have hr3 : RdI w3 A3 n3 c3 a := hr3
    have hl3 := hr3.1
    have hn39 := hr3.le
    have hnc3 := hr3.2.1
    have hc39 := hr3.2.2.1
    have HR3 := Lib.hid hr3
    have HMG := Lib.hid hr
    simp only [Option.isSome_some]
    clear hr hr3
    go_wp2_with fail
    go_loopw [7] (fun i wr => ∃ i_ : Nat, i_ ≤ n3 ∧ i = .int .i64 i_ ∧ Below w3.heap.size w3 wr) (fun i _ => n3 - (intOf i).toNat)
    case atStart => exact ⟨0, Nat.zero_le _, rfl, Below.refl _ _⟩
    case round =>
      obtain ⟨i, hi, rfl, hbw⟩ := hrel
      obtain ⟨W, rfl⟩ : ∃ W : World, W = wr := ⟨_, rfl⟩
      by_cases hlti : i < n3
      · have hia : i < a.length := by omega
        have hpick := picked_at HMG.out hia
        have HR2W := Lib.hid (HR2.out.new hbw)
        have HK2W := Lib.hid (HK2.out.new hbw)
        have HR3W := Lib.hid (HR3.out.new hbw)
        have hpre := (HR3.out.new hbw).lo hi
        have HPRE := Lib.hid hpre
        have HPK := Lib.hid hpick
        have h0 := NewR.empty 25 W
        have H0 := Lib.hid h0
        have HBW := Lib.hid hbw
        have ic3 : (i : Int) ≤ (c3 : Int) := by omega
        clear hpick hpre h0 hbw
        generalize a.take i = pre at *
        go_wp2_with fail
        go_loopw [8, 9] (fun v8 j wr => ∃ (k : Nat) (ls : List SlI), k ≤ n2 ∧ j = .int .i64 k ∧ NewR 25 W wr v8 ls ∧ AllOk W ls ∧ Hid (nums ls = (rows.take k).map (leftOf pre))) (fun _ j _ => n2 - (intOf j).toNat)
        case atStart => exact ⟨0, [], Nat.zero_le _, rfl, H0.out, allOk_nil _, rfl⟩
        case round =>
          obtain ⟨k, ls, hk, rfl, h8, hls, hnl⟩ := hrel
          obtain ⟨Wk, rfl⟩ : ∃ Wk : World, Wk = wr := ⟨_, rfl⟩
          have hlsl : ls.length = k := by rw [← nums_length, hnl.out, List.length_map, List.length_take, HLN.out]; omega
          have hlsl8 : ls.length ≤ 8 := by omega
          have HLSL := Lib.hid hlsl
          clear hlsl
          by_cases hltk : k < n2
          · obtain ⟨b, o, Ak, nk, ck, xk, rfl, hb, g1W, gx, gk⟩ := row_of HR2W.out HK2W.out HU2.out hltk
            have g1 : Wk.cell? ⟨b, o + k, none⟩ = some (.slice Ak nk ck) := (h8.bel.cell (p := ⟨b, o + k, none⟩) hb).trans g1W
            have hnk := gx.le
            have hnck := gx.2.1
            have hck9 := gx.2.2.1
            have hlk := gx.1
            have HNL := Lib.hid (hnl.out)
            have HMT := Lib.hid (map_take_succ (f := leftOf pre) gk)
            have HGX := Lib.hid gx
            have H8 := Lib.hid h8
            have HLS := Lib.hid hls
            have HPK2 := Lib.hid (HPRE.out.new h8.bel)
            clear gx gk h8 hls hnl g1W
            go_wp2_with fail
            go_loopw [10] (fun j wr => ∃ f q : Nat, f ≤ nk ∧ j = .int .i64 f ∧ wr = Wk.drewN q ∧ Hid (leftOf pre (xk.drop f) = leftOf pre xk)) (fun j _ => nk - (intOf j).toNat)
            case atStart => exact ⟨0, 0, Nat.zero_le _, rfl, rfl, rfl⟩
            case round =>
              obtain ⟨f, q, hf, rfl, rfl, hlf⟩ := hrel
              have hfi : (f : Int) ≤ (ck : Int) := by omega
              -- what follows the loop, where the row is cut at f
              obtain ⟨A7, hA7⟩ : ∃ A7, (if ck = f then Ak else Option.map (fun x => x.add f) Ak) = A7 := ⟨_, rfl⟩
              have hend : leftOf pre xk = xk.drop f → RdI W A7 (nk - f) (ck - f) (leftOf pre xk) := fun e => by
                rw [e]
                refine HGX.out.hi hf fun h => ?_
                rw [← hA7, if_neg (by omega), Nat.mul_one]
              have HEND := Lib.hid hend
              clear hend
              by_cases hlf2 : f < nk
              · have hfx : f < xk.length := by omega
                obtain ⟨bx, ox, rfl, hbx, hx0⟩ := (HGX.out.new H8.out.bel).at_ hlf2
                have hone := (HGX.out.new H8.out.bel).one hlf2
                have hd := List.drop_eq_getElem_cons hfx
                generalize xk[f] = x at *
                have HONE := Lib.hid (fun q' => hone.new (below_drewN (Below.refl Wk.heap.size Wk) q'))
                have HPQ := Lib.hid (fun q' => HPK2.out.new (below_drewN (Below.refl Wk.heap.size Wk) q'))
                have hcf : ck ≠ f := by omega
                have hcf2 : f + 1 ≤ ck := by omega
                have hlf' := hlf.out
                rw [hd] at hlf'
                have hw1 : IntKind.i64.wrap ((f : Int) + 1) = (f : Int) + 1 := IntWalk.i64_in _ (by omega)
                have hw2 : ((f : Int) + 1).toNat = f + 1 := by omega
                have hw3 : (0 : Int) ≤ (f : Int) + 1 := by omega
                have hw4 : (f : Int) + 1 ≤ (ck : Int) := by omega
                have hw5 : (f : Int) ≤ (f : Int) + 1 := by omega
                clear hone
                cases hh : hasI pre x
                · rw [leftOf_cons_out hh, ← hd] at hlf'
                  have HK := Lib.hid ((keep_one pre x).trans hh)
                  have HE := Lib.hid (HEND.out hlf'.symm)
                  have e7 : A7 = some ⟨bx, ox + f, none⟩ := by
                    rw [← hA7, if_neg hcf]
                    exact congrArg some (add_none bx ox f)
                  subst e7
                  clear hlf' hd hh HEND hA7
                  go_wp2_with fail
                  go_quiet ((go_at_call 25; exact quiet_same_sum (keeps_is (HPQ.out _) (HONE.out _) HK.out)))
                  clear hw1 hw2 hw3 hw4 hw5
                  go_upto_region 16 with (fail)
                  go_wp2_with (at_builtin; refine wpList_appendR _ rfl (.tmp 61) (.tmp 68) rfl u8 ls rfl (by exact NewR.own (H8.out.below (by repeat (first | exact Below.refl _ _ | assumption | refine Below.setCell ?_ (by first | (simp; done) | (simp; omega) | omega) _ | refine below_drewN ?_ _ | refine Below.drew ?_ | refine Below.alloc ?_ (by first | (simp; done) | (simp; omega) | omega) _)))) (some ⟨Wk.heap.size, 0, none⟩) 1 1 [⟨some ⟨bx, ox + f, none⟩, nk - f, ck - f, leftOf pre xk⟩] rfl (by exact one_rdR (Wk.drewN _) 25 ⟨some ⟨bx, ox + f, none⟩, nk - f, ck - f, leftOf pre xk⟩) (by omega) ?_; intro v6 w6 hv6 hg6 ha6; have h16 := (H8.out.below (by exact (by repeat (first | exact Below.refl _ _ | assumption | refine Below.setCell ?_ (by first | (simp; done) | (simp; omega) | omega) _ | refine below_drewN ?_ _ | refine Below.drew ?_ | refine Below.alloc ?_ (by first | (simp; done) | (simp; omega) | omega) _)))).app hv6 hg6 ha6; have H16 := Lib.hid h16; clear hv6 hg6 ha6 h16)
                  go_roundw
                  case rel => exact ⟨k + 1, ls ++ [⟨some ⟨bx, ox + f, none⟩, nk - f, ck - f, leftOf pre xk⟩], by omega, by go_num, H16.out, allOk_append HLS.out (fun s hs => by rw [List.mem_singleton] at hs; subst hs; exact HE.out), by unfold Hid; rw [nums_append, HNL.out, HMT.out]; rfl⟩
                  case measure => simp [intOf]; omega
                · rw [leftOf_cons_in hh] at hlf'
                  have HK := Lib.hid ((keep_one pre x).trans hh)
                  have HL := Lib.hid hlf'
                  clear hlf' hd hh HEND hA7
                  go_wp2_with fail
                  go_quiet ((go_at_call 25; exact quiet_same_sum (keeps_is (HPQ.out _) (HONE.out _) HK.out)))
                  clear hw1 hw2 hw3 hw4 hw5
                  go_wp2_with fail
                  go_roundw
                  case rel => exact ⟨f + 1, _, by omega, by go_num, rfl, HL.out⟩
                  case measure => simp [intOf]; omega
              · obtain rfl : f = nk := by omega
                have hd : leftOf pre xk = xk.drop f := by
                  have h := hlf.out
                  rw [List.drop_of_length_le (by omega)] at h ⊢
                  exact h.symm
                have HE := Lib.hid (show RdI W A7 0 (ck - f) (leftOf pre xk) from by have h := HEND.out hd; rwa [Nat.sub_self] at h)
                clear hd HEND
                have hdn : decide (f < f) = false := by simp
                go_wp2_with fail
                go_quiet (fail)
                go_upto_region 16 with (fail)
                go_wp2_with (at_builtin; refine wpList_appendR _ rfl (.tmp 61) (.tmp 68) rfl u8 ls rfl (by exact NewR.own (H8.out.below (by repeat (first | exact Below.refl _ _ | assumption | refine Below.setCell ?_ (by first | (simp; done) | (simp; omega) | omega) _ | refine below_drewN ?_ _ | refine Below.drew ?_ | refine Below.alloc ?_ (by first | (simp; done) | (simp; omega) | omega) _)))) (some ⟨Wk.heap.size, 0, none⟩) 1 1 [⟨A7, 0, ck - f, leftOf pre xk⟩] rfl (by exact one_rdR (Wk.drewN _) 25 ⟨A7, 0, ck - f, leftOf pre xk⟩) (by omega) ?_; intro v6 w6 hv6 hg6 ha6; have h16 := (H8.out.below (by exact (by repeat (first | exact Below.refl _ _ | assumption | refine Below.setCell ?_ (by first | (simp; done) | (simp; omega) | omega) _ | refine below_drewN ?_ _ | refine Below.drew ?_ | refine Below.alloc ?_ (by first | (simp; done) | (simp; omega) | omega) _)))).app hv6 hg6 ha6; have H16 := Lib.hid h16; clear hv6 hg6 ha6 h16)
                go_roundw
                case rel => exact ⟨k + 1, ls ++ [⟨A7, 0, ck - f, leftOf pre xk⟩], by omega, by go_num, H16.out, allOk_append HLS.out (fun s hs => by rw [List.mem_singleton] at hs; subst hs; exact HE.out), by unfold Hid; rw [nums_append, HNL.out, HMT.out]; rfl⟩
                case measure => simp [intOf]; omega
          · obtain rfl : k = n2 := by omega
            have hnl2 : nums ls = rows.map (leftOf pre) := by
              have h := hnl.out
              rw [List.take_of_length_le (by rw [HLN.out]; omega)] at h
              exact h
            obtain ⟨A8, c8, rfl, hr8, _⟩ := OwnR.rdL h8.own
            rw [HLSL.out] at hr8
            have hl8 := HLSL.out
            have hpk := HPK.out
            rw [← hnl2] at hpk
            have HR8 := Lib.hid hr8
            have HK8 := Lib.hid (hls.new h8.bel)
            have HB8 := Lib.hid (HBW.out.trans (h8.bel.mono HBW.out.size))
            have HPK := Lib.hid hpk
            have hra := HR3.out.new HB8.out
            obtain ⟨ba, oa, rfl, hba, hai⟩ := hra.at_ hlti
            generalize a[i] = x at *
            generalize hleft : nums ls = left at *
            have hleftl : left.length = k := by rw [← hleft, nums_length]; exact hl8
            have HLEFT := Lib.hid hleft
            have HLL := Lib.hid hleftl
            clear h8 hls hnl hnl2 hr8 hl8 hpk hra hleft hleftl HLSL
            rw [show ls.length = k from by have := HR8.out.1; exact this]
            go_wp2_with fail
            go_loopw [11] (fun j wr => ∃ m : Nat, m ≤ k ∧ j = .int .i64 m ∧ (∃ q, wr = Wk.drewN q) ∧ Hid (pickTo left m = none)) (fun j _ => k - (intOf j).toNat)
            case atStart => exact ⟨0, Nat.zero_le _, rfl, ⟨0, rfl⟩, rfl⟩
            case round =>
              obtain ⟨m, hm, rfl, ⟨q, rfl⟩, hpt⟩ := hrel
              by_cases hltm : m < k
              · obtain ⟨b8, o8, Am, nm, cm, xm, rfl, hbm, g1, gx, gk⟩ := row_of HR8.out HK8.out HLEFT.out hltm
                have hnm9 := gx.le
                have hlm := gx.1
                by_cases hz : nm = 0
                · subst hz
                  obtain rfl : xm = [] := List.eq_nil_of_length_eq_zero hlm
                  have HPV := Lib.hid (pickTo_void gk)
                  clear gk gx
                  go_wp2_with fail
                  go_roundw
                  case rel => exact ⟨m + 1, by omega, by go_num, ⟨_, rfl⟩, HPV.out.1.trans hpt.out⟩
                  case measure => simp [intOf]; omega
                · have hpos : 0 < nm := by omega
                  obtain ⟨y, t, rfl⟩ : ∃ y t, xm = y :: t := by
                    cases xm with
                    | nil => simp at hlm; omega
                    | cons y t => exact ⟨y, t, rfl⟩
                  have hhead := gx.lo (k := 1) (by omega)
                  obtain ⟨bm, om, rfl, _, hy1⟩ := gx.at_ hpos
                  have hy0 : Wk.cell? ⟨bm, om, none⟩ = some (.int .i64 y) := hy1
                  clear hy1
                  have hzb : ((nm : Int) == 0) = false := by simp; omega
                  have hncm := gx.2.1
                  have hcm9 := gx.2.2.1
                  have hcm1 : 1 ≤ cm := by omega
                  have HHD := Lib.hid (fun q' => RdI.new (show RdI Wk (some ⟨bm, om, none⟩) 1 cm [y] from hhead) (below_drewN (Below.refl Wk.heap.size Wk) q'))
                  have HGK := Lib.hid gk
                  clear gx gk hhead
                  go_wp2_with fail
                  go_loopw [12, 13] (fun f j wr => ∃ (p : Nat) (fb : Bool), p ≤ k ∧ j = .int .i64 p ∧ (∃ q, wr = Wk.drewN q) ∧ f = .bool fb ∧ Hid ((!tailI (left.take p) y) = fb)) (fun _ j _ => k - (intOf j).toNat)
                  case atStart => exact ⟨0, true, Nat.zero_le _, rfl, ⟨_, rfl⟩, rfl, rfl⟩
                  case round =>
                    obtain ⟨p, fb, hp, rfl, ⟨q2, rfl⟩, rfl, hfb⟩ := hrel
                    by_cases hltp : p < k
                    · obtain ⟨_, _, Ap, np, cp, xp, ep, hbp, p1, px, pk⟩ := row_of HR8.out HK8.out HLEFT.out hltp
                      cases ep
                      have hts := tailTo_step pk y
                      have hf := hfb.out
                      have hnp9 := px.le
                      have hlp := px.1
                      cases fb
                      · have hts2 : (!tailI (left.take (p + 1)) y) = false := by
                          rw [hts]
                          have : tailI (left.take p) y = true := by simpa using hf
                          rw [this]
                          rfl
                        have HTS := Lib.hid hts2
                        clear hts hf hts2 pk px
                        go_wp2_with fail
                        go_quiet (fail)
                        go_wp2_with fail
                        go_roundw
                        case rel => exact ⟨p + 1, false, by omega, by go_num, ⟨_, rfl⟩, rfl, HTS.out⟩
                        case measure => simp [intOf]; omega
                      · have hf0 : tailI (left.take p) y = false := by simpa using hf
                        rw [hf0, Bool.false_or] at hts
                        by_cases hzp : np = 0
                        · subst hzp
                          obtain rfl : xp = [] := List.eq_nil_of_length_eq_zero hlp
                          have hts2 : (!tailI (left.take (p + 1)) y) = true := by rw [hts]; rfl
                          have HTS := Lib.hid hts2
                          clear hts hf hts2 hf0 pk px
                          go_wp2_with fail
                          go_quiet (fail)
                          go_wp2_with fail
                          go_roundw
                          case rel => exact ⟨p + 1, true, by omega, by go_num, ⟨_, rfl⟩, rfl, HTS.out⟩
                          case measure => simp [intOf]; omega
                        · have hzpb : ((np : Int) == 0) = false := by simp; omega
                          have hncp := px.2.1
                          have hcp9 := px.2.2.1
                          have i1 : 1 ≤ np := by omega
                          have hposp : 0 < np := by omega
                          by_cases hc1 : cp = 1
                          · obtain rfl : np = 1 := by omega
                            subst hc1
                            have hxt : xp.tail = [] := List.eq_nil_of_length_eq_zero (by rw [List.length_tail, hlp])
                            rw [hxt] at hts
                            have hts2 : (!tailI (left.take (p + 1)) y) = true := by rw [hts]; rfl
                            have HTS := Lib.hid hts2
                            have HK := Lib.hid (show keepI [] [y] = false from by rw [keep_one]; rfl)
                            have HN := Lib.hid (fun q' => (show RdI (Wk.drewN q') Ap 0 0 [] from RdI.nil_ (by omega)))
                            clear hts hf hts2 hf0 pk px hxt
                            go_wp2_with fail
                            go_quiet ((go_at_call 25; exact quiet_same_sum (keeps_is (HN.out _) (HHD.out _) HK.out)))
                            go_wp2_with fail
                            go_roundw
                            case rel => exact ⟨p + 1, true, by omega, by go_num, ⟨_, rfl⟩, rfl, HTS.out⟩
                            case measure => simp [intOf]; omega
                          · have htl := px.hi (k := 1) i1 (A' := Ap.map (·.add (1 * 1))) (fun _ => rfl)
                            rw [List.drop_one] at htl
                            have HTL := Lib.hid (fun q' => htl.new (below_drewN (Below.refl Wk.heap.size Wk) q'))
                            cases hh : hasI xp.tail y
                            all_goals
                              rw [hh] at hts
                              have hts2 := congrArg (fun z => !z) hts
                              have HTS := Lib.hid hts2
                              have HK := Lib.hid ((keep_one xp.tail y).trans hh)
                              clear hts hf hts2 hf0 pk px hh htl
                              go_wp2_with fail
                              go_quiet ((go_at_call 25; exact quiet_same_sum (keeps_is (HTL.out _) (HHD.out _) HK.out)))
                              go_wp2_with fail
                              go_roundw
                              case rel => exact ⟨p + 1, _, by omega, by go_num, ⟨_, rfl⟩, rfl, HTS.out⟩
                              case measure => simp [intOf]; omega
                    · obtain rfl : p = k := by omega
                      have hf := hfb.out
                      rw [List.take_of_length_le (by rw [HLL.out]; exact Nat.le_refl _)] at hf
                      cases fb
                      · have HPV := Lib.hid (pickTo_not HGK.out (by simpa using hf))
                        clear hf
                        go_wp2_with fail
                        go_roundw
                        case rel => exact ⟨m + 1, by omega, by go_num, ⟨_, rfl⟩, HPV.out.1.trans hpt.out⟩
                        case measure => simp [intOf]; omega
                      · have hyx := pickTo_yes HGK.out (by simpa using hf) hpt.out
                        rw [HPK.out] at hyx
                        obtain rfl : x = y := Option.some.inj hyx
                        clear hf hyx
                        go_wp2_with fail
                        go_quiet (fail)
                        go_wp2_with fail
                        go_roundw
                        case rel => exact ⟨i + 1, by omega, by go_num, below_drewN HB8.out _⟩
                        case measure => simp [intOf]; omega
              · go_wp2_with fail
                go_roundw
                case rel => exact ⟨i + 1, by omega, by go_num, below_drewN HB8.out _⟩
                case measure => simp [intOf]; omega
      · have HBW := Lib.hid hbw
        go_wp2_with fail
        go_ret
        exact ⟨rfl, HB3.out.trans (HBW.out.mono HB3.out.size)⟩
end Go.Proofs.Ytbfjkjkanckcjaa
