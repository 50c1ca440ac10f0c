/- not. -/
import Derived.Test.YtjdcicopjipmnaaDoorCmp
namespace Go.Proofs.YtjdcicopjipmnaaDoor
open Go.RowKit
set_option linter.unusedVariables false
set_option linter.unusedSimpArgs false
set_option maxRecDepth 100000 in
set_option maxHeartbeats 4000000 in
theorem w103_not {X : Cx} {F : Nat → Prop} {s s1 s2 : PS} {T : TokD} {x : Int}
    (k0 : Step X F 76 #[X.p, .int .i64 (0 : Nat)] s (tokV T) s)
    (k1 : Step X F 77 #[X.p, .string kNot] s (.bool true) s1)
    (k2 : Step X F 103 #[X.p] s1 (.int .i64 x) s2)
    (hi0 : ∀ q ∈ [x], -1 ≤ q ∧ q ≤ 4611686018427387904) (hc0 : (addP s2 11 (T.at_) ⟨#[]⟩ 0 [x]).1.ns.length ≤ 1099511627776) :
    Step X F 103 #[X.p] s (.int .i64 (addP s2 11 (T.at_) ⟨#[]⟩ 0 [x]).2) (addP s2 11 (T.at_) ⟨#[]⟩ 0 [x]).1 := by
  intro w h
  have HP := Lib.hid h
  have K0 := Lib.hid k0
  have K1 := Lib.hid k1
  have K2 := Lib.hid k2
  have HK := Lib.hid (KeepE.refl X.B (fun _ => False) w)
  obtain ⟨c2, c4, c5, hlt⟩ := h.cells
  clear h k0 k1 k2
  have HI0 := Lib.hid hi0
  have HC0 := Lib.hid hc0
  clear hi0 hc0
  go_enter Tryd.func103, Tryd.ntmps103
  go_wp2_with (first | (go_at_call 76; go_must (first | (refine (K0.out _ HP.out).mono ?_; clear K0; rintro e w0 ⟨rfl, hp, hk⟩; replace HK := Lib.hid (HK.out.trans hk); replace HP := Lib.hid hp; clear hp hk; (try clear c2 c4 c5 hlt); obtain ⟨c2, c4, c5, hlt⟩ := HP.out.cells; have hf := fldT T w0))) | (go_at_call 77; go_must (first | (refine (K1.out _ HP.out).mono ?_; clear K1; rintro e w1 ⟨rfl, hp, hk⟩; replace HK := Lib.hid (HK.out.trans hk); replace HP := Lib.hid hp; clear hp hk; (try clear c2 c4 c5 hlt); obtain ⟨c2, c4, c5, hlt⟩ := HP.out.cells))) | (go_at_call 103; go_must (first | (refine (K2.out _ HP.out).mono ?_; clear K2; rintro e w2 ⟨rfl, hp, hk⟩; replace HK := Lib.hid (HK.out.trans hk); replace HP := Lib.hid hp; clear hp hk; (try clear c2 c4 c5 hlt); obtain ⟨c2, c4, c5, hlt⟩ := HP.out.cells))) | (go_at_call 79; go_must (refine (add_any (s := s2) (HP.out.bel_ (Below.alloc (Below.refl _ _) (Nat.le_refl _) _)) (Rd.ints _ [x] _ 1 rfl rfl (by omega)) rfl (by omega) HI0.out 11 (T.at_) 0 ⟨#[]⟩ HC0.out).mono ?_); rintro e w1 ⟨rfl, hp, hk⟩; replace hk := (KeepE.of_below X.B (fun _ => False) (Below.alloc (Below.refl _ _) (Nat.le_refl _) _)).trans hk; replace HK := Lib.hid (HK.out.trans hk); replace HP := Lib.hid hp; clear hp hk; (try clear c2 c4 c5 hlt); obtain ⟨c2, c4, c5, hlt⟩ := HP.out.cells))
  go_ret
  exact ⟨rfl, HP.out, HK.out⟩
set_option maxRecDepth 100000 in
set_option maxHeartbeats 4000000 in
theorem w103_sum {X : Cx} {F : Nat → Prop} {s s1 s2 : PS} {T : TokD} {t : ByteArray} {x : Int}
    (k0 : Step X F 76 #[X.p, .int .i64 (0 : Nat)] s (tokV T) s)
    (k1 : Step X F 77 #[X.p, .string kNot] s (.bool false) s1)
    (k2 : Step X F 106 #[X.p] s1 (.int .i64 x) s2)
    (k3 : Step X F 107 #[X.p] s2 (.tuple #[.string t, .int .i64 (0 : Nat)]) s2) :
    Step X F 103 #[X.p] s (.int .i64 x) s2 := by
  intro w h
  have HP := Lib.hid h
  have K0 := Lib.hid k0
  have K1 := Lib.hid k1
  have K2 := Lib.hid k2
  have K3 := Lib.hid k3
  have HK := Lib.hid (KeepE.refl X.B (fun _ => False) w)
  obtain ⟨c2, c4, c5, hlt⟩ := h.cells
  clear h k0 k1 k2 k3
  go_enter Tryd.func103, Tryd.ntmps103
  go_wp2_with (first | (go_at_call 76; go_must (first | (refine (K0.out _ HP.out).mono ?_; clear K0; rintro e w0 ⟨rfl, hp, hk⟩; replace HK := Lib.hid (HK.out.trans hk); replace HP := Lib.hid hp; clear hp hk; (try clear c2 c4 c5 hlt); obtain ⟨c2, c4, c5, hlt⟩ := HP.out.cells; have hf := fldT T w0))) | (go_at_call 77; go_must (first | (refine (K1.out _ HP.out).mono ?_; clear K1; rintro e w1 ⟨rfl, hp, hk⟩; replace HK := Lib.hid (HK.out.trans hk); replace HP := Lib.hid hp; clear hp hk; (try clear c2 c4 c5 hlt); obtain ⟨c2, c4, c5, hlt⟩ := HP.out.cells))) | (go_at_call 106; go_must (first | (refine (K2.out _ HP.out).mono ?_; clear K2; rintro e w2 ⟨rfl, hp, hk⟩; replace HK := Lib.hid (HK.out.trans hk); replace HP := Lib.hid hp; clear hp hk; (try clear c2 c4 c5 hlt); obtain ⟨c2, c4, c5, hlt⟩ := HP.out.cells))) | (go_at_call 107; go_must (first | (refine (K3.out _ HP.out).mono ?_; clear K3; rintro e w3 ⟨rfl, hp, hk⟩; replace HK := Lib.hid (HK.out.trans hk); replace HP := Lib.hid hp; clear hp hk; (try clear c2 c4 c5 hlt); obtain ⟨c2, c4, c5, hlt⟩ := HP.out.cells))))
  go_ret
  exact ⟨rfl, HP.out, HK.out⟩
set_option maxRecDepth 100000 in
set_option maxHeartbeats 4000000 in
theorem w103_cmp {X : Cx} {F : Nat → Prop} {s s1 s2 s4 : PS} {T : TokD} {t t2 : ByteArray} {x y : Int} {n n2 : Nat}
    (k0 : Step X F 76 #[X.p, .int .i64 (0 : Nat)] s (tokV T) s)
    (k1 : Step X F 77 #[X.p, .string kNot] s (.bool false) s1)
    (k2 : Step X F 106 #[X.p] s1 (.int .i64 x) s2)
    (k3 : Step X F 107 #[X.p] s2 (.tuple #[.string t, .int .i64 n]) s2)
    (k4 : Step X F 106 #[X.p] (stepP s2 n) (.int .i64 y) s4)
    (k5 : Step X F 107 #[X.p] (addP s4 13 (placeOf s4 x) t 0 [x, y]).1 (.tuple #[.string t2, .int .i64 n2]) (addP s4 13 (placeOf s4 x) t 0 [x, y]).1)
    (hi0 : ∀ q ∈ [x, y], -1 ≤ q ∧ q ≤ 4611686018427387904) (hc0 : (addP s4 13 (placeOf s4 x) t 0 [x, y]).1.ns.length ≤ 1099511627776)
    (hne : n ≠ 0) (hn : n ≤ 9) (hn2 : s2.at_ + n ≤ X.n)
    (hz : n2 = 0) :
    Step X F 103 #[X.p] s (.int .i64 (addP s4 13 (placeOf s4 x) t 0 [x, y]).2) (addP s4 13 (placeOf s4 x) t 0 [x, y]).1 := by
  intro w h
  have HP := Lib.hid h
  have K0 := Lib.hid k0
  have K1 := Lib.hid k1
  have K2 := Lib.hid k2
  have K3 := Lib.hid k3
  have K4 := Lib.hid k4
  have K5 := Lib.hid k5
  have HK := Lib.hid (KeepE.refl X.B (fun _ => False) w)
  obtain ⟨c2, c4, c5, hlt⟩ := h.cells
  clear h k0 k1 k2 k3 k4 k5
  have HI0 := Lib.hid hi0
  have HC0 := Lib.hid hc0
  clear hi0 hc0
  have HN := Lib.hid hn
  have HN2 := Lib.hid hn2
  have hn0 : ((n : Int) == 0) = false := by simpa using hne
  clear hn hn2 hne
  subst hz
  go_enter Tryd.func103, Tryd.ntmps103
  go_wp2_with (first | (go_at_call 76; go_must (first | (refine (K0.out _ HP.out).mono ?_; clear K0; rintro e w0 ⟨rfl, hp, hk⟩; replace HK := Lib.hid (HK.out.trans hk); replace HP := Lib.hid hp; clear hp hk; (try clear c2 c4 c5 hlt); obtain ⟨c2, c4, c5, hlt⟩ := HP.out.cells; have hf := fldT T w0))) | (go_at_call 77; go_must (first | (refine (K1.out _ HP.out).mono ?_; clear K1; rintro e w1 ⟨rfl, hp, hk⟩; replace HK := Lib.hid (HK.out.trans hk); replace HP := Lib.hid hp; clear hp hk; (try clear c2 c4 c5 hlt); obtain ⟨c2, c4, c5, hlt⟩ := HP.out.cells))) | (go_at_call 106; go_must (first | (refine (K2.out _ HP.out).mono ?_; clear K2; rintro e w2 ⟨rfl, hp, hk⟩; replace HK := Lib.hid (HK.out.trans hk); replace HP := Lib.hid hp; clear hp hk; (try clear c2 c4 c5 hlt); obtain ⟨c2, c4, c5, hlt⟩ := HP.out.cells) | (refine (K4.out _ (HP.out.stepd HN2.out).1).mono ?_; clear K4; rintro e w4 ⟨rfl, hp, hk⟩; replace hk := (HP.out.stepd HN2.out).2.trans hk; replace HK := Lib.hid (HK.out.trans hk); replace HP := Lib.hid hp; clear hp hk; (try clear c2 c4 c5 hlt); obtain ⟨c2, c4, c5, hlt⟩ := HP.out.cells; obtain ⟨hlk, hfd⟩ := HP.out.look (HI0.out x (by simp))))) | (go_at_call 107; go_must (first | (refine (K3.out _ HP.out).mono ?_; clear K3; rintro e w3 ⟨rfl, hp, hk⟩; replace HK := Lib.hid (HK.out.trans hk); replace HP := Lib.hid hp; clear hp hk; (try clear c2 c4 c5 hlt); obtain ⟨c2, c4, c5, hlt⟩ := HP.out.cells; have f2 := HP.out.p.frozen 2; have hw := wrap_in (HP.out.at9 HN.out)) | (refine (K5.out _ HP.out).mono ?_; clear K5; rintro e w5 ⟨rfl, hp, hk⟩; replace HK := Lib.hid (HK.out.trans hk); replace HP := Lib.hid hp; clear hp hk; (try clear c2 c4 c5 hlt); obtain ⟨c2, c4, c5, hlt⟩ := HP.out.cells))) | (go_at_call 79; go_must (refine (add_any (s := s4) (HP.out.bel_ (Below.alloc (Below.refl _ _) (Nat.le_refl _) _)) (Rd.ints _ [x, y] _ 2 rfl rfl (by omega)) rfl (by omega) HI0.out 13 (placeOf s4 x) 0 t HC0.out).mono ?_); rintro e w1 ⟨rfl, hp, hk⟩; replace hk := (KeepE.of_below X.B (fun _ => False) (Below.alloc (Below.refl _ _) (Nat.le_refl _) _)).trans hk; replace HK := Lib.hid (HK.out.trans hk); replace HP := Lib.hid hp; clear hp hk; (try clear c2 c4 c5 hlt); obtain ⟨c2, c4, c5, hlt⟩ := HP.out.cells))
  go_ret
  exact ⟨rfl, HP.out, HK.out⟩
set_option maxRecDepth 100000 in
set_option maxHeartbeats 4000000 in
theorem w103_two {X : Cx} {F : Nat → Prop} {s s1 s2 s4 : PS} {T : TokD} {t t2 : ByteArray} {x y : Int} {n n2 : Nat} {s6 : PS}
    (k0 : Step X F 76 #[X.p, .int .i64 (0 : Nat)] s (tokV T) s)
    (k1 : Step X F 77 #[X.p, .string kNot] s (.bool false) s1)
    (k2 : Step X F 106 #[X.p] s1 (.int .i64 x) s2)
    (k3 : Step X F 107 #[X.p] s2 (.tuple #[.string t, .int .i64 n]) s2)
    (k4 : Step X F 106 #[X.p] (stepP s2 n) (.int .i64 y) s4)
    (k5 : Step X F 107 #[X.p] (addP s4 13 (placeOf s4 x) t 0 [x, y]).1 (.tuple #[.string t2, .int .i64 n2]) (addP s4 13 (placeOf s4 x) t 0 [x, y]).1)
    (k6 : Step X F 96 #[X.p, .int .i64 30, .int .i64 (addP s4 13 (placeOf s4 x) t 0 [x, y]).1.at_] (addP s4 13 (placeOf s4 x) t 0 [x, y]).1 (.int .i64 (-1)) s6)
    (hi0 : ∀ q ∈ [x, y], -1 ≤ q ∧ q ≤ 4611686018427387904) (hc0 : (addP s4 13 (placeOf s4 x) t 0 [x, y]).1.ns.length ≤ 1099511627776)
    (hne : n ≠ 0) (hn : n ≤ 9) (hn2 : s2.at_ + n ≤ X.n)
    (hz : 0 < n2) :
    Step X F 103 #[X.p] s (.int .i64 (-1)) s6 := by
  intro w h
  have HP := Lib.hid h
  have K0 := Lib.hid k0
  have K1 := Lib.hid k1
  have K2 := Lib.hid k2
  have K3 := Lib.hid k3
  have K4 := Lib.hid k4
  have K5 := Lib.hid k5
  have K6 := Lib.hid k6
  have HK := Lib.hid (KeepE.refl X.B (fun _ => False) w)
  obtain ⟨c2, c4, c5, hlt⟩ := h.cells
  clear h k0 k1 k2 k3 k4 k5 k6
  have HI0 := Lib.hid hi0
  have HC0 := Lib.hid hc0
  clear hi0 hc0
  have HN := Lib.hid hn
  have HN2 := Lib.hid hn2
  have hn0 : ((n : Int) == 0) = false := by simpa using hne
  clear hn hn2 hne
  have hz0 : decide ((0 : Int) < (n2 : Int)) = true := decide_eq_true (by omega)
  go_enter Tryd.func103, Tryd.ntmps103
  go_wp2_with (first | (go_at_call 76; go_must (first | (refine (K0.out _ HP.out).mono ?_; clear K0; rintro e w0 ⟨rfl, hp, hk⟩; replace HK := Lib.hid (HK.out.trans hk); replace HP := Lib.hid hp; clear hp hk; (try clear c2 c4 c5 hlt); obtain ⟨c2, c4, c5, hlt⟩ := HP.out.cells; have hf := fldT T w0))) | (go_at_call 77; go_must (first | (refine (K1.out _ HP.out).mono ?_; clear K1; rintro e w1 ⟨rfl, hp, hk⟩; replace HK := Lib.hid (HK.out.trans hk); replace HP := Lib.hid hp; clear hp hk; (try clear c2 c4 c5 hlt); obtain ⟨c2, c4, c5, hlt⟩ := HP.out.cells))) | (go_at_call 106; go_must (first | (refine (K2.out _ HP.out).mono ?_; clear K2; rintro e w2 ⟨rfl, hp, hk⟩; replace HK := Lib.hid (HK.out.trans hk); replace HP := Lib.hid hp; clear hp hk; (try clear c2 c4 c5 hlt); obtain ⟨c2, c4, c5, hlt⟩ := HP.out.cells) | (refine (K4.out _ (HP.out.stepd HN2.out).1).mono ?_; clear K4; rintro e w4 ⟨rfl, hp, hk⟩; replace hk := (HP.out.stepd HN2.out).2.trans hk; replace HK := Lib.hid (HK.out.trans hk); replace HP := Lib.hid hp; clear hp hk; (try clear c2 c4 c5 hlt); obtain ⟨c2, c4, c5, hlt⟩ := HP.out.cells; obtain ⟨hlk, hfd⟩ := HP.out.look (HI0.out x (by simp))))) | (go_at_call 107; go_must (first | (refine (K3.out _ HP.out).mono ?_; clear K3; rintro e w3 ⟨rfl, hp, hk⟩; replace HK := Lib.hid (HK.out.trans hk); replace HP := Lib.hid hp; clear hp hk; (try clear c2 c4 c5 hlt); obtain ⟨c2, c4, c5, hlt⟩ := HP.out.cells; have f2 := HP.out.p.frozen 2; have hw := wrap_in (HP.out.at9 HN.out)) | (refine (K5.out _ HP.out).mono ?_; clear K5; rintro e w5 ⟨rfl, hp, hk⟩; replace HK := Lib.hid (HK.out.trans hk); replace HP := Lib.hid hp; clear hp hk; (try clear c2 c4 c5 hlt); obtain ⟨c2, c4, c5, hlt⟩ := HP.out.cells))) | (go_at_call 96; go_must (first | (refine (K6.out _ HP.out).mono ?_; clear K6; rintro e w6 ⟨rfl, hp, hk⟩; replace HK := Lib.hid (HK.out.trans hk); replace HP := Lib.hid hp; clear hp hk; (try clear c2 c4 c5 hlt); obtain ⟨c2, c4, c5, hlt⟩ := HP.out.cells))) | (go_at_call 79; go_must (refine (add_any (s := s4) (HP.out.bel_ (Below.alloc (Below.refl _ _) (Nat.le_refl _) _)) (Rd.ints _ [x, y] _ 2 rfl rfl (by omega)) rfl (by omega) HI0.out 13 (placeOf s4 x) 0 t HC0.out).mono ?_); rintro e w1 ⟨rfl, hp, hk⟩; replace hk := (KeepE.of_below X.B (fun _ => False) (Below.alloc (Below.refl _ _) (Nat.le_refl _) _)).trans hk; replace HK := Lib.hid (HK.out.trans hk); replace HP := Lib.hid hp; clear hp hk; (try clear c2 c4 c5 hlt); obtain ⟨c2, c4, c5, hlt⟩ := HP.out.cells))
  go_ret
  exact ⟨rfl, HP.out, HK.out⟩
theorem comp_small {L : List TokD} {s : PS} : (compares L s).2 ≤ 9 := by
  unfold compares
  repeat' split
  all_goals (simp only; omega)
theorem not_part {X : Cx} {ex : Ex} {m0 : Nat} (hp : Part X 106 (sumE ex X.L m0)) (hg : GdE X.L.length ex) : ∀ m, Part X 103 (notE ex X.L m0 m)
  | 0 => fun F s r hr hc => by cases hr
  | m + 1 => fun F s r hr hc w h0 => by
    have ih := not_part hp hg m
    unfold notE at hr
    simp only at hr
    have kt : Step X F 77 #[X.p, .string kNot] s (.bool (takeP X.L kNot s).2) (takeP X.L kNot s).1 := take_step_ kNot (sml (by decide))
    split at hr
    · rename_i hy
      rw [hy] at kt
      split at hr
      · cases hr
      · rename_i s1 x he
        obtain rfl := Option.some.inj hr
        have g1 := notE_gd hg m0 m _ _ he
        have l1 := (add_gr (L := X.L) (s := s1) 11 (tokP X.L s 0).at_ ⟨#[]⟩ 0 [x]).lenle
        exact w103_not (tok_step 0 (by omega)) kt (ih F _ _ he (by simp only; omega)) (one_rng g1.2 (by simp only; omega)) hc w h0
    · rename_i hy
      rw [Bool.eq_false_iff.2 hy] at kt
      split at hr
      · cases hr
      · rename_i s1 x he
        have g1 := sumE_gd hg m0 _ _ he
        have kc : Step X F 107 #[X.p] s1 (.tuple #[.string (compares X.L s1).1, .int .i64 (compares X.L s1).2]) s1 := compares_any
        split at hr
        · rename_i hz
          obtain rfl := Option.some.inj hr
          rw [hz] at kc
          exact w103_sum (tok_step 0 (by omega)) kt (hp F _ (s1, x) he hc) kc w h0
        · rename_i hz
          have hcp := compares_in hz
          split at hr
          · cases hr
          · rename_i s2 y hf
            have g2 := sumE_gd hg m0 _ _ hf
            have l2 := g2.1.lenle
            have gs := step_gr (s := s1) hcp.1 hcp.2
            have l3 := (add_gr (L := X.L) (s := s2) 13 (placeOf s2 x) (compares X.L s1).1 0 [x, y]).lenle
            have ln := h0.ln
            simp only at l2
            have kc2 : Step X F 107 #[X.p] (addP s2 13 (placeOf s2 x) (compares X.L s1).1 0 [x, y]).1 (.tuple #[.string (compares X.L (addP s2 13 (placeOf s2 x) (compares X.L s1).1 0 [x, y]).1).1, .int .i64 (compares X.L (addP s2 13 (placeOf s2 x) (compares X.L s1).1 0 [x, y]).1).2]) (addP s2 13 (placeOf s2 x) (compares X.L s1).1 0 [x, y]).1 := compares_any
            have hx2 : In s2 x := (g1.2.mono gs).mono g2.1
            have l4 : s1.ns.length ≤ s2.ns.length := Nat.le_trans gs.lenle l2
            have hst : s1.at_ + (compares X.L s1).2 ≤ X.n := by omega
            split at hr
            · rename_i hn2
              obtain rfl := Option.some.inj hr
              have lf := (fail_same (s := (addP s2 13 (placeOf s2 x) (compares X.L s1).1 0 [x, y]).1) 30 (addP s2 13 (placeOf s2 x) (compares X.L s1).1 0 [x, y]).1.at_).1
              simp only at hc
              rw [lf] at hc
              exact w103_two (tok_step 0 (by omega)) kt (hp F _ (s1, x) he (by simp only; omega)) kc (hp F _ (s2, y) hf (by simp only; omega)) kc2 (fail_step 30 _) (pair_rng hx2 g2.2 (Nat.le_trans l3 hc)) hc hz comp_small hst hn2 w h0
            · rename_i hn2
              obtain rfl := Option.some.inj hr
              exact w103_cmp (tok_step 0 (by omega)) kt (hp F _ (s1, x) he (by simp only; omega)) kc (hp F _ (s2, y) hf (by simp only; omega)) kc2 (pair_rng hx2 g2.2 (Nat.le_trans l3 hc)) hc hz comp_small hst (by omega) w h0
end Go.Proofs.YtjdcicopjipmnaaDoor
