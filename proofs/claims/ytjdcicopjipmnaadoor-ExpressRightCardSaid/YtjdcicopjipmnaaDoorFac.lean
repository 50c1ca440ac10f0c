/- factor. -/
import Derived.Test.YtjdcicopjipmnaaDoorPrt
namespace Go.Proofs.YtjdcicopjipmnaaDoor
open Go.RowKit
set_option linter.unusedVariables false
set_option linter.unusedSimpArgs false
set_option maxRecDepth 100000 in
set_option maxHeartbeats 4000000 in
theorem w109_minus {X : Cx} {F : Nat → Prop} {s s1 s2 : PS} {T : TokD} {x : Int}
    (k0 : Step X F 76 #[X.p, .int .i64 (0 : Nat)] s (tokV T) s)
    (k1 : Step X F 77 #[X.p, .string gMinus] s (.bool true) s1)
    (k2 : Step X F 109 #[X.p] s1 (.int .i64 x) s2)
    (hi0 : ∀ q ∈ [x], -1 ≤ q ∧ q ≤ 4611686018427387904) (hc0 : (addP s2 10 (T.at_) ⟨#[]⟩ 0 [x]).1.ns.length ≤ 1099511627776) :
    Step X F 109 #[X.p] s (.int .i64 (addP s2 10 (T.at_) ⟨#[]⟩ 0 [x]).2) (addP s2 10 (T.at_) ⟨#[]⟩ 0 [x]).1 := by
  intro w h
  have HP := Lib.hid h
  have K0 := Lib.hid k0
  have K1 := Lib.hid k1
  have K2 := Lib.hid k2
  have HK := Lib.hid (KeepE.refl X.B (fun _ => False) w)
  obtain ⟨c2, c4, c5, hlt⟩ := h.cells
  clear h k0 k1 k2
  have HI0 := Lib.hid hi0
  have HC0 := Lib.hid hc0
  clear hi0 hc0
  go_enter Tryd.func109, Tryd.ntmps109
  go_wp2_with (first | (go_at_call 76; go_must (first | (refine (K0.out _ HP.out).mono ?_; clear K0; rintro e w0 ⟨rfl, hp, hk⟩; replace HK := Lib.hid (HK.out.trans hk); replace HP := Lib.hid hp; clear hp hk; (try clear c2 c4 c5 hlt); obtain ⟨c2, c4, c5, hlt⟩ := HP.out.cells; have hf := fldT T w0))) | (go_at_call 77; go_must (first | (refine (K1.out _ HP.out).mono ?_; clear K1; rintro e w1 ⟨rfl, hp, hk⟩; replace HK := Lib.hid (HK.out.trans hk); replace HP := Lib.hid hp; clear hp hk; (try clear c2 c4 c5 hlt); obtain ⟨c2, c4, c5, hlt⟩ := HP.out.cells))) | (go_at_call 109; go_must (first | (refine (K2.out _ HP.out).mono ?_; clear K2; rintro e w2 ⟨rfl, hp, hk⟩; replace HK := Lib.hid (HK.out.trans hk); replace HP := Lib.hid hp; clear hp hk; (try clear c2 c4 c5 hlt); obtain ⟨c2, c4, c5, hlt⟩ := HP.out.cells))) | (go_at_call 79; go_must (refine (add_any (s := s2) (HP.out.bel_ (Below.alloc (Below.refl _ _) (Nat.le_refl _) _)) (Rd.ints _ [x] _ 1 rfl rfl (by omega)) rfl (by omega) HI0.out 10 (T.at_) 0 ⟨#[]⟩ HC0.out).mono ?_); rintro e w1 ⟨rfl, hp, hk⟩; replace hk := (KeepE.of_below X.B (fun _ => False) (Below.alloc (Below.refl _ _) (Nat.le_refl _) _)).trans hk; replace HK := Lib.hid (HK.out.trans hk); replace HP := Lib.hid hp; clear hp hk; (try clear c2 c4 c5 hlt); obtain ⟨c2, c4, c5, hlt⟩ := HP.out.cells))
  go_ret
  exact ⟨rfl, HP.out, HK.out⟩
set_option maxRecDepth 100000 in
set_option maxHeartbeats 4000000 in
theorem w109_one {X : Cx} {F : Nat → Prop} {s s1 s2 s3 : PS} {T : TokD} {x : Int}
    (k0 : Step X F 76 #[X.p, .int .i64 (0 : Nat)] s (tokV T) s)
    (k1 : Step X F 77 #[X.p, .string gMinus] s (.bool false) s1)
    (k2 : Step X F 110 #[X.p] s1 (.int .i64 x) s2)
    (k3 : Step X F 77 #[X.p, .string gPow] s2 (.bool false) s3) :
    Step X F 109 #[X.p] s (.int .i64 x) s3 := by
  intro w h
  have HP := Lib.hid h
  have K0 := Lib.hid k0
  have K1 := Lib.hid k1
  have K2 := Lib.hid k2
  have K3 := Lib.hid k3
  have HK := Lib.hid (KeepE.refl X.B (fun _ => False) w)
  obtain ⟨c2, c4, c5, hlt⟩ := h.cells
  clear h k0 k1 k2 k3
  go_enter Tryd.func109, Tryd.ntmps109
  go_wp2_with (first | (go_at_call 76; go_must (first | (refine (K0.out _ HP.out).mono ?_; clear K0; rintro e w0 ⟨rfl, hp, hk⟩; replace HK := Lib.hid (HK.out.trans hk); replace HP := Lib.hid hp; clear hp hk; (try clear c2 c4 c5 hlt); obtain ⟨c2, c4, c5, hlt⟩ := HP.out.cells; have hf := fldT T w0))) | (go_at_call 77; go_must (first | (refine (K1.out _ HP.out).mono ?_; clear K1; rintro e w1 ⟨rfl, hp, hk⟩; replace HK := Lib.hid (HK.out.trans hk); replace HP := Lib.hid hp; clear hp hk; (try clear c2 c4 c5 hlt); obtain ⟨c2, c4, c5, hlt⟩ := HP.out.cells) | (refine (K3.out _ HP.out).mono ?_; clear K3; rintro e w3 ⟨rfl, hp, hk⟩; replace HK := Lib.hid (HK.out.trans hk); replace HP := Lib.hid hp; clear hp hk; (try clear c2 c4 c5 hlt); obtain ⟨c2, c4, c5, hlt⟩ := HP.out.cells))) | (go_at_call 110; go_must (first | (refine (K2.out _ HP.out).mono ?_; clear K2; rintro e w2 ⟨rfl, hp, hk⟩; replace HK := Lib.hid (HK.out.trans hk); replace HP := Lib.hid hp; clear hp hk; (try clear c2 c4 c5 hlt); obtain ⟨c2, c4, c5, hlt⟩ := HP.out.cells))))
  go_ret
  exact ⟨rfl, HP.out, HK.out⟩
set_option maxRecDepth 100000 in
set_option maxHeartbeats 4000000 in
theorem w109_pow {X : Cx} {F : Nat → Prop} {s s1 s2 s3 s4 : PS} {T : TokD} {x y : Int}
    (k0 : Step X F 76 #[X.p, .int .i64 (0 : Nat)] s (tokV T) s)
    (k1 : Step X F 77 #[X.p, .string gMinus] s (.bool false) s1)
    (k2 : Step X F 110 #[X.p] s1 (.int .i64 x) s2)
    (k3 : Step X F 77 #[X.p, .string gPow] s2 (.bool true) s3)
    (k4 : Step X F 109 #[X.p] s3 (.int .i64 y) s4)
    (hi0 : ∀ q ∈ [x, y], -1 ≤ q ∧ q ≤ 4611686018427387904) (hc0 : (addP s4 12 (placeOf s4 x) gPow 0 [x, y]).1.ns.length ≤ 1099511627776) :
    Step X F 109 #[X.p] s (.int .i64 (addP s4 12 (placeOf s4 x) gPow 0 [x, y]).2) (addP s4 12 (placeOf s4 x) gPow 0 [x, y]).1 := by
  intro w h
  have HP := Lib.hid h
  have K0 := Lib.hid k0
  have K1 := Lib.hid k1
  have K2 := Lib.hid k2
  have K3 := Lib.hid k3
  have K4 := Lib.hid k4
  have HK := Lib.hid (KeepE.refl X.B (fun _ => False) w)
  obtain ⟨c2, c4, c5, hlt⟩ := h.cells
  clear h k0 k1 k2 k3 k4
  have HI0 := Lib.hid hi0
  have HC0 := Lib.hid hc0
  clear hi0 hc0
  go_enter Tryd.func109, Tryd.ntmps109
  go_wp2_with (first | (go_at_call 76; go_must (first | (refine (K0.out _ HP.out).mono ?_; clear K0; rintro e w0 ⟨rfl, hp, hk⟩; replace HK := Lib.hid (HK.out.trans hk); replace HP := Lib.hid hp; clear hp hk; (try clear c2 c4 c5 hlt); obtain ⟨c2, c4, c5, hlt⟩ := HP.out.cells; have hf := fldT T w0))) | (go_at_call 77; go_must (first | (refine (K1.out _ HP.out).mono ?_; clear K1; rintro e w1 ⟨rfl, hp, hk⟩; replace HK := Lib.hid (HK.out.trans hk); replace HP := Lib.hid hp; clear hp hk; (try clear c2 c4 c5 hlt); obtain ⟨c2, c4, c5, hlt⟩ := HP.out.cells) | (refine (K3.out _ HP.out).mono ?_; clear K3; rintro e w3 ⟨rfl, hp, hk⟩; replace HK := Lib.hid (HK.out.trans hk); replace HP := Lib.hid hp; clear hp hk; (try clear c2 c4 c5 hlt); obtain ⟨c2, c4, c5, hlt⟩ := HP.out.cells))) | (go_at_call 110; go_must (first | (refine (K2.out _ HP.out).mono ?_; clear K2; rintro e w2 ⟨rfl, hp, hk⟩; replace HK := Lib.hid (HK.out.trans hk); replace HP := Lib.hid hp; clear hp hk; (try clear c2 c4 c5 hlt); obtain ⟨c2, c4, c5, hlt⟩ := HP.out.cells))) | (go_at_call 109; go_must (first | (refine (K4.out _ HP.out).mono ?_; clear K4; rintro e w4 ⟨rfl, hp, hk⟩; replace HK := Lib.hid (HK.out.trans hk); replace HP := Lib.hid hp; clear hp hk; (try clear c2 c4 c5 hlt); obtain ⟨c2, c4, c5, hlt⟩ := HP.out.cells; obtain ⟨hlk, hfd⟩ := HP.out.look (HI0.out x (by simp))))) | (go_at_call 79; go_must (refine (add_any (s := s4) (HP.out.bel_ (Below.alloc (Below.refl _ _) (Nat.le_refl _) _)) (Rd.ints _ [x, y] _ 2 rfl rfl (by omega)) rfl (by omega) HI0.out 12 (placeOf s4 x) 0 gPow HC0.out).mono ?_); rintro e w1 ⟨rfl, hp, hk⟩; replace hk := (KeepE.of_below X.B (fun _ => False) (Below.alloc (Below.refl _ _) (Nat.le_refl _) _)).trans hk; replace HK := Lib.hid (HK.out.trans hk); replace HP := Lib.hid hp; clear hp hk; (try clear c2 c4 c5 hlt); obtain ⟨c2, c4, c5, hlt⟩ := HP.out.cells))
  go_ret
  exact ⟨rfl, HP.out, HK.out⟩
theorem one_rng {s : PS} {x : Int} (h1 : In s x) (hs : s.ns.length ≤ 1099511627776) : ∀ q ∈ [x], -1 ≤ q ∧ q ≤ 4611686018427387904 := by
  intro q hq
  rw [List.mem_singleton.1 hq]
  exact h1.rng hs
theorem factor_part {X : Cx} {ex : Ex} {m0 : Nat} (hp : Part X 110 (postfixE ex X.L m0)) (hg : GdE X.L.length ex) : ∀ m, Part X 109 (factorE ex X.L m0 m)
  | 0 => fun F s r hr hc => by cases hr
  | m + 1 => fun F s r hr hc => by
    have ih := factor_part hp hg m
    unfold factorE at hr
    simp only at hr
    have kt := take_step_ (X := X) (F := F) (s := s) gMinus (sml (by decide))
    split at hr
    · rename_i hy
      rw [hy] at kt
      split at hr
      · cases hr
      · rename_i s1 x he
        obtain rfl := Option.some.inj hr
        have g1 := factorE_gd hg m0 m _ _ he
        have l1 := (add_gr (L := X.L) (s := s1) 10 (tokP X.L s 0).at_ ⟨#[]⟩ 0 [x]).lenle
        exact w109_minus (tok_step 0 (by omega)) kt (ih F _ _ he (by simp only; omega)) (one_rng g1.2 (by simp only; omega)) hc
    · rename_i hy
      rw [Bool.eq_false_iff.2 hy] at kt
      split at hr
      · cases hr
      · rename_i s1 x he
        have g1 := postfixE_gd hg he
        have kp : Step X F 77 #[X.p, .string gPow] s1 (.bool (takeP X.L gPow s1).2) (takeP X.L gPow s1).1 := take_step_ (X := X) (F := F) (s := s1) gPow (sml (by decide))
        have l1 := (take_gr (L := X.L) (s := s1) gPow).lenle
        split at hr
        · rename_i hy2
          rw [hy2] at kp
          split at hr
          · cases hr
          · rename_i s2 y hf
            obtain rfl := Option.some.inj hr
            have g2 := factorE_gd hg m0 m _ _ hf
            have l2 := g2.1.lenle
            have l3 := (add_gr (L := X.L) (s := s2) 12 (placeOf s2 x) gPow 0 [x, y]).lenle
            simp only at l2
            exact w109_pow (tok_step 0 (by omega)) kt (hp F _ _ he (by simp only; omega)) kp (ih F _ _ hf (by simp only; omega)) (pair_rng ((g1.2.mono (take_gr (L := X.L) gPow)).mono g2.1) g2.2 (by simp only; omega)) hc
        · rename_i hy2
          rw [Bool.eq_false_iff.2 hy2] at kp
          obtain rfl := Option.some.inj hr
          exact w109_one (tok_step 0 (by omega)) kt (hp F _ (s1, x) he (by simp only at hc ⊢; omega)) kp
end Go.Proofs.YtjdcicopjipmnaaDoor
