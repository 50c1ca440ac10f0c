/- index: an index, or a slice. -/
import Derived.Test.YtjdcicopjipmnaaDoorNot
namespace Go.Proofs.YtjdcicopjipmnaaDoor
open Go.RowKit
set_option linter.unusedVariables false
set_option linter.unusedSimpArgs false
set_option maxRecDepth 100000 in
set_option maxHeartbeats 4000000 in
theorem w113_index {X : Cx} {F : Nat → Prop} {s s1 s2 : PS} {x y a : Int}
    (k0 : Step X F 102 #[X.p, .string gColon, .int .i64 (0 : Nat)] s (.bool false) s)
    (k1 : Step X F 116 #[X.p, .string gColon] s (.int .i64 y) s1)
    (k2 : Step X F 77 #[X.p, .string gRb] s1 (.bool true) s2)
    (hi0 : ∀ q ∈ [x, y], -1 ≤ q ∧ q ≤ 4611686018427387904) (hc0 : (addP s2 19 (a) ⟨#[]⟩ 0 [x, y]).1.ns.length ≤ 1099511627776) :
    Step X F 113 #[X.p, .int .i64 x, .int .i64 a] s (.int .i64 (addP s2 19 (a) ⟨#[]⟩ 0 [x, y]).2) (addP s2 19 (a) ⟨#[]⟩ 0 [x, y]).1 := by
  intro w h
  have HP := Lib.hid h
  have K0 := Lib.hid k0
  have K1 := Lib.hid k1
  have K2 := Lib.hid k2
  have HK := Lib.hid (KeepE.refl X.B (fun _ => False) w)
  obtain ⟨c2, c4, c5, hlt⟩ := h.cells
  clear h k0 k1 k2
  have HI0 := Lib.hid hi0
  have HC0 := Lib.hid hc0
  clear hi0 hc0
  go_enter Tryd.func113, Tryd.ntmps113
  go_wp2_with (first | (go_at_call 102; go_must (first | (refine (K0.out _ HP.out).mono ?_; clear K0; rintro e w0 ⟨rfl, hp, hk⟩; replace HK := Lib.hid (HK.out.trans hk); replace HP := Lib.hid hp; clear hp hk; (try clear c2 c4 c5 hlt); obtain ⟨c2, c4, c5, hlt⟩ := HP.out.cells))) | (go_at_call 116; go_must (first | (refine (K1.out _ HP.out).mono ?_; clear K1; rintro e w1 ⟨rfl, hp, hk⟩; replace HK := Lib.hid (HK.out.trans hk); replace HP := Lib.hid hp; clear hp hk; (try clear c2 c4 c5 hlt); obtain ⟨c2, c4, c5, hlt⟩ := HP.out.cells))) | (go_at_call 77; go_must (first | (refine (K2.out _ HP.out).mono ?_; clear K2; rintro e w2 ⟨rfl, hp, hk⟩; replace HK := Lib.hid (HK.out.trans hk); replace HP := Lib.hid hp; clear hp hk; (try clear c2 c4 c5 hlt); obtain ⟨c2, c4, c5, hlt⟩ := HP.out.cells))) | (go_at_call 79; go_must (refine (add_any (s := s2) (HP.out.bel_ (Below.alloc (Below.refl _ _) (Nat.le_refl _) _)) (Rd.ints _ [x, y] _ 2 rfl rfl (by omega)) rfl (by omega) HI0.out 19 (a) 0 ⟨#[]⟩ HC0.out).mono ?_); rintro e w1 ⟨rfl, hp, hk⟩; replace hk := (KeepE.of_below X.B (fun _ => False) (Below.alloc (Below.refl _ _) (Nat.le_refl _) _)).trans hk; replace HK := Lib.hid (HK.out.trans hk); replace HP := Lib.hid hp; clear hp hk; (try clear c2 c4 c5 hlt); obtain ⟨c2, c4, c5, hlt⟩ := HP.out.cells))
  go_ret
  exact ⟨rfl, HP.out, HK.out⟩
set_option maxRecDepth 100000 in
set_option maxHeartbeats 4000000 in
theorem w113_slice {X : Cx} {F : Nat → Prop} {s s1 s2 s3 s4 s5 : PS} {x y z a : Int}
    (k0 : Step X F 102 #[X.p, .string gColon, .int .i64 (0 : Nat)] s (.bool false) s)
    (k1 : Step X F 116 #[X.p, .string gColon] s (.int .i64 y) s1)
    (k2 : Step X F 77 #[X.p, .string gRb] s1 (.bool false) s2)
    (k3 : Step X F 81 #[X.p, .string gColon] s2 (.tuple #[]) s3)
    (k4 : Step X F 116 #[X.p, .string gRb] s3 (.int .i64 z) s4)
    (k5 : Step X F 81 #[X.p, .string gRb] s4 (.tuple #[]) s5)
    (hi0 : ∀ q ∈ [x, y, z], -1 ≤ q ∧ q ≤ 4611686018427387904) (hc0 : (addP s5 20 (a) ⟨#[]⟩ 0 [x, y, z]).1.ns.length ≤ 1099511627776) :
    Step X F 113 #[X.p, .int .i64 x, .int .i64 a] s (.int .i64 (addP s5 20 (a) ⟨#[]⟩ 0 [x, y, z]).2) (addP s5 20 (a) ⟨#[]⟩ 0 [x, y, z]).1 := by
  intro w h
  have HP := Lib.hid h
  have K0 := Lib.hid k0
  have K1 := Lib.hid k1
  have K2 := Lib.hid k2
  have K3 := Lib.hid k3
  have K4 := Lib.hid k4
  have K5 := Lib.hid k5
  have HK := Lib.hid (KeepE.refl X.B (fun _ => False) w)
  obtain ⟨c2, c4, c5, hlt⟩ := h.cells
  clear h k0 k1 k2 k3 k4 k5
  have HI0 := Lib.hid hi0
  have HC0 := Lib.hid hc0
  clear hi0 hc0
  go_enter Tryd.func113, Tryd.ntmps113
  go_wp2_with (first | (go_at_call 102; go_must (first | (refine (K0.out _ HP.out).mono ?_; clear K0; rintro e w0 ⟨rfl, hp, hk⟩; replace HK := Lib.hid (HK.out.trans hk); replace HP := Lib.hid hp; clear hp hk; (try clear c2 c4 c5 hlt); obtain ⟨c2, c4, c5, hlt⟩ := HP.out.cells))) | (go_at_call 116; go_must (first | (refine (K1.out _ HP.out).mono ?_; clear K1; rintro e w1 ⟨rfl, hp, hk⟩; replace HK := Lib.hid (HK.out.trans hk); replace HP := Lib.hid hp; clear hp hk; (try clear c2 c4 c5 hlt); obtain ⟨c2, c4, c5, hlt⟩ := HP.out.cells) | (refine (K4.out _ HP.out).mono ?_; clear K4; rintro e w4 ⟨rfl, hp, hk⟩; replace HK := Lib.hid (HK.out.trans hk); replace HP := Lib.hid hp; clear hp hk; (try clear c2 c4 c5 hlt); obtain ⟨c2, c4, c5, hlt⟩ := HP.out.cells))) | (go_at_call 77; go_must (first | (refine (K2.out _ HP.out).mono ?_; clear K2; rintro e w2 ⟨rfl, hp, hk⟩; replace HK := Lib.hid (HK.out.trans hk); replace HP := Lib.hid hp; clear hp hk; (try clear c2 c4 c5 hlt); obtain ⟨c2, c4, c5, hlt⟩ := HP.out.cells))) | (go_at_call 81; go_must (first | (refine (K3.out _ HP.out).mono ?_; clear K3; rintro e w3 ⟨rfl, hp, hk⟩; replace HK := Lib.hid (HK.out.trans hk); replace HP := Lib.hid hp; clear hp hk; (try clear c2 c4 c5 hlt); obtain ⟨c2, c4, c5, hlt⟩ := HP.out.cells) | (refine (K5.out _ HP.out).mono ?_; clear K5; rintro e w5 ⟨rfl, hp, hk⟩; replace HK := Lib.hid (HK.out.trans hk); replace HP := Lib.hid hp; clear hp hk; (try clear c2 c4 c5 hlt); obtain ⟨c2, c4, c5, hlt⟩ := HP.out.cells))) | (go_at_call 79; go_must (refine (add_any (s := s5) (HP.out.bel_ (Below.alloc (Below.refl _ _) (Nat.le_refl _) _)) (Rd.ints _ [x, y, z] _ 3 rfl rfl (by omega)) rfl (by omega) HI0.out 20 (a) 0 ⟨#[]⟩ HC0.out).mono ?_); rintro e w1 ⟨rfl, hp, hk⟩; replace hk := (KeepE.of_below X.B (fun _ => False) (Below.alloc (Below.refl _ _) (Nat.le_refl _) _)).trans hk; replace HK := Lib.hid (HK.out.trans hk); replace HP := Lib.hid hp; clear hp hk; (try clear c2 c4 c5 hlt); obtain ⟨c2, c4, c5, hlt⟩ := HP.out.cells))
  go_ret
  exact ⟨rfl, HP.out, HK.out⟩
set_option maxRecDepth 100000 in
set_option maxHeartbeats 4000000 in
theorem w113_colon {X : Cx} {F : Nat → Prop} {s s2 s3 s4 s5 : PS} {x y z a : Int}
    (k0 : Step X F 102 #[X.p, .string gColon, .int .i64 (0 : Nat)] s (.bool true) s)
    (k1 : Step X F 116 #[X.p, .string gColon] s (.int .i64 y) s2)
    (k2 : Step X F 81 #[X.p, .string gColon] s2 (.tuple #[]) s3)
    (k3 : Step X F 116 #[X.p, .string gRb] s3 (.int .i64 z) s4)
    (k4 : Step X F 81 #[X.p, .string gRb] s4 (.tuple #[]) s5)
    (hi0 : ∀ q ∈ [x, y, z], -1 ≤ q ∧ q ≤ 4611686018427387904) (hc0 : (addP s5 20 (a) ⟨#[]⟩ 0 [x, y, z]).1.ns.length ≤ 1099511627776) :
    Step X F 113 #[X.p, .int .i64 x, .int .i64 a] s (.int .i64 (addP s5 20 (a) ⟨#[]⟩ 0 [x, y, z]).2) (addP s5 20 (a) ⟨#[]⟩ 0 [x, y, z]).1 := by
  intro w h
  have HP := Lib.hid h
  have K0 := Lib.hid k0
  have K1 := Lib.hid k1
  have K2 := Lib.hid k2
  have K3 := Lib.hid k3
  have K4 := Lib.hid k4
  have HK := Lib.hid (KeepE.refl X.B (fun _ => False) w)
  obtain ⟨c2, c4, c5, hlt⟩ := h.cells
  clear h k0 k1 k2 k3 k4
  have HI0 := Lib.hid hi0
  have HC0 := Lib.hid hc0
  clear hi0 hc0
  go_enter Tryd.func113, Tryd.ntmps113
  go_wp2_with (first | (go_at_call 102; go_must (first | (refine (K0.out _ HP.out).mono ?_; clear K0; rintro e w0 ⟨rfl, hp, hk⟩; replace HK := Lib.hid (HK.out.trans hk); replace HP := Lib.hid hp; clear hp hk; (try clear c2 c4 c5 hlt); obtain ⟨c2, c4, c5, hlt⟩ := HP.out.cells))) | (go_at_call 116; go_must (first | (refine (K1.out _ HP.out).mono ?_; clear K1; rintro e w1 ⟨rfl, hp, hk⟩; replace HK := Lib.hid (HK.out.trans hk); replace HP := Lib.hid hp; clear hp hk; (try clear c2 c4 c5 hlt); obtain ⟨c2, c4, c5, hlt⟩ := HP.out.cells) | (refine (K3.out _ HP.out).mono ?_; clear K3; rintro e w3 ⟨rfl, hp, hk⟩; replace HK := Lib.hid (HK.out.trans hk); replace HP := Lib.hid hp; clear hp hk; (try clear c2 c4 c5 hlt); obtain ⟨c2, c4, c5, hlt⟩ := HP.out.cells))) | (go_at_call 81; go_must (first | (refine (K2.out _ HP.out).mono ?_; clear K2; rintro e w2 ⟨rfl, hp, hk⟩; replace HK := Lib.hid (HK.out.trans hk); replace HP := Lib.hid hp; clear hp hk; (try clear c2 c4 c5 hlt); obtain ⟨c2, c4, c5, hlt⟩ := HP.out.cells) | (refine (K4.out _ HP.out).mono ?_; clear K4; rintro e w4 ⟨rfl, hp, hk⟩; replace HK := Lib.hid (HK.out.trans hk); replace HP := Lib.hid hp; clear hp hk; (try clear c2 c4 c5 hlt); obtain ⟨c2, c4, c5, hlt⟩ := HP.out.cells))) | (go_at_call 79; go_must (refine (add_any (s := s5) (HP.out.bel_ (Below.alloc (Below.refl _ _) (Nat.le_refl _) _)) (Rd.ints _ [x, y, z] _ 3 rfl rfl (by omega)) rfl (by omega) HI0.out 20 (a) 0 ⟨#[]⟩ HC0.out).mono ?_); rintro e w1 ⟨rfl, hp, hk⟩; replace hk := (KeepE.of_below X.B (fun _ => False) (Below.alloc (Below.refl _ _) (Nat.le_refl _) _)).trans hk; replace HK := Lib.hid (HK.out.trans hk); replace HP := Lib.hid hp; clear hp hk; (try clear c2 c4 c5 hlt); obtain ⟨c2, c4, c5, hlt⟩ := HP.out.cells))
  go_ret
  exact ⟨rfl, HP.out, HK.out⟩
theorem three_rng {s : PS} {x y z : Int} (h1 : In s x) (h2 : In s y) (h3 : In s z) (hs : s.ns.length ≤ 1099511627776) : ∀ q ∈ [x, y, z], -1 ≤ q ∧ q ≤ 4611686018427387904 := by
  intro q hq
  simp only [List.mem_cons, List.not_mem_nil, or_false] at hq
  rcases hq with rfl | rfl | rfl
  · exact h1.rng hs
  · exact h2.rng hs
  · exact h3.rng hs
theorem index_any {X : Cx} {ex : Ex} (hex : Part X 55 ex) (hg : GdE X.L.length ex) {F : Nat → Prop} {s : PS} {x a : Int} {r : PS × Int} (hx : In s x) (h : indexE ex X.L x a s = some r) (hc : r.1.ns.length ≤ 1099511627776) : Step X F 113 #[X.p, .int .i64 x, .int .i64 a] s (.int .i64 r.2) r.1 := by
  have k0 : Step X F 102 #[X.p, .string gColon, .int .i64 (0 : Nat)] s (.bool (isP X.L s gColon 0)) s := is_step gColon (sml (by decide)) 0 (by omega)
  unfold indexE at h
  simp only at h
  split at h
  · cases h
  rename_i s1 y he
  obtain ⟨g1, i1⟩ := boundE_gd hg he
  have kt : Step X F 77 #[X.p, .string gRb] s1 (.bool (takeP X.L gRb s1).2) (takeP X.L gRb s1).1 := take_step_ gRb (sml (by decide))
  have gt := take_gr (L := X.L) (s := s1) gRb
  split at h
  · rename_i hy
    rw [hy.1] at k0
    rw [hy.2] at kt
    obtain rfl := Option.some.inj h
    have l1 := (add_gr (L := X.L) (s := (takeP X.L gRb s1).1) 19 a ⟨#[]⟩ 0 [x, y]).lenle
    have l2 := gt.lenle
    exact w113_index k0 (bound_any hex (sml (by decide)) he (by simp only; omega)) kt (pair_rng ((hx.mono g1).mono gt) (i1.mono gt) (Nat.le_trans l1 hc)) hc
  · rename_i hy
    split at h
    · cases h
    rename_i s4 z hz
    obtain rfl := Option.some.inj h
    obtain ⟨g4, i4⟩ := boundE_gd hg hz
    have g5 := need_gr (L := X.L) (s := s4) gRb
    have l1 := (add_gr (L := X.L) (s := needP X.L gRb s4) 20 a ⟨#[]⟩ 0 [x, y, z]).lenle
    have l2 := g5.lenle
    have l3 := g4.lenle
    cases hs : isP X.L s gColon 0 with
    | true =>
      rw [hs] at k0 hz g4 l3
      simp only [if_true] at hz g4 l3
      have g3 := need_gr (L := X.L) (s := s1) gColon
      have l4 := g3.lenle
      have gg := g3.trans g4
      exact w113_colon k0 (bound_any hex (sml (by decide)) he (by simp only at l3 ⊢; omega)) (need_step gColon (sml (by decide))) (bound_any hex (sml (by decide)) hz (by simp only; omega)) (need_step gRb (sml (by decide))) (three_rng (((hx.mono g1).mono gg).mono g5) ((i1.mono gg).mono g5) (i4.mono g5) (Nat.le_trans l1 hc)) hc
    | false =>
      rw [hs] at k0 hz g4 l3 hy
      have ht : (takeP X.L gRb s1).2 = false := by
        cases hq : (takeP X.L gRb s1).2 with
        | false => rfl
        | true => exact absurd ⟨rfl, hq⟩ hy
      rw [ht] at kt
      simp only [Bool.false_eq_true, if_false] at hz g4 l3
      have g3 := gt.trans (need_gr (L := X.L) (s := (takeP X.L gRb s1).1) gColon)
      have l4 := g3.lenle
      have gg := g3.trans g4
      exact w113_slice k0 (bound_any hex (sml (by decide)) he (by simp only at l3 ⊢; omega)) kt (need_step gColon (sml (by decide))) (bound_any hex (sml (by decide)) hz (by simp only; omega)) (need_step gRb (sml (by decide))) (three_rng (((hx.mono g1).mono gg).mono g5) ((i1.mono gg).mono g5) (i4.mono g5) (Nat.le_trans l1 hc)) hc
end Go.Proofs.YtjdcicopjipmnaaDoor
