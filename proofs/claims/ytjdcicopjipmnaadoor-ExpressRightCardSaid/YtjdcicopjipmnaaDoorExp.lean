/- atom, whole; expr. -/
import Derived.Test.YtjdcicopjipmnaaDoorAtl
namespace Go.Proofs.YtjdcicopjipmnaaDoor
open Go.RowKit
set_option linter.unusedVariables false
set_option linter.unusedSimpArgs false
theorem pairsE_len {ex : Ex} {L : List TokD} (hex : GdE L.length ex) : ∀ (m : Nat) (s : PS) (kids : List Int) (r : PS × List Int), pairsE ex L m s kids = some r → r.2.length + 2 * s.at_ ≤ kids.length + 2 * r.1.at_ + 2
  | 0, s, kids, r, h => by cases h
  | m + 1, s, kids, r, h => by
    unfold pairsE at h
    split at h
    · obtain rfl := Option.some.inj h
      simp only
      omega
    · have u0 := (take_gr (L := L) (s := s) gRc).up
      split at h
      · obtain rfl := Option.some.inj h
        simp only
        omega
      · split at h
        · cases h
        · rename_i s1 x he
          have u1 := ((hex _ _ he).1.trans (need_gr (L := L) gColon)).up
          split at h
          · cases h
          · rename_i s2 v hv
            have u2 := (hex _ _ hv).1.up
            simp only at u1 u2
            split at h
            · rename_i hy
              have hadv := any_adv (L := L) (s := s2) (l := [gComma]) hy
              have ih := pairsE_len hex m _ _ _ h
              have e : (takeP L gComma s2).1.at_ = s2.at_ + 1 := hadv
              rw [e, List.length_append] at ih
              simp only [List.length_cons, List.length_nil] at ih
              omega
            · obtain rfl := Option.some.inj h
              have u3 := ((take_gr (L := L) (s := s2) gComma).trans (need_gr (L := L) gRc)).up
              simp only [List.length_append, List.length_cons, List.length_nil]
              omega
theorem paramsE_len {ex : Ex} {L : List TokD} (hex : GdE L.length ex) : ∀ (m : Nat) (s : PS) (out : List Int) (late : Bool) (r : PS × List Int), paramsE ex L m s out late = some r → r.2.length + s.at_ ≤ out.length + r.1.at_ + 1
  | 0, s, out, late, r, h => by cases h
  | m + 1, s, out, late, r, h => by
    unfold paramsE at h
    simp only at h
    split at h
    · obtain rfl := Option.some.inj h
      simp only
      omega
    · generalize hC : (if out = [] then takeP L gColon s else (s, false)) = C at h
      have gc : Gr L.length 0 s C.1 := by
        rw [← hC]
        split
        · exact take_gr _
        · exact Gr.refl _ _
      have u0 := gc.up
      split at h
      · obtain rfl := Option.some.inj h
        simp only
        omega
      · have u1 := ((name_gr (L := L) (s := C.1)).trans (take_gr (L := L) (s := (nameP L C.1).1) gEq)).up
        have fin : ∀ {s1 : PS} {y : Int} {late2 : Bool}, s.at_ ≤ s1.at_ → (if (takeP L gComma s1).2 = true then paramsE ex L m (takeP L gComma s1).1 (out ++ [y]) late2 else some (needP L gColon (takeP L gComma s1).1, out ++ [y])) = some r → r.2.length + s.at_ ≤ out.length + r.1.at_ + 1 := by
          intro s1 y late2 hs1 h
          split at h
          · rename_i hy
            have hadv := any_adv (L := L) (s := s1) (l := [gComma]) hy
            have ih := paramsE_len hex m _ _ _ _ h
            have e : (takeP L gComma s1).1.at_ = s1.at_ + 1 := hadv
            rw [e, List.length_append] at ih
            simp only [List.length_cons, List.length_nil] at ih
            omega
          · obtain rfl := Option.some.inj h
            have u3 := ((take_gr (L := L) (s := s1) gComma).trans (need_gr (L := L) gColon)).up
            simp only [List.length_append, List.length_cons, List.length_nil]
            omega
        split at h
        · split at h
          · cases h
          · rename_i s1 x he
            have u2 := ((hex _ _ he).1.trans (add_gr (L := L) (s := s1) 22 (tokP L C.1 0).at_ (nameP L C.1).2 0 [x])).up
            exact fin (by omega) h
        · refine fin ?_ h
          refine Nat.le_trans ?_ (add_gr (L := L) _ _ _ _ _).up
          split
          · rw [(fail_same _ _).2.2]
            omega
          · omega
theorem atom_part {X : Cx} {ex : Ex} {m : Nat} (hex : Part X 55 ex) (hg : GdE X.L.length ex) : Part X 111 (atomE ex X.L m) := by
  intro F s r hr hc w h
  have k0 : Step X F 76 #[X.p, .int .i64 (0 : Nat)] s (tokV (tokP X.L s 0)) s := tok_step 0 (by omega)
  have hin : (tokP X.L s 0).k ≠ 0 → s.at_ + 1 ≤ X.n := fun hk => by
    have := (tokP_in (L := X.L) (s := s) (b := 0) hk).2
    have := h.ln
    omega
  have hsm := tokP_small h.ts s 0
  have hln := h.ln
  have hbg := h.big
  have hat := h.at_
  have kf : Step X F 96 #[X.p, .int .i64 30, .int .i64 (s.at_ : Int)] s (.int .i64 (-1)) (failP s 30 s.at_) := fail_step 30 _
  unfold atomE at hr
  simp only at hr
  generalize tokP X.L s 0 = T at *
  obtain ⟨k, a, tx, nn⟩ := T
  simp only at hr hin hsm
  split at hr
  · rename_i hk
    subst hk
    obtain rfl := Option.some.inj hr
    exact atom_int k0 (hin (by decide)) (add_step hc) w h
  rename_i h2
  split at hr
  · rename_i hk
    subst hk
    obtain rfl := Option.some.inj hr
    exact atom_str k0 (hin (by decide)) (add_step hc) w h
  rename_i h3
  split at hr
  · rename_i hk
    subst hk
    split at hr
    · rename_i op hop
      obtain rfl := Option.some.inj hr
      exact atom_word k0 (hin (by decide)) hop hsm (add_step hc) w h
    · rename_i hop
      have kn : ∀ w, Asp w → Calls Tryd.prog 29 #[.string tx] w fun e w' => e = .returned (.bool (nameB tx)) ∧ Below w.heap.size w w' := fun w hw => name_any tx hsm w hw
      split at hr
      · rename_i hy
        rw [hy] at kn
        obtain rfl := Option.some.inj hr
        exact atom_name k0 (hin (by decide)) hop hsm kn (add_step hc) w h
      · rename_i hy
        rw [Bool.eq_false_iff.2 hy] at kn
        obtain rfl := Option.some.inj hr
        exact atom_noname (y := 0) k0 (hin (by decide)) hop hsm kn kf hat w h
  rename_i h1
  split at hr
  · rename_i hk
    subst hk
    have hst := hin (by decide)
    have hst2 : (stepP s 1).at_ ≤ X.n := hst
    split at hr
    · rename_i ht
      subst ht
      exact atom_round k0 hst (round_any hex hg hst2 hln hbg hr hc) w h
    · rename_i t1
      split at hr
      · rename_i ht
        subst ht
        split at hr
        · cases hr
        rename_i s3 kids he
        obtain rfl := Option.some.inj hr
        obtain ⟨g3, i3⟩ := rowE_gl hg _ _ _ _ _ (fun k hk => by cases hk) he
        have hlen := rowE_len hg _ _ _ _ _ he
        have l1 := (add_gr (L := X.L) (s := s3) 7 a ⟨#[]⟩ 0 kids).lenle
        have ha := g3.le (by rw [hln]; exact hst2)
        simp only [List.length_nil] at hlen i3 ha
        exact atom_list k0 hst hex hg he i3 (by omega) (Nat.le_trans l1 hc) hc w h
      · rename_i t2
        split at hr
        · rename_i ht
          subst ht
          split at hr
          · cases hr
          rename_i s3 kids he
          obtain rfl := Option.some.inj hr
          obtain ⟨g3, i3⟩ := pairsE_gl hg _ _ _ _ (fun k hk => by cases hk) he
          have hlen := pairsE_len hg _ _ _ _ he
          have l1 := (add_gr (L := X.L) (s := s3) 9 a ⟨#[]⟩ 0 kids).lenle
          have ha := g3.le (by rw [hln]; exact hst2)
          simp only [List.length_nil] at hlen i3 ha
          exact atom_dict k0 hst hex hg he i3 (by omega) (Nat.le_trans l1 hc) hc w h
        · rename_i t3
          obtain rfl := Option.some.inj hr
          exact atom_sign (y := 0) k0 t1 t2 t3 kf hat w h
  · rename_i h4
    obtain rfl := Option.some.inj hr
    exact atom_other (y := 0) k0 (by simpa using h1) (by simpa using h2) (by simpa using h3) (by simpa using h4) kf hat w h
set_option maxRecDepth 100000 in
set_option maxHeartbeats 4000000 in
theorem w55_or {X : Cx} {F : Nat → Prop} {s s1 s2 s3 : PS} {T : TokD} {x : Int}
    (k0 : Step X F 76 #[X.p, .int .i64 (0 : Nat)] s (tokV T) s)
    (k1 : Step X F 77 #[X.p, .string kLambda] s (.bool false) s1)
    (k2 : Step X F 80 #[X.p] s1 (.int .i64 x) s2)
    (k3 : Step X F 77 #[X.p, .string kIf] s2 (.bool false) s3) :
    Step X F 55 #[X.p] s (.int .i64 x) s3 := by
  intro w h
  have HP := Lib.hid h
  have K0 := Lib.hid k0
  have K1 := Lib.hid k1
  have K2 := Lib.hid k2
  have K3 := Lib.hid k3
  have HK := Lib.hid (KeepE.refl X.B (fun _ => False) w)
  obtain ⟨c2, c4, c5, hlt⟩ := h.cells
  clear h k0 k1 k2 k3
  go_enter Tryd.func55, Tryd.ntmps55
  go_wp2_with (first | (go_at_call 76; go_must (first | (refine (K0.out _ HP.out).mono ?_; clear K0; rintro e w0 ⟨rfl, hp, hk⟩; replace HK := Lib.hid (HK.out.trans hk); replace HP := Lib.hid hp; clear hp hk; (try clear c2 c4 c5 hlt); obtain ⟨c2, c4, c5, hlt⟩ := HP.out.cells; have hf := fldT T w0))) | (go_at_call 77; go_must (first | (refine (K1.out _ HP.out).mono ?_; clear K1; rintro e w1 ⟨rfl, hp, hk⟩; replace HK := Lib.hid (HK.out.trans hk); replace HP := Lib.hid hp; clear hp hk; (try clear c2 c4 c5 hlt); obtain ⟨c2, c4, c5, hlt⟩ := HP.out.cells) | (refine (K3.out _ HP.out).mono ?_; clear K3; rintro e w3 ⟨rfl, hp, hk⟩; replace HK := Lib.hid (HK.out.trans hk); replace HP := Lib.hid hp; clear hp hk; (try clear c2 c4 c5 hlt); obtain ⟨c2, c4, c5, hlt⟩ := HP.out.cells))) | (go_at_call 80; go_must (first | (refine (K2.out _ HP.out).mono ?_; clear K2; rintro e w2 ⟨rfl, hp, hk⟩; replace HK := Lib.hid (HK.out.trans hk); replace HP := Lib.hid hp; clear hp hk; (try clear c2 c4 c5 hlt); obtain ⟨c2, c4, c5, hlt⟩ := HP.out.cells))))
  go_ret
  exact ⟨rfl, HP.out, HK.out⟩
set_option maxRecDepth 100000 in
set_option maxHeartbeats 4000000 in
theorem w55_if {X : Cx} {F : Nat → Prop} {s s1 s2 s3 s4 s5 s6 : PS} {T : TokD} {x y z : Int}
    (k0 : Step X F 76 #[X.p, .int .i64 (0 : Nat)] s (tokV T) s)
    (k1 : Step X F 77 #[X.p, .string kLambda] s (.bool false) s1)
    (k2 : Step X F 80 #[X.p] s1 (.int .i64 x) s2)
    (k3 : Step X F 77 #[X.p, .string kIf] s2 (.bool true) s3)
    (k4 : Step X F 80 #[X.p] s3 (.int .i64 y) s4)
    (k5 : Step X F 81 #[X.p, .string kElse] s4 (.tuple #[]) s5)
    (k6 : Step X F 55 #[X.p] s5 (.int .i64 z) s6)
    (hi0 : ∀ q ∈ [x, y, z], -1 ≤ q ∧ q ≤ 4611686018427387904) (hc0 : (addP s6 16 (placeOf s6 x) ⟨#[]⟩ 0 [x, y, z]).1.ns.length ≤ 1099511627776) :
    Step X F 55 #[X.p] s (.int .i64 (addP s6 16 (placeOf s6 x) ⟨#[]⟩ 0 [x, y, z]).2) (addP s6 16 (placeOf s6 x) ⟨#[]⟩ 0 [x, y, z]).1 := by
  intro w h
  have HP := Lib.hid h
  have K0 := Lib.hid k0
  have K1 := Lib.hid k1
  have K2 := Lib.hid k2
  have K3 := Lib.hid k3
  have K4 := Lib.hid k4
  have K5 := Lib.hid k5
  have K6 := Lib.hid k6
  have HK := Lib.hid (KeepE.refl X.B (fun _ => False) w)
  obtain ⟨c2, c4, c5, hlt⟩ := h.cells
  clear h k0 k1 k2 k3 k4 k5 k6
  have HI0 := Lib.hid hi0
  have HC0 := Lib.hid hc0
  clear hi0 hc0
  go_enter Tryd.func55, Tryd.ntmps55
  go_wp2_with (first | (go_at_call 76; go_must (first | (refine (K0.out _ HP.out).mono ?_; clear K0; rintro e w0 ⟨rfl, hp, hk⟩; replace HK := Lib.hid (HK.out.trans hk); replace HP := Lib.hid hp; clear hp hk; (try clear c2 c4 c5 hlt); obtain ⟨c2, c4, c5, hlt⟩ := HP.out.cells; have hf := fldT T w0))) | (go_at_call 77; go_must (first | (refine (K1.out _ HP.out).mono ?_; clear K1; rintro e w1 ⟨rfl, hp, hk⟩; replace HK := Lib.hid (HK.out.trans hk); replace HP := Lib.hid hp; clear hp hk; (try clear c2 c4 c5 hlt); obtain ⟨c2, c4, c5, hlt⟩ := HP.out.cells) | (refine (K3.out _ HP.out).mono ?_; clear K3; rintro e w3 ⟨rfl, hp, hk⟩; replace HK := Lib.hid (HK.out.trans hk); replace HP := Lib.hid hp; clear hp hk; (try clear c2 c4 c5 hlt); obtain ⟨c2, c4, c5, hlt⟩ := HP.out.cells))) | (go_at_call 80; go_must (first | (refine (K2.out _ HP.out).mono ?_; clear K2; rintro e w2 ⟨rfl, hp, hk⟩; replace HK := Lib.hid (HK.out.trans hk); replace HP := Lib.hid hp; clear hp hk; (try clear c2 c4 c5 hlt); obtain ⟨c2, c4, c5, hlt⟩ := HP.out.cells) | (refine (K4.out _ HP.out).mono ?_; clear K4; rintro e w4 ⟨rfl, hp, hk⟩; replace HK := Lib.hid (HK.out.trans hk); replace HP := Lib.hid hp; clear hp hk; (try clear c2 c4 c5 hlt); obtain ⟨c2, c4, c5, hlt⟩ := HP.out.cells))) | (go_at_call 81; go_must (first | (refine (K5.out _ HP.out).mono ?_; clear K5; rintro e w5 ⟨rfl, hp, hk⟩; replace HK := Lib.hid (HK.out.trans hk); replace HP := Lib.hid hp; clear hp hk; (try clear c2 c4 c5 hlt); obtain ⟨c2, c4, c5, hlt⟩ := HP.out.cells))) | (go_at_call 55; go_must (first | (refine (K6.out _ HP.out).mono ?_; clear K6; rintro e w6 ⟨rfl, hp, hk⟩; replace HK := Lib.hid (HK.out.trans hk); replace HP := Lib.hid hp; clear hp hk; (try clear c2 c4 c5 hlt); obtain ⟨c2, c4, c5, hlt⟩ := HP.out.cells; obtain ⟨hlk, hfd⟩ := HP.out.look (HI0.out x (by simp))))) | (go_at_call 79; go_must (refine (add_any (s := s6) (HP.out.bel_ (Below.alloc (Below.refl _ _) (Nat.le_refl _) _)) (Rd.ints _ [x, y, z] _ 3 rfl rfl (by omega)) rfl (by omega) HI0.out 16 (placeOf s6 x) 0 ⟨#[]⟩ HC0.out).mono ?_); rintro e w1 ⟨rfl, hp, hk⟩; replace hk := (KeepE.of_below X.B (fun _ => False) (Below.alloc (Below.refl _ _) (Nat.le_refl _) _)).trans hk; replace HK := Lib.hid (HK.out.trans hk); replace HP := Lib.hid hp; clear hp hk; (try clear c2 c4 c5 hlt); obtain ⟨c2, c4, c5, hlt⟩ := HP.out.cells))
  go_ret
  exact ⟨rfl, HP.out, HK.out⟩
set_option maxRecDepth 100000 in
set_option maxHeartbeats 4000000 in
theorem w55_lambda {X : Cx} {F : Nat → Prop} {ex : Ex} {s s1 s2 s3 : PS} {T : TokD} {kids : List Int} {x : Int} {m : Nat} (hex : Part X 55 ex) (hgx : GdE X.L.length ex)
    (k0 : Step X F 76 #[X.p, .int .i64 (0 : Nat)] s (tokV T) s) (k1 : Step X F 77 #[X.p, .string kLambda] s (.bool true) s1) (hr : paramsE ex X.L m s1 [] false = some (s2, kids)) (hc2 : (s2, kids).1.ns.length ≤ 1099511627776)
    (kx : ∀ F', Step X F' 55 #[X.p] s2 (.int .i64 x) s3) (hl : kids.length ≤ 4398046511102) (hi : ∀ k ∈ kids ++ [x], In s3 k) (hca : (addP s3 21 T.at_ ⟨#[]⟩ 0 (kids ++ [x])).1.ns.length ≤ 1099511627776) :
    Step X F 55 #[X.p] s (.int .i64 (addP s3 21 T.at_ ⟨#[]⟩ 0 (kids ++ [x])).2) (addP s3 21 T.at_ ⟨#[]⟩ 0 (kids ++ [x])).1 := by
  intro w h
  have HP := Lib.hid h
  have HEX := Lib.hid hex
  have HGX := Lib.hid hgx
  have K0 := Lib.hid k0
  have K1 := Lib.hid k1
  have HR := Lib.hid hr
  have HC2 := Lib.hid hc2
  have KX := Lib.hid kx
  have HI := Lib.hid hi
  have HCA := Lib.hid hca
  have HK := Lib.hid (KeepE.refl X.B (fun _ => False) w)
  clear h hex hgx k0 k1 hr hc2 kx hi hca
  go_enter Tryd.func55, Tryd.ntmps55
  go_wp2_with (first | (go_at_call 76; go_must (refine (K0.out _ HP.out).mono ?_); rintro e w1 ⟨rfl, hp, hk⟩; have hf := fldT T w1; replace HK := Lib.hid (HK.out.trans hk); replace HP := Lib.hid hp; clear hp hk) | (go_at_call 77; go_must (refine (K1.out _ HP.out).mono ?_); rintro e w2 ⟨rfl, hp, hk⟩; replace HK := Lib.hid (HK.out.trans hk); replace HP := Lib.hid hp; clear hp hk) | (go_at_call 78; go_must (refine (params_any HEX.out HGX.out (F := F) HP.out HR.out HC2.out).mono ?_); rintro e w3 ⟨v3, rfl, ho3, hp3, hk3, hv3⟩; obtain ⟨A3, c3, rfl, -, -⟩ := Own.rd ho3; have HWB := Lib.hid HP.out.wB; have HB3 := Lib.hid (show ∀ g, (Value.slice A3 kids.length c3).ownBlock = some g → X.B ≤ g from fun g e => (hv3 g e).elim (fun e => by cases e) fun h => Nat.le_trans HWB.out h); have HO3 := Lib.hid ho3; have HP3 := Lib.hid hp3; have HK3 := Lib.hid (HK.out.then hk3 (fun i e => by cases e)); have HV3 := Lib.hid (show ∀ i, (Value.slice A3 kids.length c3).ownBlock = some i → False ∨ w.heap.size ≤ i from fun i e => .inr ((hv3 i e).elim (fun e => by cases e) fun h => Nat.le_trans HK.out.size h)); clear ho3 hp3 hk3 hv3) | (go_at_call 55; go_must (refine (KX.out _ _ HP3.out).mono ?_); rintro e w4 ⟨rfl, hp, hk⟩; have HO4 := Lib.hid (hk.ownI HO3.out (fun _ _ => id)); have HP4 := Lib.hid hp; have HK4 := Lib.hid (HK3.out.trans hk); clear hp hk) | (at_builtin; go_must (refine wpList_appendN _ rfl _ _ rfl (.slice A3 kids.length c3) kids rfl (OwnI.bel HO4.out (Below.alloc (Below.refl _ _) (Nat.le_refl _) _)) _ 1 1 [x] rfl Rd.one rfl (by omega) ?_); intro v6 w6 ho6 hg6 hn6; generalize hG : kids ++ [x] = G at ho6; obtain ⟨A6, c6, rfl, -, -⟩ := Own.rd ho6; have HG := Lib.hid hG; obtain ⟨hp6, hk6, hv6⟩ := HP4.out.app (Below.alloc (Below.refl _ _) (Nat.le_refl _) _) HO4.out HB3.out hg6 hn6 ho6; have HP6 := Lib.hid hp6; have HO6 := Lib.hid ho6; have HK6 := Lib.hid (HK4.out.then hk6 (fun i e => HV3.out i e)); clear hp6 ho6 hk6 hv6 hG hg6 hn6) | (go_at_call 79; go_must (refine (add_own HP6.out HO6.out (by have := congrArg List.length HG.out; simp only [List.length_append, List.length_cons, List.length_nil] at this; omega) (by rw [← HG.out]; exact HI.out) 21 T.at_ 0 ⟨#[]⟩ (by rw [← HG.out]; exact HCA.out)).mono ?_); rintro e w7 ⟨rfl, hp, hk⟩; have HP7 := Lib.hid (hp.less (F' := F) (fun k hk => .inl hk)); have HK7 := Lib.hid (HK6.out.trans hk); clear hp hk))
  go_ret
  rw [HG.out]
  exact ⟨rfl, HP7.out, HK7.out⟩
theorem expr_part {X : Cx} {ex : Ex} {m : Nat} (hn : X.L.length = X.n) (hbg : X.n ≤ 274877906944) (hex : Part X 55 ex) (hg : GdE X.L.length ex) : Part X 55 (exprB ex X.L m) := by
  have hpost := postfix_part (m0 := m) (atom_part hex hg) hex hg
  have hsum : Part X 106 (sumE ex X.L m) := sum_part (term_part (factor_part hpost hg m) (fun s r h => factorE_gd hg m m s r h)) (termE_gd hg m)
  have hor : Part X 80 (orE ex X.L m) := or_part (and_part (not_part hsum hg m) (fun s r h => notE_gd hg m m s r h)) (andE_gd hg m)
  intro F s r hr hc w h
  have kt : Step X F 77 #[X.p, .string kLambda] s (.bool (takeP X.L kLambda s).2) (takeP X.L kLambda s).1 := take_step_ kLambda (sml (by decide))
  have k0 : Step X F 76 #[X.p, .int .i64 (0 : Nat)] s (tokV (tokP X.L s 0)) s := tok_step 0 (by omega)
  unfold exprB at hr
  simp only at hr
  split at hr
  · rename_i hy
    rw [hy] at kt
    split at hr
    · cases hr
    rename_i s2 kids he
    split at hr
    · cases hr
    rename_i s3 x hx
    obtain rfl := Option.some.inj hr
    obtain ⟨g2, i2⟩ := paramsE_gl hg _ _ _ _ _ (fun k hk => by cases hk) he
    obtain ⟨g3, i3⟩ := hg _ _ hx
    have hlen := paramsE_len hg _ _ _ _ _ he
    have l1 := (add_gr (L := X.L) (s := s3) 21 (tokP X.L s 0).at_ ⟨#[]⟩ 0 (kids ++ [x])).lenle
    have l3 := g3.lenle
    have hat := h.at_
    have ha := ((take_yes hy).trans g2).le (by omega)
    simp only [List.length_nil] at hlen i2 ha l3
    exact w55_lambda hex hg k0 kt he (by simp only; omega) (fun F' => hex F' _ (s3, x) hx (by simp only; omega)) (by omega) (in_snoc (in_all i2 g3) i3) hc w h
  · rename_i hy
    rw [Bool.eq_false_iff.2 hy] at kt
    split at hr
    · cases hr
    rename_i s1 x he
    obtain ⟨g1, i1⟩ := orE_gd hg m _ _ he
    have gi := take_gr (L := X.L) (s := s1) kIf
    have ki : Step X F 77 #[X.p, .string kIf] s1 (.bool (takeP X.L kIf s1).2) (takeP X.L kIf s1).1 := take_step_ kIf (sml (by decide))
    split at hr
    · rename_i hy2
      rw [hy2] at ki
      split at hr
      · cases hr
      rename_i s2 y hy3
      split at hr
      · cases hr
      rename_i s3 z hz
      obtain rfl := Option.some.inj hr
      obtain ⟨g2, i2⟩ := orE_gd hg m _ _ hy3
      have gn := need_gr (L := X.L) (s := s2) kElse
      obtain ⟨g3, i3⟩ := hg _ _ hz
      have l1 := (add_gr (L := X.L) (s := s3) 16 (placeOf s3 x) ⟨#[]⟩ 0 [x, y, z]).lenle
      have l2 := (((gi.trans g2).trans gn).trans g3).lenle
      have l3 := (gn.trans g3).lenle
      simp only at l2 l3
      exact w55_if k0 kt (hor F _ (s1, x) he (by simp only; omega)) ki (hor F _ (s2, y) hy3 (by simp only; omega)) (need_step kElse (sml (by decide))) (hex F _ (s3, z) hz (by simp only; omega)) (three_rng (i1.mono (((gi.trans g2).trans gn).trans g3)) (i2.mono (gn.trans g3)) i3 (Nat.le_trans l1 hc)) hc w h
    · rename_i hy2
      rw [Bool.eq_false_iff.2 hy2] at ki
      obtain rfl := Option.some.inj hr
      exact w55_or k0 kt (hor F _ (s1, x) he (Nat.le_trans gi.lenle hc)) ki w h
/-- expr is the plain parser -/
theorem expr_all {X : Cx} (hn : X.L.length = X.n) (hbg : X.n ≤ 274877906944) : ∀ m, Part X 55 (exprE X.L m)
  | 0 => fun F s r hr => by cases hr
  | m + 1 => expr_part hn hbg (expr_all hn hbg m) (exprE_gd X.L m)
end Go.Proofs.YtjdcicopjipmnaaDoor
