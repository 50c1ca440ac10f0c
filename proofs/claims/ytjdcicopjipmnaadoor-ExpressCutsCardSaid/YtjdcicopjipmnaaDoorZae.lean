/- params: a lambda's parameters. -/
import Derived.Test.YtjdcicopjipmnaaDoorZad
namespace Go.Proofs.YtjdcicopjipmnaaDoor
set_option maxRecDepth 100000
set_option maxHeartbeats 8000000
open Go.RowKit
set_option linter.unusedVariables false
set_option linter.unusedSimpArgs false
theorem params_cap {ex : Ex} {L : List TokD} (hgx : GdE L.length ex) {m : Nat} {s5 : PS} {out : List Int} {late : Bool} {r : PS × List Int} (hin : ∀ k ∈ out, In (takeP L gComma s5).1 k)
  (hh : (if (takeP L gComma s5).2 = true then paramsE ex L m (takeP L gComma s5).1 out late else some (needP L gColon (takeP L gComma s5).1, out)) = some r) : s5.ns.length ≤ r.1.ns.length := by
 have l1 := (take_gr (L := L) (s := s5) gComma).lenle
 split at hh
 ·exact Nat.le_trans l1 (paramsE_gl hgx m _ _ _ _ hin hh).1.lenle
 ·obtain rfl := Option.some.inj hh
  exact Nat.le_trans l1 (need_gr (L := L) gColon).lenle
theorem params_any {X : Cx} {ex : Ex} (hex : Part X 55 ex) (hgx : GdE X.L.length ex) {F : Nat → Prop} {w : World} {s : PS} {m : Nat} {r : PS × List Int} (h : PAt X F w s) (hr : paramsE ex X.L m s [] false = some r) (hc : r.1.ns.length ≤ 1099511627776) :
  Calls Tryd.prog 78 #[X.p] w (RetL X F w (.slice none 0 0) r) := by
 unfold RetL
 have HP0 := qh h
 have HR0 := qh hr
 have HC := qh hc
 have HEX := qh hex
 have HGX := qh hgx
 obtain ⟨c2, c4, c5, hlt⟩ := h.cells
 clear h hr hc hex hgx
 go_enter Tryd.func78, Tryd.ntmps78
 go_wp2_with fail
 clear c2 c4 c5 hlt
 go_loopw [2, 3] (fun v vl wr => ∃ (m : Nat) (s1 : PS) (K1 : List Int) (late : Bool) (A1 : Option Addr) (c1 : Nat), v = .slice A1 K1.length c1 ∧ vl = .bool late ∧ Hid (paramsE ex X.L m s1 K1 late = some r) ∧ PAt X (withV F (.slice A1 K1.length c1)) wr s1 ∧ OwnI wr (.slice A1 K1.length c1) K1 ∧ KeepE X.B (fun k => (Value.slice none 0 0).ownBlock = some k) w wr ∧ Hid (∀ g, (Value.slice A1 K1.length c1).ownBlock = some g → (Value.slice none 0 0).ownBlock = some g ∨ w.heap.size ≤ g) ∧ Hid (∀ k ∈ K1, In s1 k) ∧ K1.length ≤ s1.at_) (fun _ _ wr => X.n + 1 - atW X.pb wr)
 case atStart => exact ⟨m, s, [], false, none, 0, rfl, rfl, HR0, HP0.out.bel (Below.refl _ _) (fun k hk => hk.elim .inl fun e => by cases e) (fun k hk => hk.elim (HP0.out.fl k) fun e => by cases e), OwnI.nil_ _, KeepE.refl _ _ _, qh fun g e => .inl e, qh (fun k hk => by cases hk), by simp⟩
 case round =>
  obtain ⟨m', s1, K1, late, A1, c1, rfl, rfl, HR1, hp1, ho1, hk1, HV1, HI1, hl1⟩ := hrel
  have hh := HR1.out
  have HP1 := qh hp1
  have HO1 := qh ho1
  have HK1 := qh hk1
  obtain ⟨c2, c4, c5, hlt⟩ := hp1.cells
  have hat := hp1.atW
  have han := hp1.at_
  have hbn := hp1.big
  have HB1 : Hid (∀ g, (Value.slice A1 K1.length c1).ownBlock = some g → X.B ≤ g) := qh fun g e => (HV1.out g e).elim (fun e => by cases e) fun h => Nat.le_trans HP0.out.wB h
  clear hp1 ho1 hk1
  cases m' with
  | zero => cases hh
  | succ m' =>
   unfold paramsE at hh
   simp only at hh
   by_cases he : s1.e = 0
   ·rw [if_neg (by simpa using he)] at hh
    rw [he] at c4
    by_cases hK : K1 = []
    ·rw [if_pos hK] at hh
     have hk0 : ((K1.length : Int) == 0) = true := by rw [hK]; rfl
     have HKK := qh hK
     clear hK
     have kt : Step X (withV F (.slice A1 K1.length c1)) 77 #[X.p, .string gColon] s1 (.bool (takeP X.L gColon s1).2) (takeP X.L gColon s1).1 := take_step_ gColon (sml (by decide))
     cases hy : (takeP X.L gColon s1).2 with
     | true =>
      rw [hy] at hh kt
      simp only [if_true] at hh
      obtain rfl := Option.some.inj hh
      have K0 := qh kt
      clear hh kt hy
      go_wp2_with (go_at_call 77; go_must (first | (refine (K0.out _ (HP1.out.bel_ bl0)).mono ?_; clear K0; rintro e w2 ⟨rfl, hp, hk⟩; have HO2 := qh (hk.ownI (OwnI.bel HO1.out bl0) (fun _ _ => id)); have HP2 := qh hp; have HK2 := qh (HK1.out.then ((KeepE.of_below X.B (fun _ => False) bl0).trans hk) (fun _ => False.elim)); clear hp hk)))
      go_ret
      exact ⟨_, rfl, HO2.out, HP2.out, HK2.out, HV1.out⟩
     | false =>
      rw [hy] at hh kt
      simp only [Bool.false_eq_true, if_false] at hh
      obtain ⟨s2, hs2⟩ : ∃ s2, s2 = (takeP X.L gColon s1).1 := ⟨_, rfl⟩
      have g0 : Gr X.L.length 0 s1 s2 := hs2 ▸ take_gr gColon
      rw [← hs2] at hh kt
      have K0 := qh kt
      have HI2 := qh (in_all HI1.out g0)
      have hup := g0.up
      clear kt hs2 hy g0
      have keq : Step X (withV F (.slice A1 K1.length c1)) 77 #[X.p, .string gEq] (nameP X.L s2).1 (.bool (takeP X.L gEq (nameP X.L s2).1).2) (takeP X.L gEq (nameP X.L s2).1).1 := take_step_ gEq (sml (by decide))
      have KNM := qh (show Step X (withV F (.slice A1 K1.length c1)) 95 #[X.p] s2 (.string (nameP X.L s2).2) (nameP X.L s2).1 from name_step)
      have gn := name_gr (L := X.L) (s := s2)
      have gq := take_gr (L := X.L) (s := (nameP X.L s2).1) gEq
      cases hyq : (takeP X.L gEq (nameP X.L s2).1).2 with
      | true =>
       rw [hyq] at hh keq
       simp only [if_true] at hh
       have KE := qh keq
       split at hh
       ·cases hh
       rename_i s4 x hx
       obtain ⟨g4, i4⟩ := HGX.out _ _ hx
       have HMARK := qh True.intro
       obtain ⟨⟨s5, y⟩, hA⟩ : ∃ a, addP s4 22 (tokP X.L s2 0).at_ (nameP X.L s2).2 0 ([] ++ [x]) = a := ⟨_, rfl⟩
       have hA' : addP s4 22 (tokP X.L s2 0).at_ (nameP X.L s2).2 0 [x] = (s5, y) := hA
       rw [hA'] at hh
       have ga : Gd X.L.length 1 s4 (s5, y) := hA ▸ add_gd ..
       have gB := (gn.trans gq).trans g4
       have lA : s5.ns.length ≤ 1099511627776 := Nat.le_trans (params_cap HGX.out (in_snoc (in_all HI2.out ((gB.trans ga.1).trans (take_gr (L := X.L) gComma))) (ga.2.mono (take_gr (L := X.L) gComma))) hh) HC.out
       have HLA := qh lA
       have HIX := qh (in_snoc (l := []) (fun k hk => by cases hk) i4)
       have KX := qh (HEX.out (withV F (.slice A1 K1.length c1)) _ (s4, x) hx (by have := ga.1.lenle; simp only at this ⊢; omega))
       simp only at hh
       clear gn gq g4 i4 hA' hx
       have HA := qh hA
       have gc := take_gr (L := X.L) (s := s5) gComma
       have kc : ∀ F', Step X F' 77 #[X.p, .string gComma] s5 (.bool (takeP X.L gComma s5).2) (takeP X.L gComma s5).1 := fun F' => take_step_ gComma (sml (by decide))
       have hin3 : ∀ k ∈ K1 ++ [y], In (takeP X.L gComma s5).1 k := in_snoc (in_all HI2.out ((gB.trans ga.1).trans gc)) (ga.2.mono gc)
       have HI3 := qh hin3
       have hup2 := (gB.trans ga.1).up
       clear gc
       cases hyc : (takeP X.L gComma s5).2 with
       | true =>
        rw [hyc] at hh kc
        simp only [if_true] at hh
        have hadv := any_adv (L := X.L) (s := s5) (l := [gComma]) hyc
        have HR3 := qh hh
        have KC := qh kc
        have HAD := qh (show (takeP X.L gComma s5).1.at_ = s5.at_ + 1 from hadv)
        clear hadv hh kc hyc hA ga hin3 lA gB hyq
        go_wp2_with (go_at_call 77; go_must (first | (refine (K0.out _ (HP1.out.bel_ bl0)).mono ?_; clear K0; rintro e w2 ⟨rfl, hp, hk⟩; have HO2 := qh (hk.ownI (OwnI.bel HO1.out bl0) (fun _ _ => id)); have HP2 := qh hp; have HK2 := qh (HK1.out.then ((KeepE.of_below X.B (fun _ => False) bl0).trans hk) (fun _ => False.elim)); have c2 := hp.cells.1; have c5 := hp.cells.2.2.1; have hlt := hp.cells.2.2.2; clear hp hk)))
        go_region_held3 (fun w' => w'.cell? ⟨X.pb, 2, none⟩ = some (.int .i64 s2.at_)) (first | exact HC9.out | exact HC8.out _ | go_keep) (first | (go_at_call 76; refine (tok_step (s := s2) 0 (by omega) _ (HP2.out.bel_ bld)).mono ?_; rintro e w3 ⟨rfl, hp, hk⟩; have HC9 := qh hp.cells.1; have HC8 := qh (fun q => show (w3.drewN q).cell? ⟨X.pb, 2, none⟩ = some (.int .i64 s2.at_) from hp.cells.1); have hf := fldT (tokP X.L s2 0) w3; have hfq := (fun q : World => fldT (tokP X.L s2 0) q); have HO3 := qh (hk.ownI (OwnI.bel HO2.out bld) (fun _ _ => id)); have HP3 := qh hp; have HK3 := qh (HK2.out.then ((KeepE.of_below X.B (fun _ => False) bld).trans hk) (fun _ => False.elim)); clear hp hk))
        all_goals
         go_wp2_with (first | (at_builtin; go_must (first | (have hmk := HMARK.out; clear HMARK hmk; refine wpList_appendN _ rfl _ _ rfl (.slice none 0 0) [] rfl (OwnI.nil_ _) _ 1 1 [x] rfl Rd.one rfl (by simp) ?_; intro v7 w7 ho7 hg7 hn7; generalize hG : [] ++ [x] = G1 at ho7; obtain ⟨A7, c7, rfl, -, -⟩ := Own.rd ho7; have HG1 := qh hG; obtain ⟨hp7, hk7, hv7⟩ := (show PAt X (withV (withV F (.slice A1 K1.length c1)) (.slice none 0 0)) w6 s4 from HP6.out.bel (Below.refl _ _) (fun k hk => hk.elim .inl fun e => by cases e) (fun k hk => hk.elim (HP6.out.fl k) fun e => by cases e)).app (Below.alloc (Below.refl _ _) (Nat.le_refl _) _) (OwnI.nil_ _) (fun g e => by cases e) hg7 hn7 ho7; have HP7 := qh hp7; have HN7 := qh ho7; have HO7 := qh (hk7.ownI HO6.out (fun _ _ e => by cases e)); have HK7 := qh (HK6.out.then hk7 (fun i e => by cases e)); clear hp7 ho7 hk7 hv7 hG hg7 hn7) | (refine wpList_appendN _ rfl _ _ rfl (.slice A1 K1.length c1) K1 rfl (OwnI.bel HO8.out (Below.alloc (Below.refl _ _) (Nat.le_refl _) _)) _ 1 1 [y] rfl Rd.one rfl (by omega) ?_; intro v9 w9 ho6 hg6 hn6; generalize hG : K1 ++ [y] = G at ho6; obtain ⟨A6, c6, rfl, -, -⟩ := Own.rd ho6; have HG := qh hG; obtain ⟨hp6, hk6, hv6⟩ := HP8.out.app (Below.alloc (Below.refl _ _) (Nat.le_refl _) _) HO8.out HB1.out hg6 hn6 ho6; have HV6 := qh (show ∀ g, (Value.slice A6 G.length c6).ownBlock = some g → (Value.slice none 0 0).ownBlock = some g ∨ w.heap.size ≤ g from fun g e => (hv6 g e).elim (HV1.out g) fun h => .inr (Nat.le_trans HK8.out.size h)); have HP9 := qh hp6; have HO9 := qh ho6; have HK9 := qh (HK8.out.then hk6 (fun i e => HV1.out i e)); clear hp6 ho6 hk6 hv6 hG hg6 hn6))) | (go_at_call 95; go_must (first | (refine (KNM.out _ (HP3.out.bel_ bl0)).mono ?_; clear KNM; rintro e w4 ⟨rfl, hp, hk⟩; have HO4 := qh (hk.ownI (OwnI.bel HO3.out bl0) (fun _ _ => id)); have HP4 := qh hp; have HK4 := qh (HK3.out.then ((KeepE.of_below X.B (fun _ => False) bl0).trans hk) (fun _ => False.elim)); clear hp hk))) | (go_at_call 55; go_must (first | (refine (KX.out _ (HP5.out.bel_ bl0)).mono ?_; clear KX; rintro e w6 ⟨rfl, hp, hk⟩; have HO6 := qh (hk.ownI (OwnI.bel HO5.out bl0) (fun _ _ => id)); have HP6 := qh hp; have HK6 := qh (HK5.out.then ((KeepE.of_below X.B (fun _ => False) bl0).trans hk) (fun _ => False.elim)); clear hp hk))) | (go_at_call 79; go_must (have hl1 : G1.length = 1 := (by rw [← HG1.out]; rfl); have hA1 : addP s4 22 (tokP X.L s2 0).at_ (nameP X.L s2).2 0 G1 = (s5, y) := (by rw [← HG1.out]; exact HA.out); have kadd := add_own HP7.out HN7.out (by omega) (by rw [← HG1.out]; exact HIX.out) 22 (tokP X.L s2 0).at_ 0 (nameP X.L s2).2 (by rw [hA1]; exact HLA.out); rw [hA1] at kadd; refine kadd.mono ?_); rintro e w8 ⟨rfl, hp, hk⟩; have HO8 := qh (hk.ownI HO7.out (fun _ _ => id)); have HP8 := qh (hp.less (F' := (withV F (.slice A1 K1.length c1))) (fun k hk => .inl hk)); have HK8 := qh (HK7.out.then hk (fun _ => False.elim)); clear hp hk) | (go_at_call 77; go_must (first | (refine (KE.out _ (HP4.out.bel_ bl0)).mono ?_; clear KE; rintro e w5 ⟨rfl, hp, hk⟩; have HO5 := qh (hk.ownI (OwnI.bel HO4.out bl0) (fun _ _ => id)); have HP5 := qh hp; have HK5 := qh (HK4.out.then ((KeepE.of_below X.B (fun _ => False) bl0).trans hk) (fun _ => False.elim)); clear hp hk) | (refine (KC.out _ _ (HP9.out.bel_ bl0)).mono ?_; clear KC; rintro e w10 ⟨rfl, hp, hk⟩; have HO10 := qh (hk.ownI (OwnI.bel HO9.out bl0) (fun _ _ => id)); have HP10 := qh hp; have HK10 := qh (HK9.out.then ((KeepE.of_below X.B (fun _ => False) bl0).trans hk) (fun _ => False.elim)); clear hp hk))))
         go_round
         case rel => exact ⟨m', _, G, true, A6, c6, rfl, rfl, qh (by rw [← HG.out]; exact HR3.out), HP10.out, HO10.out, HK10.out, HV6, qh (by rw [← HG.out]; exact HI3.out), by rw [← HG.out, List.length_append, HAD.out]; show K1.length + 1 ≤ _; omega⟩
         case measure =>
          have h1 := HP10.out.atW
          have h2 := HAD.out
          have h5 := HP10.out.at_
          omega
       | false =>
        rw [hyc] at hh kc
        simp only [Bool.false_eq_true, if_false] at hh
        obtain rfl := Option.some.inj hh
        have KM := qh (show ∀ F', Step X F' 81 #[X.p, .string gColon] (takeP X.L gComma s5).1 (.tuple #[]) (needP X.L gColon (takeP X.L gComma s5).1) from fun F' => need_step gColon (sml (by decide)))
        have KC := qh kc
        clear hh kc hyc hA ga hin3 lA gB hyq
        go_wp2_with (go_at_call 77; go_must (first | (refine (K0.out _ (HP1.out.bel_ bl0)).mono ?_; clear K0; rintro e w2 ⟨rfl, hp, hk⟩; have HO2 := qh (hk.ownI (OwnI.bel HO1.out bl0) (fun _ _ => id)); have HP2 := qh hp; have HK2 := qh (HK1.out.then ((KeepE.of_below X.B (fun _ => False) bl0).trans hk) (fun _ => False.elim)); have c2 := hp.cells.1; have c5 := hp.cells.2.2.1; have hlt := hp.cells.2.2.2; clear hp hk)))
        go_region_held3 (fun w' => w'.cell? ⟨X.pb, 2, none⟩ = some (.int .i64 s2.at_)) (first | exact HC9.out | exact HC8.out _ | go_keep) (first | (go_at_call 76; refine (tok_step (s := s2) 0 (by omega) _ (HP2.out.bel_ bld)).mono ?_; rintro e w3 ⟨rfl, hp, hk⟩; have HC9 := qh hp.cells.1; have HC8 := qh (fun q => show (w3.drewN q).cell? ⟨X.pb, 2, none⟩ = some (.int .i64 s2.at_) from hp.cells.1); have hf := fldT (tokP X.L s2 0) w3; have hfq := (fun q : World => fldT (tokP X.L s2 0) q); have HO3 := qh (hk.ownI (OwnI.bel HO2.out bld) (fun _ _ => id)); have HP3 := qh hp; have HK3 := qh (HK2.out.then ((KeepE.of_below X.B (fun _ => False) bld).trans hk) (fun _ => False.elim)); clear hp hk))
        all_goals
         go_wp2_with (first | (at_builtin; go_must (first | (have hmk := HMARK.out; clear HMARK hmk; refine wpList_appendN _ rfl _ _ rfl (.slice none 0 0) [] rfl (OwnI.nil_ _) _ 1 1 [x] rfl Rd.one rfl (by simp) ?_; intro v7 w7 ho7 hg7 hn7; generalize hG : [] ++ [x] = G1 at ho7; obtain ⟨A7, c7, rfl, -, -⟩ := Own.rd ho7; have HG1 := qh hG; obtain ⟨hp7, hk7, hv7⟩ := (show PAt X (withV (withV F (.slice A1 K1.length c1)) (.slice none 0 0)) w6 s4 from HP6.out.bel (Below.refl _ _) (fun k hk => hk.elim .inl fun e => by cases e) (fun k hk => hk.elim (HP6.out.fl k) fun e => by cases e)).app (Below.alloc (Below.refl _ _) (Nat.le_refl _) _) (OwnI.nil_ _) (fun g e => by cases e) hg7 hn7 ho7; have HP7 := qh hp7; have HN7 := qh ho7; have HO7 := qh (hk7.ownI HO6.out (fun _ _ e => by cases e)); have HK7 := qh (HK6.out.then hk7 (fun i e => by cases e)); clear hp7 ho7 hk7 hv7 hG hg7 hn7) | (refine wpList_appendN _ rfl _ _ rfl (.slice A1 K1.length c1) K1 rfl (OwnI.bel HO8.out (Below.alloc (Below.refl _ _) (Nat.le_refl _) _)) _ 1 1 [y] rfl Rd.one rfl (by omega) ?_; intro v9 w9 ho6 hg6 hn6; generalize hG : K1 ++ [y] = G at ho6; obtain ⟨A6, c6, rfl, -, -⟩ := Own.rd ho6; have HG := qh hG; obtain ⟨hp6, hk6, hv6⟩ := HP8.out.app (Below.alloc (Below.refl _ _) (Nat.le_refl _) _) HO8.out HB1.out hg6 hn6 ho6; have HV6 := qh (show ∀ g, (Value.slice A6 G.length c6).ownBlock = some g → (Value.slice none 0 0).ownBlock = some g ∨ w.heap.size ≤ g from fun g e => (hv6 g e).elim (HV1.out g) fun h => .inr (Nat.le_trans HK8.out.size h)); have HP9 := qh hp6; have HO9 := qh ho6; have HK9 := qh (HK8.out.then hk6 (fun i e => HV1.out i e)); clear hp6 ho6 hk6 hv6 hG hg6 hn6))) | (go_at_call 95; go_must (first | (refine (KNM.out _ (HP3.out.bel_ bl0)).mono ?_; clear KNM; rintro e w4 ⟨rfl, hp, hk⟩; have HO4 := qh (hk.ownI (OwnI.bel HO3.out bl0) (fun _ _ => id)); have HP4 := qh hp; have HK4 := qh (HK3.out.then ((KeepE.of_below X.B (fun _ => False) bl0).trans hk) (fun _ => False.elim)); clear hp hk))) | (go_at_call 55; go_must (first | (refine (KX.out _ (HP5.out.bel_ bl0)).mono ?_; clear KX; rintro e w6 ⟨rfl, hp, hk⟩; have HO6 := qh (hk.ownI (OwnI.bel HO5.out bl0) (fun _ _ => id)); have HP6 := qh hp; have HK6 := qh (HK5.out.then ((KeepE.of_below X.B (fun _ => False) bl0).trans hk) (fun _ => False.elim)); clear hp hk))) | (go_at_call 79; go_must (have hl1 : G1.length = 1 := (by rw [← HG1.out]; rfl); have hA1 : addP s4 22 (tokP X.L s2 0).at_ (nameP X.L s2).2 0 G1 = (s5, y) := (by rw [← HG1.out]; exact HA.out); have kadd := add_own HP7.out HN7.out (by omega) (by rw [← HG1.out]; exact HIX.out) 22 (tokP X.L s2 0).at_ 0 (nameP X.L s2).2 (by rw [hA1]; exact HLA.out); rw [hA1] at kadd; refine kadd.mono ?_); rintro e w8 ⟨rfl, hp, hk⟩; have HO8 := qh (hk.ownI HO7.out (fun _ _ => id)); have HP8 := qh (hp.less (F' := (withV F (.slice A1 K1.length c1))) (fun k hk => .inl hk)); have HK8 := qh (HK7.out.then hk (fun _ => False.elim)); clear hp hk) | (go_at_call 77; go_must (first | (refine (KE.out _ (HP4.out.bel_ bl0)).mono ?_; clear KE; rintro e w5 ⟨rfl, hp, hk⟩; have HO5 := qh (hk.ownI (OwnI.bel HO4.out bl0) (fun _ _ => id)); have HP5 := qh hp; have HK5 := qh (HK4.out.then ((KeepE.of_below X.B (fun _ => False) bl0).trans hk) (fun _ => False.elim)); clear hp hk) | (refine (KC.out _ _ (HP9.out.bel_ bl0)).mono ?_; clear KC; rintro e w10 ⟨rfl, hp, hk⟩; have HO10 := qh (hk.ownI (OwnI.bel HO9.out bl0) (fun _ _ => id)); have HP10 := qh hp; have HK10 := qh (HK9.out.then ((KeepE.of_below X.B (fun _ => False) bl0).trans hk) (fun _ => False.elim)); clear hp hk))) | (go_at_call 81; go_must (first | (refine (KM.out _ _ (HP10.out.bel_ bl0)).mono ?_; clear KM; rintro e w11 ⟨rfl, hp, hk⟩; have HO11 := qh (hk.ownI (OwnI.bel HO10.out bl0) (fun _ _ => id)); have HP11 := qh hp; have HK11 := qh (HK10.out.then ((KeepE.of_below X.B (fun _ => False) bl0).trans hk) (fun _ => False.elim)); clear hp hk))))
         go_ret
         rw [HG.out]
         exact ⟨_, rfl, HO11.out, HP11.out, HK11.out, HV6.out⟩
      | false =>
       rw [hyq] at hh keq
       simp only [Bool.false_eq_true, if_false] at hh
       have KE := qh keq
       cases late with
       | true =>
        simp only [if_true] at hh
        have gf : Gr X.L.length 0 (takeP X.L gEq (nameP X.L s2).1).1 (failP (takeP X.L gEq (nameP X.L s2).1).1 30 s2.at_) := fail_gr (.inl rfl) rfl fun hq => by have := gn.up; have := gq.up; omega
        have KF := qh (show Step X (withV F (.slice A1 K1.length c1)) 96 #[X.p, .int .i64 30, .int .i64 s2.at_] (takeP X.L gEq (nameP X.L s2).1).1 (.int .i64 (-1)) (failP (takeP X.L gEq (nameP X.L s2).1).1 30 s2.at_) from fail_step 30 _)
        have gB := (gn.trans gq).trans gf
        clear gf
        obtain ⟨⟨s5, y⟩, hA⟩ : ∃ a, addP (failP (takeP X.L gEq (nameP X.L s2).1).1 30 s2.at_) 22 (tokP X.L s2 0).at_ (nameP X.L s2).2 0 [] = a := ⟨_, rfl⟩
        rw [hA] at hh
        have ga : Gd X.L.length 1 (failP (takeP X.L gEq (nameP X.L s2).1).1 30 s2.at_) (s5, y) := hA ▸ add_gd ..
        have lA : s5.ns.length ≤ 1099511627776 := Nat.le_trans (params_cap HGX.out (in_snoc (in_all HI2.out ((gB.trans ga.1).trans (take_gr (L := X.L) gComma))) (ga.2.mono (take_gr (L := X.L) gComma))) hh) HC.out
        have ka : Step X (withV F (.slice A1 K1.length c1)) 79 #[X.p, .int .i64 22, .int .i64 (tokP X.L s2 0).at_, .string (nameP X.L s2).2, .int .i64 0, .slice none 0 0] (failP (takeP X.L gEq (nameP X.L s2).1).1 30 s2.at_) (.int .i64 y) s5 := by
         have := add_step (X := X) (F := (withV F (.slice A1 K1.length c1))) (s := (failP (takeP X.L gEq (nameP X.L s2).1).1 30 s2.at_)) (op := 22) (at_ := (tokP X.L s2 0).at_) (n := 0) (t := (nameP X.L s2).2) (by rw [hA]; exact lA)
         rwa [hA] at this
        have KA := qh ka
        simp only at hh
        clear gn gq ka
        have HA := qh hA
        have gc := take_gr (L := X.L) (s := s5) gComma
        have kc : ∀ F', Step X F' 77 #[X.p, .string gComma] s5 (.bool (takeP X.L gComma s5).2) (takeP X.L gComma s5).1 := fun F' => take_step_ gComma (sml (by decide))
        have hin3 : ∀ k ∈ K1 ++ [y], In (takeP X.L gComma s5).1 k := in_snoc (in_all HI2.out ((gB.trans ga.1).trans gc)) (ga.2.mono gc)
        have HI3 := qh hin3
        have hup2 := (gB.trans ga.1).up
        clear gc
        cases hyc : (takeP X.L gComma s5).2 with
        | true =>
         rw [hyc] at hh kc
         simp only [if_true] at hh
         have hadv := any_adv (L := X.L) (s := s5) (l := [gComma]) hyc
         have HR3 := qh hh
         have KC := qh kc
         have HAD := qh (show (takeP X.L gComma s5).1.at_ = s5.at_ + 1 from hadv)
         clear hadv hh kc hyc hA ga hin3 lA gB hyq
         go_wp2_with (go_at_call 77; go_must (first | (refine (K0.out _ (HP1.out.bel_ bl0)).mono ?_; clear K0; rintro e w2 ⟨rfl, hp, hk⟩; have HO2 := qh (hk.ownI (OwnI.bel HO1.out bl0) (fun _ _ => id)); have HP2 := qh hp; have HK2 := qh (HK1.out.then ((KeepE.of_below X.B (fun _ => False) bl0).trans hk) (fun _ => False.elim)); have c2 := hp.cells.1; have c5 := hp.cells.2.2.1; have hlt := hp.cells.2.2.2; clear hp hk)))
         go_region_held3 (fun w' => w'.cell? ⟨X.pb, 2, none⟩ = some (.int .i64 s2.at_)) (first | exact HC9.out | exact HC8.out _ | go_keep) (first | (go_at_call 76; refine (tok_step (s := s2) 0 (by omega) _ (HP2.out.bel_ bld)).mono ?_; rintro e w3 ⟨rfl, hp, hk⟩; have HC9 := qh hp.cells.1; have HC8 := qh (fun q => show (w3.drewN q).cell? ⟨X.pb, 2, none⟩ = some (.int .i64 s2.at_) from hp.cells.1); have hf := fldT (tokP X.L s2 0) w3; have hfq := (fun q : World => fldT (tokP X.L s2 0) q); have HO3 := qh (hk.ownI (OwnI.bel HO2.out bld) (fun _ _ => id)); have HP3 := qh hp; have HK3 := qh (HK2.out.then ((KeepE.of_below X.B (fun _ => False) bld).trans hk) (fun _ => False.elim)); clear hp hk))
         all_goals
          go_wp2_with (first | (at_builtin; go_must (first | (have hmk := HMARK.out; clear HMARK hmk; refine wpList_appendN _ rfl _ _ rfl (.slice none 0 0) [] rfl (OwnI.nil_ _) _ 1 1 [x] rfl Rd.one rfl (by simp) ?_; intro v7 w7 ho7 hg7 hn7; generalize hG : [] ++ [x] = G1 at ho7; obtain ⟨A7, c7, rfl, -, -⟩ := Own.rd ho7; have HG1 := qh hG; obtain ⟨hp7, hk7, hv7⟩ := (show PAt X (withV (withV F (.slice A1 K1.length c1)) (.slice none 0 0)) w6 s4 from HP6.out.bel (Below.refl _ _) (fun k hk => hk.elim .inl fun e => by cases e) (fun k hk => hk.elim (HP6.out.fl k) fun e => by cases e)).app (Below.alloc (Below.refl _ _) (Nat.le_refl _) _) (OwnI.nil_ _) (fun g e => by cases e) hg7 hn7 ho7; have HP7 := qh hp7; have HN7 := qh ho7; have HO7 := qh (hk7.ownI HO6.out (fun _ _ e => by cases e)); have HK7 := qh (HK6.out.then hk7 (fun i e => by cases e)); clear hp7 ho7 hk7 hv7 hG hg7 hn7) | (refine wpList_appendN _ rfl _ _ rfl (.slice A1 K1.length c1) K1 rfl (OwnI.bel HO8.out (Below.alloc (Below.refl _ _) (Nat.le_refl _) _)) _ 1 1 [y] rfl Rd.one rfl (by omega) ?_; intro v9 w9 ho6 hg6 hn6; generalize hG : K1 ++ [y] = G at ho6; obtain ⟨A6, c6, rfl, -, -⟩ := Own.rd ho6; have HG := qh hG; obtain ⟨hp6, hk6, hv6⟩ := HP8.out.app (Below.alloc (Below.refl _ _) (Nat.le_refl _) _) HO8.out HB1.out hg6 hn6 ho6; have HV6 := qh (show ∀ g, (Value.slice A6 G.length c6).ownBlock = some g → (Value.slice none 0 0).ownBlock = some g ∨ w.heap.size ≤ g from fun g e => (hv6 g e).elim (HV1.out g) fun h => .inr (Nat.le_trans HK8.out.size h)); have HP9 := qh hp6; have HO9 := qh ho6; have HK9 := qh (HK8.out.then hk6 (fun i e => HV1.out i e)); clear hp6 ho6 hk6 hv6 hG hg6 hn6))) | (go_at_call 95; go_must (first | (refine (KNM.out _ (HP3.out.bel_ bl0)).mono ?_; clear KNM; rintro e w4 ⟨rfl, hp, hk⟩; have HO4 := qh (hk.ownI (OwnI.bel HO3.out bl0) (fun _ _ => id)); have HP4 := qh hp; have HK4 := qh (HK3.out.then ((KeepE.of_below X.B (fun _ => False) bl0).trans hk) (fun _ => False.elim)); clear hp hk))) | (go_at_call 96; go_must (first | (refine (KF.out _ (HP5.out.bel_ bl0)).mono ?_; clear KF; rintro e w6 ⟨rfl, hp, hk⟩; have HO6 := qh (hk.ownI (OwnI.bel HO5.out bl0) (fun _ _ => id)); have HP6 := qh hp; have HK6 := qh (HK5.out.then ((KeepE.of_below X.B (fun _ => False) bl0).trans hk) (fun _ => False.elim)); clear hp hk))) | (go_at_call 79; go_must (first | (refine (KA.out _ (HP6.out.bel_ bl0)).mono ?_; clear KA; rintro e w8 ⟨rfl, hp, hk⟩; have HO8 := qh (hk.ownI (OwnI.bel HO6.out bl0) (fun _ _ => id)); have HP8 := qh hp; have HK8 := qh (HK6.out.then ((KeepE.of_below X.B (fun _ => False) bl0).trans hk) (fun _ => False.elim)); clear hp hk))) | (go_at_call 77; go_must (first | (refine (KE.out _ (HP4.out.bel_ bl0)).mono ?_; clear KE; rintro e w5 ⟨rfl, hp, hk⟩; have HO5 := qh (hk.ownI (OwnI.bel HO4.out bl0) (fun _ _ => id)); have HP5 := qh hp; have HK5 := qh (HK4.out.then ((KeepE.of_below X.B (fun _ => False) bl0).trans hk) (fun _ => False.elim)); clear hp hk) | (refine (KC.out _ _ (HP9.out.bel_ bl0)).mono ?_; clear KC; rintro e w10 ⟨rfl, hp, hk⟩; have HO10 := qh (hk.ownI (OwnI.bel HO9.out bl0) (fun _ _ => id)); have HP10 := qh hp; have HK10 := qh (HK9.out.then ((KeepE.of_below X.B (fun _ => False) bl0).trans hk) (fun _ => False.elim)); clear hp hk))))
          go_round
          case rel => exact ⟨m', _, G, true, A6, c6, rfl, rfl, qh (by rw [← HG.out]; exact HR3.out), HP10.out, HO10.out, HK10.out, HV6, qh (by rw [← HG.out]; exact HI3.out), by rw [← HG.out, List.length_append, HAD.out]; show K1.length + 1 ≤ _; omega⟩
          case measure =>
           have h1 := HP10.out.atW
           have h2 := HAD.out
           have h5 := HP10.out.at_
           omega
        | false =>
         rw [hyc] at hh kc
         simp only [Bool.false_eq_true, if_false] at hh
         obtain rfl := Option.some.inj hh
         have KM := qh (show ∀ F', Step X F' 81 #[X.p, .string gColon] (takeP X.L gComma s5).1 (.tuple #[]) (needP X.L gColon (takeP X.L gComma s5).1) from fun F' => need_step gColon (sml (by decide)))
         have KC := qh kc
         clear hh kc hyc hA ga hin3 lA gB hyq
         go_wp2_with (go_at_call 77; go_must (first | (refine (K0.out _ (HP1.out.bel_ bl0)).mono ?_; clear K0; rintro e w2 ⟨rfl, hp, hk⟩; have HO2 := qh (hk.ownI (OwnI.bel HO1.out bl0) (fun _ _ => id)); have HP2 := qh hp; have HK2 := qh (HK1.out.then ((KeepE.of_below X.B (fun _ => False) bl0).trans hk) (fun _ => False.elim)); have c2 := hp.cells.1; have c5 := hp.cells.2.2.1; have hlt := hp.cells.2.2.2; clear hp hk)))
         go_region_held3 (fun w' => w'.cell? ⟨X.pb, 2, none⟩ = some (.int .i64 s2.at_)) (first | exact HC9.out | exact HC8.out _ | go_keep) (first | (go_at_call 76; refine (tok_step (s := s2) 0 (by omega) _ (HP2.out.bel_ bld)).mono ?_; rintro e w3 ⟨rfl, hp, hk⟩; have HC9 := qh hp.cells.1; have HC8 := qh (fun q => show (w3.drewN q).cell? ⟨X.pb, 2, none⟩ = some (.int .i64 s2.at_) from hp.cells.1); have hf := fldT (tokP X.L s2 0) w3; have hfq := (fun q : World => fldT (tokP X.L s2 0) q); have HO3 := qh (hk.ownI (OwnI.bel HO2.out bld) (fun _ _ => id)); have HP3 := qh hp; have HK3 := qh (HK2.out.then ((KeepE.of_below X.B (fun _ => False) bld).trans hk) (fun _ => False.elim)); clear hp hk))
         all_goals
          go_wp2_with (first | (at_builtin; go_must (first | (have hmk := HMARK.out; clear HMARK hmk; refine wpList_appendN _ rfl _ _ rfl (.slice none 0 0) [] rfl (OwnI.nil_ _) _ 1 1 [x] rfl Rd.one rfl (by simp) ?_; intro v7 w7 ho7 hg7 hn7; generalize hG : [] ++ [x] = G1 at ho7; obtain ⟨A7, c7, rfl, -, -⟩ := Own.rd ho7; have HG1 := qh hG; obtain ⟨hp7, hk7, hv7⟩ := (show PAt X (withV (withV F (.slice A1 K1.length c1)) (.slice none 0 0)) w6 s4 from HP6.out.bel (Below.refl _ _) (fun k hk => hk.elim .inl fun e => by cases e) (fun k hk => hk.elim (HP6.out.fl k) fun e => by cases e)).app (Below.alloc (Below.refl _ _) (Nat.le_refl _) _) (OwnI.nil_ _) (fun g e => by cases e) hg7 hn7 ho7; have HP7 := qh hp7; have HN7 := qh ho7; have HO7 := qh (hk7.ownI HO6.out (fun _ _ e => by cases e)); have HK7 := qh (HK6.out.then hk7 (fun i e => by cases e)); clear hp7 ho7 hk7 hv7 hG hg7 hn7) | (refine wpList_appendN _ rfl _ _ rfl (.slice A1 K1.length c1) K1 rfl (OwnI.bel HO8.out (Below.alloc (Below.refl _ _) (Nat.le_refl _) _)) _ 1 1 [y] rfl Rd.one rfl (by omega) ?_; intro v9 w9 ho6 hg6 hn6; generalize hG : K1 ++ [y] = G at ho6; obtain ⟨A6, c6, rfl, -, -⟩ := Own.rd ho6; have HG := qh hG; obtain ⟨hp6, hk6, hv6⟩ := HP8.out.app (Below.alloc (Below.refl _ _) (Nat.le_refl _) _) HO8.out HB1.out hg6 hn6 ho6; have HV6 := qh (show ∀ g, (Value.slice A6 G.length c6).ownBlock = some g → (Value.slice none 0 0).ownBlock = some g ∨ w.heap.size ≤ g from fun g e => (hv6 g e).elim (HV1.out g) fun h => .inr (Nat.le_trans HK8.out.size h)); have HP9 := qh hp6; have HO9 := qh ho6; have HK9 := qh (HK8.out.then hk6 (fun i e => HV1.out i e)); clear hp6 ho6 hk6 hv6 hG hg6 hn6))) | (go_at_call 95; go_must (first | (refine (KNM.out _ (HP3.out.bel_ bl0)).mono ?_; clear KNM; rintro e w4 ⟨rfl, hp, hk⟩; have HO4 := qh (hk.ownI (OwnI.bel HO3.out bl0) (fun _ _ => id)); have HP4 := qh hp; have HK4 := qh (HK3.out.then ((KeepE.of_below X.B (fun _ => False) bl0).trans hk) (fun _ => False.elim)); clear hp hk))) | (go_at_call 96; go_must (first | (refine (KF.out _ (HP5.out.bel_ bl0)).mono ?_; clear KF; rintro e w6 ⟨rfl, hp, hk⟩; have HO6 := qh (hk.ownI (OwnI.bel HO5.out bl0) (fun _ _ => id)); have HP6 := qh hp; have HK6 := qh (HK5.out.then ((KeepE.of_below X.B (fun _ => False) bl0).trans hk) (fun _ => False.elim)); clear hp hk))) | (go_at_call 79; go_must (first | (refine (KA.out _ (HP6.out.bel_ bl0)).mono ?_; clear KA; rintro e w8 ⟨rfl, hp, hk⟩; have HO8 := qh (hk.ownI (OwnI.bel HO6.out bl0) (fun _ _ => id)); have HP8 := qh hp; have HK8 := qh (HK6.out.then ((KeepE.of_below X.B (fun _ => False) bl0).trans hk) (fun _ => False.elim)); clear hp hk))) | (go_at_call 77; go_must (first | (refine (KE.out _ (HP4.out.bel_ bl0)).mono ?_; clear KE; rintro e w5 ⟨rfl, hp, hk⟩; have HO5 := qh (hk.ownI (OwnI.bel HO4.out bl0) (fun _ _ => id)); have HP5 := qh hp; have HK5 := qh (HK4.out.then ((KeepE.of_below X.B (fun _ => False) bl0).trans hk) (fun _ => False.elim)); clear hp hk) | (refine (KC.out _ _ (HP9.out.bel_ bl0)).mono ?_; clear KC; rintro e w10 ⟨rfl, hp, hk⟩; have HO10 := qh (hk.ownI (OwnI.bel HO9.out bl0) (fun _ _ => id)); have HP10 := qh hp; have HK10 := qh (HK9.out.then ((KeepE.of_below X.B (fun _ => False) bl0).trans hk) (fun _ => False.elim)); clear hp hk))) | (go_at_call 81; go_must (first | (refine (KM.out _ _ (HP10.out.bel_ bl0)).mono ?_; clear KM; rintro e w11 ⟨rfl, hp, hk⟩; have HO11 := qh (hk.ownI (OwnI.bel HO10.out bl0) (fun _ _ => id)); have HP11 := qh hp; have HK11 := qh (HK10.out.then ((KeepE.of_below X.B (fun _ => False) bl0).trans hk) (fun _ => False.elim)); clear hp hk))))
          go_ret
          rw [HG.out]
          exact ⟨_, rfl, HO11.out, HP11.out, HK11.out, HV6.out⟩
       | false =>
        simp only [Bool.false_eq_true, if_false] at hh
        have gB := gn.trans gq
        obtain ⟨⟨s5, y⟩, hA⟩ : ∃ a, addP (takeP X.L gEq (nameP X.L s2).1).1 22 (tokP X.L s2 0).at_ (nameP X.L s2).2 0 [] = a := ⟨_, rfl⟩
        rw [hA] at hh
        have ga : Gd X.L.length 1 (takeP X.L gEq (nameP X.L s2).1).1 (s5, y) := hA ▸ add_gd ..
        have lA : s5.ns.length ≤ 1099511627776 := Nat.le_trans (params_cap HGX.out (in_snoc (in_all HI2.out ((gB.trans ga.1).trans (take_gr (L := X.L) gComma))) (ga.2.mono (take_gr (L := X.L) gComma))) hh) HC.out
        have ka : Step X (withV F (.slice A1 K1.length c1)) 79 #[X.p, .int .i64 22, .int .i64 (tokP X.L s2 0).at_, .string (nameP X.L s2).2, .int .i64 0, .slice none 0 0] (takeP X.L gEq (nameP X.L s2).1).1 (.int .i64 y) s5 := by
         have := add_step (X := X) (F := (withV F (.slice A1 K1.length c1))) (s := (takeP X.L gEq (nameP X.L s2).1).1) (op := 22) (at_ := (tokP X.L s2 0).at_) (n := 0) (t := (nameP X.L s2).2) (by rw [hA]; exact lA)
         rwa [hA] at this
        have KA := qh ka
        simp only at hh
        clear gn gq ka
        have HA := qh hA
        have gc := take_gr (L := X.L) (s := s5) gComma
        have kc : ∀ F', Step X F' 77 #[X.p, .string gComma] s5 (.bool (takeP X.L gComma s5).2) (takeP X.L gComma s5).1 := fun F' => take_step_ gComma (sml (by decide))
        have hin3 : ∀ k ∈ K1 ++ [y], In (takeP X.L gComma s5).1 k := in_snoc (in_all HI2.out ((gB.trans ga.1).trans gc)) (ga.2.mono gc)
        have HI3 := qh hin3
        have hup2 := (gB.trans ga.1).up
        clear gc
        cases hyc : (takeP X.L gComma s5).2 with
        | true =>
         rw [hyc] at hh kc
         simp only [if_true] at hh
         have hadv := any_adv (L := X.L) (s := s5) (l := [gComma]) hyc
         have HR3 := qh hh
         have KC := qh kc
         have HAD := qh (show (takeP X.L gComma s5).1.at_ = s5.at_ + 1 from hadv)
         clear hadv hh kc hyc hA ga hin3 lA gB hyq
         go_wp2_with (go_at_call 77; go_must (first | (refine (K0.out _ (HP1.out.bel_ bl0)).mono ?_; clear K0; rintro e w2 ⟨rfl, hp, hk⟩; have HO2 := qh (hk.ownI (OwnI.bel HO1.out bl0) (fun _ _ => id)); have HP2 := qh hp; have HK2 := qh (HK1.out.then ((KeepE.of_below X.B (fun _ => False) bl0).trans hk) (fun _ => False.elim)); have c2 := hp.cells.1; have c5 := hp.cells.2.2.1; have hlt := hp.cells.2.2.2; clear hp hk)))
         go_region_held3 (fun w' => w'.cell? ⟨X.pb, 2, none⟩ = some (.int .i64 s2.at_)) (first | exact HC9.out | exact HC8.out _ | go_keep) (first | (go_at_call 76; refine (tok_step (s := s2) 0 (by omega) _ (HP2.out.bel_ bld)).mono ?_; rintro e w3 ⟨rfl, hp, hk⟩; have HC9 := qh hp.cells.1; have HC8 := qh (fun q => show (w3.drewN q).cell? ⟨X.pb, 2, none⟩ = some (.int .i64 s2.at_) from hp.cells.1); have hf := fldT (tokP X.L s2 0) w3; have hfq := (fun q : World => fldT (tokP X.L s2 0) q); have HO3 := qh (hk.ownI (OwnI.bel HO2.out bld) (fun _ _ => id)); have HP3 := qh hp; have HK3 := qh (HK2.out.then ((KeepE.of_below X.B (fun _ => False) bld).trans hk) (fun _ => False.elim)); clear hp hk))
         all_goals
          go_wp2_with (first | (at_builtin; go_must (first | (have hmk := HMARK.out; clear HMARK hmk; refine wpList_appendN _ rfl _ _ rfl (.slice none 0 0) [] rfl (OwnI.nil_ _) _ 1 1 [x] rfl Rd.one rfl (by simp) ?_; intro v7 w7 ho7 hg7 hn7; generalize hG : [] ++ [x] = G1 at ho7; obtain ⟨A7, c7, rfl, -, -⟩ := Own.rd ho7; have HG1 := qh hG; obtain ⟨hp7, hk7, hv7⟩ := (show PAt X (withV (withV F (.slice A1 K1.length c1)) (.slice none 0 0)) w6 s4 from HP6.out.bel (Below.refl _ _) (fun k hk => hk.elim .inl fun e => by cases e) (fun k hk => hk.elim (HP6.out.fl k) fun e => by cases e)).app (Below.alloc (Below.refl _ _) (Nat.le_refl _) _) (OwnI.nil_ _) (fun g e => by cases e) hg7 hn7 ho7; have HP7 := qh hp7; have HN7 := qh ho7; have HO7 := qh (hk7.ownI HO6.out (fun _ _ e => by cases e)); have HK7 := qh (HK6.out.then hk7 (fun i e => by cases e)); clear hp7 ho7 hk7 hv7 hG hg7 hn7) | (refine wpList_appendN _ rfl _ _ rfl (.slice A1 K1.length c1) K1 rfl (OwnI.bel HO8.out (Below.alloc (Below.refl _ _) (Nat.le_refl _) _)) _ 1 1 [y] rfl Rd.one rfl (by omega) ?_; intro v9 w9 ho6 hg6 hn6; generalize hG : K1 ++ [y] = G at ho6; obtain ⟨A6, c6, rfl, -, -⟩ := Own.rd ho6; have HG := qh hG; obtain ⟨hp6, hk6, hv6⟩ := HP8.out.app (Below.alloc (Below.refl _ _) (Nat.le_refl _) _) HO8.out HB1.out hg6 hn6 ho6; have HV6 := qh (show ∀ g, (Value.slice A6 G.length c6).ownBlock = some g → (Value.slice none 0 0).ownBlock = some g ∨ w.heap.size ≤ g from fun g e => (hv6 g e).elim (HV1.out g) fun h => .inr (Nat.le_trans HK8.out.size h)); have HP9 := qh hp6; have HO9 := qh ho6; have HK9 := qh (HK8.out.then hk6 (fun i e => HV1.out i e)); clear hp6 ho6 hk6 hv6 hG hg6 hn6))) | (go_at_call 95; go_must (first | (refine (KNM.out _ (HP3.out.bel_ bl0)).mono ?_; clear KNM; rintro e w4 ⟨rfl, hp, hk⟩; have HO4 := qh (hk.ownI (OwnI.bel HO3.out bl0) (fun _ _ => id)); have HP4 := qh hp; have HK4 := qh (HK3.out.then ((KeepE.of_below X.B (fun _ => False) bl0).trans hk) (fun _ => False.elim)); clear hp hk))) | (go_at_call 79; go_must (first | (refine (KA.out _ (HP5.out.bel_ bl0)).mono ?_; clear KA; rintro e w8 ⟨rfl, hp, hk⟩; have HO8 := qh (hk.ownI (OwnI.bel HO5.out bl0) (fun _ _ => id)); have HP8 := qh hp; have HK8 := qh (HK5.out.then ((KeepE.of_below X.B (fun _ => False) bl0).trans hk) (fun _ => False.elim)); clear hp hk))) | (go_at_call 77; go_must (first | (refine (KE.out _ (HP4.out.bel_ bl0)).mono ?_; clear KE; rintro e w5 ⟨rfl, hp, hk⟩; have HO5 := qh (hk.ownI (OwnI.bel HO4.out bl0) (fun _ _ => id)); have HP5 := qh hp; have HK5 := qh (HK4.out.then ((KeepE.of_below X.B (fun _ => False) bl0).trans hk) (fun _ => False.elim)); clear hp hk) | (refine (KC.out _ _ (HP9.out.bel_ bl0)).mono ?_; clear KC; rintro e w10 ⟨rfl, hp, hk⟩; have HO10 := qh (hk.ownI (OwnI.bel HO9.out bl0) (fun _ _ => id)); have HP10 := qh hp; have HK10 := qh (HK9.out.then ((KeepE.of_below X.B (fun _ => False) bl0).trans hk) (fun _ => False.elim)); clear hp hk))))
          go_round
          case rel => exact ⟨m', _, G, false, A6, c6, rfl, rfl, qh (by rw [← HG.out]; exact HR3.out), HP10.out, HO10.out, HK10.out, HV6, qh (by rw [← HG.out]; exact HI3.out), by rw [← HG.out, List.length_append, HAD.out]; show K1.length + 1 ≤ _; omega⟩
          case measure =>
           have h1 := HP10.out.atW
           have h2 := HAD.out
           have h5 := HP10.out.at_
           omega
        | false =>
         rw [hyc] at hh kc
         simp only [Bool.false_eq_true, if_false] at hh
         obtain rfl := Option.some.inj hh
         have KM := qh (show ∀ F', Step X F' 81 #[X.p, .string gColon] (takeP X.L gComma s5).1 (.tuple #[]) (needP X.L gColon (takeP X.L gComma s5).1) from fun F' => need_step gColon (sml (by decide)))
         have KC := qh kc
         clear hh kc hyc hA ga hin3 lA gB hyq
         go_wp2_with (go_at_call 77; go_must (first | (refine (K0.out _ (HP1.out.bel_ bl0)).mono ?_; clear K0; rintro e w2 ⟨rfl, hp, hk⟩; have HO2 := qh (hk.ownI (OwnI.bel HO1.out bl0) (fun _ _ => id)); have HP2 := qh hp; have HK2 := qh (HK1.out.then ((KeepE.of_below X.B (fun _ => False) bl0).trans hk) (fun _ => False.elim)); have c2 := hp.cells.1; have c5 := hp.cells.2.2.1; have hlt := hp.cells.2.2.2; clear hp hk)))
         go_region_held3 (fun w' => w'.cell? ⟨X.pb, 2, none⟩ = some (.int .i64 s2.at_)) (first | exact HC9.out | exact HC8.out _ | go_keep) (first | (go_at_call 76; refine (tok_step (s := s2) 0 (by omega) _ (HP2.out.bel_ bld)).mono ?_; rintro e w3 ⟨rfl, hp, hk⟩; have HC9 := qh hp.cells.1; have HC8 := qh (fun q => show (w3.drewN q).cell? ⟨X.pb, 2, none⟩ = some (.int .i64 s2.at_) from hp.cells.1); have hf := fldT (tokP X.L s2 0) w3; have hfq := (fun q : World => fldT (tokP X.L s2 0) q); have HO3 := qh (hk.ownI (OwnI.bel HO2.out bld) (fun _ _ => id)); have HP3 := qh hp; have HK3 := qh (HK2.out.then ((KeepE.of_below X.B (fun _ => False) bld).trans hk) (fun _ => False.elim)); clear hp hk))
         all_goals
          go_wp2_with (first | (at_builtin; go_must (first | (have hmk := HMARK.out; clear HMARK hmk; refine wpList_appendN _ rfl _ _ rfl (.slice none 0 0) [] rfl (OwnI.nil_ _) _ 1 1 [x] rfl Rd.one rfl (by simp) ?_; intro v7 w7 ho7 hg7 hn7; generalize hG : [] ++ [x] = G1 at ho7; obtain ⟨A7, c7, rfl, -, -⟩ := Own.rd ho7; have HG1 := qh hG; obtain ⟨hp7, hk7, hv7⟩ := (show PAt X (withV (withV F (.slice A1 K1.length c1)) (.slice none 0 0)) w6 s4 from HP6.out.bel (Below.refl _ _) (fun k hk => hk.elim .inl fun e => by cases e) (fun k hk => hk.elim (HP6.out.fl k) fun e => by cases e)).app (Below.alloc (Below.refl _ _) (Nat.le_refl _) _) (OwnI.nil_ _) (fun g e => by cases e) hg7 hn7 ho7; have HP7 := qh hp7; have HN7 := qh ho7; have HO7 := qh (hk7.ownI HO6.out (fun _ _ e => by cases e)); have HK7 := qh (HK6.out.then hk7 (fun i e => by cases e)); clear hp7 ho7 hk7 hv7 hG hg7 hn7) | (refine wpList_appendN _ rfl _ _ rfl (.slice A1 K1.length c1) K1 rfl (OwnI.bel HO8.out (Below.alloc (Below.refl _ _) (Nat.le_refl _) _)) _ 1 1 [y] rfl Rd.one rfl (by omega) ?_; intro v9 w9 ho6 hg6 hn6; generalize hG : K1 ++ [y] = G at ho6; obtain ⟨A6, c6, rfl, -, -⟩ := Own.rd ho6; have HG := qh hG; obtain ⟨hp6, hk6, hv6⟩ := HP8.out.app (Below.alloc (Below.refl _ _) (Nat.le_refl _) _) HO8.out HB1.out hg6 hn6 ho6; have HV6 := qh (show ∀ g, (Value.slice A6 G.length c6).ownBlock = some g → (Value.slice none 0 0).ownBlock = some g ∨ w.heap.size ≤ g from fun g e => (hv6 g e).elim (HV1.out g) fun h => .inr (Nat.le_trans HK8.out.size h)); have HP9 := qh hp6; have HO9 := qh ho6; have HK9 := qh (HK8.out.then hk6 (fun i e => HV1.out i e)); clear hp6 ho6 hk6 hv6 hG hg6 hn6))) | (go_at_call 95; go_must (first | (refine (KNM.out _ (HP3.out.bel_ bl0)).mono ?_; clear KNM; rintro e w4 ⟨rfl, hp, hk⟩; have HO4 := qh (hk.ownI (OwnI.bel HO3.out bl0) (fun _ _ => id)); have HP4 := qh hp; have HK4 := qh (HK3.out.then ((KeepE.of_below X.B (fun _ => False) bl0).trans hk) (fun _ => False.elim)); clear hp hk))) | (go_at_call 79; go_must (first | (refine (KA.out _ (HP5.out.bel_ bl0)).mono ?_; clear KA; rintro e w8 ⟨rfl, hp, hk⟩; have HO8 := qh (hk.ownI (OwnI.bel HO5.out bl0) (fun _ _ => id)); have HP8 := qh hp; have HK8 := qh (HK5.out.then ((KeepE.of_below X.B (fun _ => False) bl0).trans hk) (fun _ => False.elim)); clear hp hk))) | (go_at_call 77; go_must (first | (refine (KE.out _ (HP4.out.bel_ bl0)).mono ?_; clear KE; rintro e w5 ⟨rfl, hp, hk⟩; have HO5 := qh (hk.ownI (OwnI.bel HO4.out bl0) (fun _ _ => id)); have HP5 := qh hp; have HK5 := qh (HK4.out.then ((KeepE.of_below X.B (fun _ => False) bl0).trans hk) (fun _ => False.elim)); clear hp hk) | (refine (KC.out _ _ (HP9.out.bel_ bl0)).mono ?_; clear KC; rintro e w10 ⟨rfl, hp, hk⟩; have HO10 := qh (hk.ownI (OwnI.bel HO9.out bl0) (fun _ _ => id)); have HP10 := qh hp; have HK10 := qh (HK9.out.then ((KeepE.of_below X.B (fun _ => False) bl0).trans hk) (fun _ => False.elim)); clear hp hk))) | (go_at_call 81; go_must (first | (refine (KM.out _ _ (HP10.out.bel_ bl0)).mono ?_; clear KM; rintro e w11 ⟨rfl, hp, hk⟩; have HO11 := qh (hk.ownI (OwnI.bel HO10.out bl0) (fun _ _ => id)); have HP11 := qh hp; have HK11 := qh (HK10.out.then ((KeepE.of_below X.B (fun _ => False) bl0).trans hk) (fun _ => False.elim)); clear hp hk))))
          go_ret
          rw [HG.out]
          exact ⟨_, rfl, HO11.out, HP11.out, HK11.out, HV6.out⟩
    ·rw [if_neg hK] at hh
     have hk0 : ((K1.length : Int) == 0) = false := by
      have : K1.length ≠ 0 := fun h => hK (List.length_eq_zero_iff.1 h)
      simpa using this
     simp only [Bool.false_eq_true, if_false] at hh
     obtain ⟨s2, hs2⟩ : ∃ s2, s2 = s1 := ⟨_, rfl⟩
     subst hs2
     have HI2 := HI1
     have HP2 := HP1
     have HO2 := HO1
     have HK2 := HK1
     have hup : s2.at_ ≤ s2.at_ := Nat.le_refl _
     have keq : Step X (withV F (.slice A1 K1.length c1)) 77 #[X.p, .string gEq] (nameP X.L s2).1 (.bool (takeP X.L gEq (nameP X.L s2).1).2) (takeP X.L gEq (nameP X.L s2).1).1 := take_step_ gEq (sml (by decide))
     have KNM := qh (show Step X (withV F (.slice A1 K1.length c1)) 95 #[X.p] s2 (.string (nameP X.L s2).2) (nameP X.L s2).1 from name_step)
     have gn := name_gr (L := X.L) (s := s2)
     have gq := take_gr (L := X.L) (s := (nameP X.L s2).1) gEq
     cases hyq : (takeP X.L gEq (nameP X.L s2).1).2 with
     | true =>
      rw [hyq] at hh keq
      simp only [if_true] at hh
      have KE := qh keq
      split at hh
      ·cases hh
      rename_i s4 x hx
      obtain ⟨g4, i4⟩ := HGX.out _ _ hx
      have HMARK := qh True.intro
      obtain ⟨⟨s5, y⟩, hA⟩ : ∃ a, addP s4 22 (tokP X.L s2 0).at_ (nameP X.L s2).2 0 ([] ++ [x]) = a := ⟨_, rfl⟩
      have hA' : addP s4 22 (tokP X.L s2 0).at_ (nameP X.L s2).2 0 [x] = (s5, y) := hA
      rw [hA'] at hh
      have ga : Gd X.L.length 1 s4 (s5, y) := hA ▸ add_gd ..
      have gB := (gn.trans gq).trans g4
      have lA : s5.ns.length ≤ 1099511627776 := Nat.le_trans (params_cap HGX.out (in_snoc (in_all HI2.out ((gB.trans ga.1).trans (take_gr (L := X.L) gComma))) (ga.2.mono (take_gr (L := X.L) gComma))) hh) HC.out
      have HLA := qh lA
      have HIX := qh (in_snoc (l := []) (fun k hk => by cases hk) i4)
      have KX := qh (HEX.out (withV F (.slice A1 K1.length c1)) _ (s4, x) hx (by have := ga.1.lenle; simp only at this ⊢; omega))
      simp only at hh
      clear gn gq g4 i4 hA' hx
      have HA := qh hA
      have gc := take_gr (L := X.L) (s := s5) gComma
      have kc : ∀ F', Step X F' 77 #[X.p, .string gComma] s5 (.bool (takeP X.L gComma s5).2) (takeP X.L gComma s5).1 := fun F' => take_step_ gComma (sml (by decide))
      have hin3 : ∀ k ∈ K1 ++ [y], In (takeP X.L gComma s5).1 k := in_snoc (in_all HI2.out ((gB.trans ga.1).trans gc)) (ga.2.mono gc)
      have HI3 := qh hin3
      have hup2 := (gB.trans ga.1).up
      clear gc
      cases hyc : (takeP X.L gComma s5).2 with
      | true =>
       rw [hyc] at hh kc
       simp only [if_true] at hh
       have hadv := any_adv (L := X.L) (s := s5) (l := [gComma]) hyc
       have HR3 := qh hh
       have KC := qh kc
       have HAD := qh (show (takeP X.L gComma s5).1.at_ = s5.at_ + 1 from hadv)
       clear hadv hh kc hyc hA ga hin3 lA gB hyq
       go_wp2_with fail
       go_region_held3 (fun w' => w'.cell? ⟨X.pb, 2, none⟩ = some (.int .i64 s2.at_)) (first | exact HC9.out | exact HC8.out _ | go_keep) (first | (go_at_call 76; refine (tok_step (s := s2) 0 (by omega) _ (HP2.out.bel_ bld)).mono ?_; rintro e w3 ⟨rfl, hp, hk⟩; have HC9 := qh hp.cells.1; have HC8 := qh (fun q => show (w3.drewN q).cell? ⟨X.pb, 2, none⟩ = some (.int .i64 s2.at_) from hp.cells.1); have hf := fldT (tokP X.L s2 0) w3; have hfq := (fun q : World => fldT (tokP X.L s2 0) q); have HO3 := qh (hk.ownI (OwnI.bel HO2.out bld) (fun _ _ => id)); have HP3 := qh hp; have HK3 := qh (HK2.out.then ((KeepE.of_below X.B (fun _ => False) bld).trans hk) (fun _ => False.elim)); clear hp hk))
       all_goals
        go_wp2_with (first | (at_builtin; go_must (first | (have hmk := HMARK.out; clear HMARK hmk; refine wpList_appendN _ rfl _ _ rfl (.slice none 0 0) [] rfl (OwnI.nil_ _) _ 1 1 [x] rfl Rd.one rfl (by simp) ?_; intro v7 w7 ho7 hg7 hn7; generalize hG : [] ++ [x] = G1 at ho7; obtain ⟨A7, c7, rfl, -, -⟩ := Own.rd ho7; have HG1 := qh hG; obtain ⟨hp7, hk7, hv7⟩ := (show PAt X (withV (withV F (.slice A1 K1.length c1)) (.slice none 0 0)) w6 s4 from HP6.out.bel (Below.refl _ _) (fun k hk => hk.elim .inl fun e => by cases e) (fun k hk => hk.elim (HP6.out.fl k) fun e => by cases e)).app (Below.alloc (Below.refl _ _) (Nat.le_refl _) _) (OwnI.nil_ _) (fun g e => by cases e) hg7 hn7 ho7; have HP7 := qh hp7; have HN7 := qh ho7; have HO7 := qh (hk7.ownI HO6.out (fun _ _ e => by cases e)); have HK7 := qh (HK6.out.then hk7 (fun i e => by cases e)); clear hp7 ho7 hk7 hv7 hG hg7 hn7) | (refine wpList_appendN _ rfl _ _ rfl (.slice A1 K1.length c1) K1 rfl (OwnI.bel HO8.out (Below.alloc (Below.refl _ _) (Nat.le_refl _) _)) _ 1 1 [y] rfl Rd.one rfl (by omega) ?_; intro v9 w9 ho6 hg6 hn6; generalize hG : K1 ++ [y] = G at ho6; obtain ⟨A6, c6, rfl, -, -⟩ := Own.rd ho6; have HG := qh hG; obtain ⟨hp6, hk6, hv6⟩ := HP8.out.app (Below.alloc (Below.refl _ _) (Nat.le_refl _) _) HO8.out HB1.out hg6 hn6 ho6; have HV6 := qh (show ∀ g, (Value.slice A6 G.length c6).ownBlock = some g → (Value.slice none 0 0).ownBlock = some g ∨ w.heap.size ≤ g from fun g e => (hv6 g e).elim (HV1.out g) fun h => .inr (Nat.le_trans HK8.out.size h)); have HP9 := qh hp6; have HO9 := qh ho6; have HK9 := qh (HK8.out.then hk6 (fun i e => HV1.out i e)); clear hp6 ho6 hk6 hv6 hG hg6 hn6))) | (go_at_call 95; go_must (first | (refine (KNM.out _ (HP3.out.bel_ bl0)).mono ?_; clear KNM; rintro e w4 ⟨rfl, hp, hk⟩; have HO4 := qh (hk.ownI (OwnI.bel HO3.out bl0) (fun _ _ => id)); have HP4 := qh hp; have HK4 := qh (HK3.out.then ((KeepE.of_below X.B (fun _ => False) bl0).trans hk) (fun _ => False.elim)); clear hp hk))) | (go_at_call 55; go_must (first | (refine (KX.out _ (HP5.out.bel_ bl0)).mono ?_; clear KX; rintro e w6 ⟨rfl, hp, hk⟩; have HO6 := qh (hk.ownI (OwnI.bel HO5.out bl0) (fun _ _ => id)); have HP6 := qh hp; have HK6 := qh (HK5.out.then ((KeepE.of_below X.B (fun _ => False) bl0).trans hk) (fun _ => False.elim)); clear hp hk))) | (go_at_call 79; go_must (have hl1 : G1.length = 1 := (by rw [← HG1.out]; rfl); have hA1 : addP s4 22 (tokP X.L s2 0).at_ (nameP X.L s2).2 0 G1 = (s5, y) := (by rw [← HG1.out]; exact HA.out); have kadd := add_own HP7.out HN7.out (by omega) (by rw [← HG1.out]; exact HIX.out) 22 (tokP X.L s2 0).at_ 0 (nameP X.L s2).2 (by rw [hA1]; exact HLA.out); rw [hA1] at kadd; refine kadd.mono ?_); rintro e w8 ⟨rfl, hp, hk⟩; have HO8 := qh (hk.ownI HO7.out (fun _ _ => id)); have HP8 := qh (hp.less (F' := (withV F (.slice A1 K1.length c1))) (fun k hk => .inl hk)); have HK8 := qh (HK7.out.then hk (fun _ => False.elim)); clear hp hk) | (go_at_call 77; go_must (first | (refine (KE.out _ (HP4.out.bel_ bl0)).mono ?_; clear KE; rintro e w5 ⟨rfl, hp, hk⟩; have HO5 := qh (hk.ownI (OwnI.bel HO4.out bl0) (fun _ _ => id)); have HP5 := qh hp; have HK5 := qh (HK4.out.then ((KeepE.of_below X.B (fun _ => False) bl0).trans hk) (fun _ => False.elim)); clear hp hk) | (refine (KC.out _ _ (HP9.out.bel_ bl0)).mono ?_; clear KC; rintro e w10 ⟨rfl, hp, hk⟩; have HO10 := qh (hk.ownI (OwnI.bel HO9.out bl0) (fun _ _ => id)); have HP10 := qh hp; have HK10 := qh (HK9.out.then ((KeepE.of_below X.B (fun _ => False) bl0).trans hk) (fun _ => False.elim)); clear hp hk))))
        go_round
        case rel => exact ⟨m', _, G, true, A6, c6, rfl, rfl, qh (by rw [← HG.out]; exact HR3.out), HP10.out, HO10.out, HK10.out, HV6, qh (by rw [← HG.out]; exact HI3.out), by rw [← HG.out, List.length_append, HAD.out]; show K1.length + 1 ≤ _; omega⟩
        case measure =>
         have h1 := HP10.out.atW
         have h2 := HAD.out
         have h5 := HP10.out.at_
         omega
      | false =>
       rw [hyc] at hh kc
       simp only [Bool.false_eq_true, if_false] at hh
       obtain rfl := Option.some.inj hh
       have KM := qh (show ∀ F', Step X F' 81 #[X.p, .string gColon] (takeP X.L gComma s5).1 (.tuple #[]) (needP X.L gColon (takeP X.L gComma s5).1) from fun F' => need_step gColon (sml (by decide)))
       have KC := qh kc
       clear hh kc hyc hA ga hin3 lA gB hyq
       go_wp2_with fail
       go_region_held3 (fun w' => w'.cell? ⟨X.pb, 2, none⟩ = some (.int .i64 s2.at_)) (first | exact HC9.out | exact HC8.out _ | go_keep) (first | (go_at_call 76; refine (tok_step (s := s2) 0 (by omega) _ (HP2.out.bel_ bld)).mono ?_; rintro e w3 ⟨rfl, hp, hk⟩; have HC9 := qh hp.cells.1; have HC8 := qh (fun q => show (w3.drewN q).cell? ⟨X.pb, 2, none⟩ = some (.int .i64 s2.at_) from hp.cells.1); have hf := fldT (tokP X.L s2 0) w3; have hfq := (fun q : World => fldT (tokP X.L s2 0) q); have HO3 := qh (hk.ownI (OwnI.bel HO2.out bld) (fun _ _ => id)); have HP3 := qh hp; have HK3 := qh (HK2.out.then ((KeepE.of_below X.B (fun _ => False) bld).trans hk) (fun _ => False.elim)); clear hp hk))
       all_goals
        go_wp2_with (first | (at_builtin; go_must (first | (have hmk := HMARK.out; clear HMARK hmk; refine wpList_appendN _ rfl _ _ rfl (.slice none 0 0) [] rfl (OwnI.nil_ _) _ 1 1 [x] rfl Rd.one rfl (by simp) ?_; intro v7 w7 ho7 hg7 hn7; generalize hG : [] ++ [x] = G1 at ho7; obtain ⟨A7, c7, rfl, -, -⟩ := Own.rd ho7; have HG1 := qh hG; obtain ⟨hp7, hk7, hv7⟩ := (show PAt X (withV (withV F (.slice A1 K1.length c1)) (.slice none 0 0)) w6 s4 from HP6.out.bel (Below.refl _ _) (fun k hk => hk.elim .inl fun e => by cases e) (fun k hk => hk.elim (HP6.out.fl k) fun e => by cases e)).app (Below.alloc (Below.refl _ _) (Nat.le_refl _) _) (OwnI.nil_ _) (fun g e => by cases e) hg7 hn7 ho7; have HP7 := qh hp7; have HN7 := qh ho7; have HO7 := qh (hk7.ownI HO6.out (fun _ _ e => by cases e)); have HK7 := qh (HK6.out.then hk7 (fun i e => by cases e)); clear hp7 ho7 hk7 hv7 hG hg7 hn7) | (refine wpList_appendN _ rfl _ _ rfl (.slice A1 K1.length c1) K1 rfl (OwnI.bel HO8.out (Below.alloc (Below.refl _ _) (Nat.le_refl _) _)) _ 1 1 [y] rfl Rd.one rfl (by omega) ?_; intro v9 w9 ho6 hg6 hn6; generalize hG : K1 ++ [y] = G at ho6; obtain ⟨A6, c6, rfl, -, -⟩ := Own.rd ho6; have HG := qh hG; obtain ⟨hp6, hk6, hv6⟩ := HP8.out.app (Below.alloc (Below.refl _ _) (Nat.le_refl _) _) HO8.out HB1.out hg6 hn6 ho6; have HV6 := qh (show ∀ g, (Value.slice A6 G.length c6).ownBlock = some g → (Value.slice none 0 0).ownBlock = some g ∨ w.heap.size ≤ g from fun g e => (hv6 g e).elim (HV1.out g) fun h => .inr (Nat.le_trans HK8.out.size h)); have HP9 := qh hp6; have HO9 := qh ho6; have HK9 := qh (HK8.out.then hk6 (fun i e => HV1.out i e)); clear hp6 ho6 hk6 hv6 hG hg6 hn6))) | (go_at_call 95; go_must (first | (refine (KNM.out _ (HP3.out.bel_ bl0)).mono ?_; clear KNM; rintro e w4 ⟨rfl, hp, hk⟩; have HO4 := qh (hk.ownI (OwnI.bel HO3.out bl0) (fun _ _ => id)); have HP4 := qh hp; have HK4 := qh (HK3.out.then ((KeepE.of_below X.B (fun _ => False) bl0).trans hk) (fun _ => False.elim)); clear hp hk))) | (go_at_call 55; go_must (first | (refine (KX.out _ (HP5.out.bel_ bl0)).mono ?_; clear KX; rintro e w6 ⟨rfl, hp, hk⟩; have HO6 := qh (hk.ownI (OwnI.bel HO5.out bl0) (fun _ _ => id)); have HP6 := qh hp; have HK6 := qh (HK5.out.then ((KeepE.of_below X.B (fun _ => False) bl0).trans hk) (fun _ => False.elim)); clear hp hk))) | (go_at_call 79; go_must (have hl1 : G1.length = 1 := (by rw [← HG1.out]; rfl); have hA1 : addP s4 22 (tokP X.L s2 0).at_ (nameP X.L s2).2 0 G1 = (s5, y) := (by rw [← HG1.out]; exact HA.out); have kadd := add_own HP7.out HN7.out (by omega) (by rw [← HG1.out]; exact HIX.out) 22 (tokP X.L s2 0).at_ 0 (nameP X.L s2).2 (by rw [hA1]; exact HLA.out); rw [hA1] at kadd; refine kadd.mono ?_); rintro e w8 ⟨rfl, hp, hk⟩; have HO8 := qh (hk.ownI HO7.out (fun _ _ => id)); have HP8 := qh (hp.less (F' := (withV F (.slice A1 K1.length c1))) (fun k hk => .inl hk)); have HK8 := qh (HK7.out.then hk (fun _ => False.elim)); clear hp hk) | (go_at_call 77; go_must (first | (refine (KE.out _ (HP4.out.bel_ bl0)).mono ?_; clear KE; rintro e w5 ⟨rfl, hp, hk⟩; have HO5 := qh (hk.ownI (OwnI.bel HO4.out bl0) (fun _ _ => id)); have HP5 := qh hp; have HK5 := qh (HK4.out.then ((KeepE.of_below X.B (fun _ => False) bl0).trans hk) (fun _ => False.elim)); clear hp hk) | (refine (KC.out _ _ (HP9.out.bel_ bl0)).mono ?_; clear KC; rintro e w10 ⟨rfl, hp, hk⟩; have HO10 := qh (hk.ownI (OwnI.bel HO9.out bl0) (fun _ _ => id)); have HP10 := qh hp; have HK10 := qh (HK9.out.then ((KeepE.of_below X.B (fun _ => False) bl0).trans hk) (fun _ => False.elim)); clear hp hk))) | (go_at_call 81; go_must (first | (refine (KM.out _ _ (HP10.out.bel_ bl0)).mono ?_; clear KM; rintro e w11 ⟨rfl, hp, hk⟩; have HO11 := qh (hk.ownI (OwnI.bel HO10.out bl0) (fun _ _ => id)); have HP11 := qh hp; have HK11 := qh (HK10.out.then ((KeepE.of_below X.B (fun _ => False) bl0).trans hk) (fun _ => False.elim)); clear hp hk))))
        go_ret
        rw [HG.out]
        exact ⟨_, rfl, HO11.out, HP11.out, HK11.out, HV6.out⟩
     | false =>
      rw [hyq] at hh keq
      simp only [Bool.false_eq_true, if_false] at hh
      have KE := qh keq
      cases late with
      | true =>
       simp only [if_true] at hh
       have gf : Gr X.L.length 0 (takeP X.L gEq (nameP X.L s2).1).1 (failP (takeP X.L gEq (nameP X.L s2).1).1 30 s2.at_) := fail_gr (.inl rfl) rfl fun hq => by have := gn.up; have := gq.up; omega
       have KF := qh (show Step X (withV F (.slice A1 K1.length c1)) 96 #[X.p, .int .i64 30, .int .i64 s2.at_] (takeP X.L gEq (nameP X.L s2).1).1 (.int .i64 (-1)) (failP (takeP X.L gEq (nameP X.L s2).1).1 30 s2.at_) from fail_step 30 _)
       have gB := (gn.trans gq).trans gf
       clear gf
       obtain ⟨⟨s5, y⟩, hA⟩ : ∃ a, addP (failP (takeP X.L gEq (nameP X.L s2).1).1 30 s2.at_) 22 (tokP X.L s2 0).at_ (nameP X.L s2).2 0 [] = a := ⟨_, rfl⟩
       rw [hA] at hh
       have ga : Gd X.L.length 1 (failP (takeP X.L gEq (nameP X.L s2).1).1 30 s2.at_) (s5, y) := hA ▸ add_gd ..
       have lA : s5.ns.length ≤ 1099511627776 := Nat.le_trans (params_cap HGX.out (in_snoc (in_all HI2.out ((gB.trans ga.1).trans (take_gr (L := X.L) gComma))) (ga.2.mono (take_gr (L := X.L) gComma))) hh) HC.out
       have ka : Step X (withV F (.slice A1 K1.length c1)) 79 #[X.p, .int .i64 22, .int .i64 (tokP X.L s2 0).at_, .string (nameP X.L s2).2, .int .i64 0, .slice none 0 0] (failP (takeP X.L gEq (nameP X.L s2).1).1 30 s2.at_) (.int .i64 y) s5 := by
        have := add_step (X := X) (F := (withV F (.slice A1 K1.length c1))) (s := (failP (takeP X.L gEq (nameP X.L s2).1).1 30 s2.at_)) (op := 22) (at_ := (tokP X.L s2 0).at_) (n := 0) (t := (nameP X.L s2).2) (by rw [hA]; exact lA)
        rwa [hA] at this
       have KA := qh ka
       simp only at hh
       clear gn gq ka
       have HA := qh hA
       have gc := take_gr (L := X.L) (s := s5) gComma
       have kc : ∀ F', Step X F' 77 #[X.p, .string gComma] s5 (.bool (takeP X.L gComma s5).2) (takeP X.L gComma s5).1 := fun F' => take_step_ gComma (sml (by decide))
       have hin3 : ∀ k ∈ K1 ++ [y], In (takeP X.L gComma s5).1 k := in_snoc (in_all HI2.out ((gB.trans ga.1).trans gc)) (ga.2.mono gc)
       have HI3 := qh hin3
       have hup2 := (gB.trans ga.1).up
       clear gc
       cases hyc : (takeP X.L gComma s5).2 with
       | true =>
        rw [hyc] at hh kc
        simp only [if_true] at hh
        have hadv := any_adv (L := X.L) (s := s5) (l := [gComma]) hyc
        have HR3 := qh hh
        have KC := qh kc
        have HAD := qh (show (takeP X.L gComma s5).1.at_ = s5.at_ + 1 from hadv)
        clear hadv hh kc hyc hA ga hin3 lA gB hyq
        go_wp2_with fail
        go_region_held3 (fun w' => w'.cell? ⟨X.pb, 2, none⟩ = some (.int .i64 s2.at_)) (first | exact HC9.out | exact HC8.out _ | go_keep) (first | (go_at_call 76; refine (tok_step (s := s2) 0 (by omega) _ (HP2.out.bel_ bld)).mono ?_; rintro e w3 ⟨rfl, hp, hk⟩; have HC9 := qh hp.cells.1; have HC8 := qh (fun q => show (w3.drewN q).cell? ⟨X.pb, 2, none⟩ = some (.int .i64 s2.at_) from hp.cells.1); have hf := fldT (tokP X.L s2 0) w3; have hfq := (fun q : World => fldT (tokP X.L s2 0) q); have HO3 := qh (hk.ownI (OwnI.bel HO2.out bld) (fun _ _ => id)); have HP3 := qh hp; have HK3 := qh (HK2.out.then ((KeepE.of_below X.B (fun _ => False) bld).trans hk) (fun _ => False.elim)); clear hp hk))
        all_goals
         go_wp2_with (first | (at_builtin; go_must (first | (have hmk := HMARK.out; clear HMARK hmk; refine wpList_appendN _ rfl _ _ rfl (.slice none 0 0) [] rfl (OwnI.nil_ _) _ 1 1 [x] rfl Rd.one rfl (by simp) ?_; intro v7 w7 ho7 hg7 hn7; generalize hG : [] ++ [x] = G1 at ho7; obtain ⟨A7, c7, rfl, -, -⟩ := Own.rd ho7; have HG1 := qh hG; obtain ⟨hp7, hk7, hv7⟩ := (show PAt X (withV (withV F (.slice A1 K1.length c1)) (.slice none 0 0)) w6 s4 from HP6.out.bel (Below.refl _ _) (fun k hk => hk.elim .inl fun e => by cases e) (fun k hk => hk.elim (HP6.out.fl k) fun e => by cases e)).app (Below.alloc (Below.refl _ _) (Nat.le_refl _) _) (OwnI.nil_ _) (fun g e => by cases e) hg7 hn7 ho7; have HP7 := qh hp7; have HN7 := qh ho7; have HO7 := qh (hk7.ownI HO6.out (fun _ _ e => by cases e)); have HK7 := qh (HK6.out.then hk7 (fun i e => by cases e)); clear hp7 ho7 hk7 hv7 hG hg7 hn7) | (refine wpList_appendN _ rfl _ _ rfl (.slice A1 K1.length c1) K1 rfl (OwnI.bel HO8.out (Below.alloc (Below.refl _ _) (Nat.le_refl _) _)) _ 1 1 [y] rfl Rd.one rfl (by omega) ?_; intro v9 w9 ho6 hg6 hn6; generalize hG : K1 ++ [y] = G at ho6; obtain ⟨A6, c6, rfl, -, -⟩ := Own.rd ho6; have HG := qh hG; obtain ⟨hp6, hk6, hv6⟩ := HP8.out.app (Below.alloc (Below.refl _ _) (Nat.le_refl _) _) HO8.out HB1.out hg6 hn6 ho6; have HV6 := qh (show ∀ g, (Value.slice A6 G.length c6).ownBlock = some g → (Value.slice none 0 0).ownBlock = some g ∨ w.heap.size ≤ g from fun g e => (hv6 g e).elim (HV1.out g) fun h => .inr (Nat.le_trans HK8.out.size h)); have HP9 := qh hp6; have HO9 := qh ho6; have HK9 := qh (HK8.out.then hk6 (fun i e => HV1.out i e)); clear hp6 ho6 hk6 hv6 hG hg6 hn6))) | (go_at_call 95; go_must (first | (refine (KNM.out _ (HP3.out.bel_ bl0)).mono ?_; clear KNM; rintro e w4 ⟨rfl, hp, hk⟩; have HO4 := qh (hk.ownI (OwnI.bel HO3.out bl0) (fun _ _ => id)); have HP4 := qh hp; have HK4 := qh (HK3.out.then ((KeepE.of_below X.B (fun _ => False) bl0).trans hk) (fun _ => False.elim)); clear hp hk))) | (go_at_call 96; go_must (first | (refine (KF.out _ (HP5.out.bel_ bl0)).mono ?_; clear KF; rintro e w6 ⟨rfl, hp, hk⟩; have HO6 := qh (hk.ownI (OwnI.bel HO5.out bl0) (fun _ _ => id)); have HP6 := qh hp; have HK6 := qh (HK5.out.then ((KeepE.of_below X.B (fun _ => False) bl0).trans hk) (fun _ => False.elim)); clear hp hk))) | (go_at_call 79; go_must (first | (refine (KA.out _ (HP6.out.bel_ bl0)).mono ?_; clear KA; rintro e w8 ⟨rfl, hp, hk⟩; have HO8 := qh (hk.ownI (OwnI.bel HO6.out bl0) (fun _ _ => id)); have HP8 := qh hp; have HK8 := qh (HK6.out.then ((KeepE.of_below X.B (fun _ => False) bl0).trans hk) (fun _ => False.elim)); clear hp hk))) | (go_at_call 77; go_must (first | (refine (KE.out _ (HP4.out.bel_ bl0)).mono ?_; clear KE; rintro e w5 ⟨rfl, hp, hk⟩; have HO5 := qh (hk.ownI (OwnI.bel HO4.out bl0) (fun _ _ => id)); have HP5 := qh hp; have HK5 := qh (HK4.out.then ((KeepE.of_below X.B (fun _ => False) bl0).trans hk) (fun _ => False.elim)); clear hp hk) | (refine (KC.out _ _ (HP9.out.bel_ bl0)).mono ?_; clear KC; rintro e w10 ⟨rfl, hp, hk⟩; have HO10 := qh (hk.ownI (OwnI.bel HO9.out bl0) (fun _ _ => id)); have HP10 := qh hp; have HK10 := qh (HK9.out.then ((KeepE.of_below X.B (fun _ => False) bl0).trans hk) (fun _ => False.elim)); clear hp hk))))
         go_round
         case rel => exact ⟨m', _, G, true, A6, c6, rfl, rfl, qh (by rw [← HG.out]; exact HR3.out), HP10.out, HO10.out, HK10.out, HV6, qh (by rw [← HG.out]; exact HI3.out), by rw [← HG.out, List.length_append, HAD.out]; show K1.length + 1 ≤ _; omega⟩
         case measure =>
          have h1 := HP10.out.atW
          have h2 := HAD.out
          have h5 := HP10.out.at_
          omega
       | false =>
        rw [hyc] at hh kc
        simp only [Bool.false_eq_true, if_false] at hh
        obtain rfl := Option.some.inj hh
        have KM := qh (show ∀ F', Step X F' 81 #[X.p, .string gColon] (takeP X.L gComma s5).1 (.tuple #[]) (needP X.L gColon (takeP X.L gComma s5).1) from fun F' => need_step gColon (sml (by decide)))
        have KC := qh kc
        clear hh kc hyc hA ga hin3 lA gB hyq
        go_wp2_with fail
        go_region_held3 (fun w' => w'.cell? ⟨X.pb, 2, none⟩ = some (.int .i64 s2.at_)) (first | exact HC9.out | exact HC8.out _ | go_keep) (first | (go_at_call 76; refine (tok_step (s := s2) 0 (by omega) _ (HP2.out.bel_ bld)).mono ?_; rintro e w3 ⟨rfl, hp, hk⟩; have HC9 := qh hp.cells.1; have HC8 := qh (fun q => show (w3.drewN q).cell? ⟨X.pb, 2, none⟩ = some (.int .i64 s2.at_) from hp.cells.1); have hf := fldT (tokP X.L s2 0) w3; have hfq := (fun q : World => fldT (tokP X.L s2 0) q); have HO3 := qh (hk.ownI (OwnI.bel HO2.out bld) (fun _ _ => id)); have HP3 := qh hp; have HK3 := qh (HK2.out.then ((KeepE.of_below X.B (fun _ => False) bld).trans hk) (fun _ => False.elim)); clear hp hk))
        all_goals
         go_wp2_with (first | (at_builtin; go_must (first | (have hmk := HMARK.out; clear HMARK hmk; refine wpList_appendN _ rfl _ _ rfl (.slice none 0 0) [] rfl (OwnI.nil_ _) _ 1 1 [x] rfl Rd.one rfl (by simp) ?_; intro v7 w7 ho7 hg7 hn7; generalize hG : [] ++ [x] = G1 at ho7; obtain ⟨A7, c7, rfl, -, -⟩ := Own.rd ho7; have HG1 := qh hG; obtain ⟨hp7, hk7, hv7⟩ := (show PAt X (withV (withV F (.slice A1 K1.length c1)) (.slice none 0 0)) w6 s4 from HP6.out.bel (Below.refl _ _) (fun k hk => hk.elim .inl fun e => by cases e) (fun k hk => hk.elim (HP6.out.fl k) fun e => by cases e)).app (Below.alloc (Below.refl _ _) (Nat.le_refl _) _) (OwnI.nil_ _) (fun g e => by cases e) hg7 hn7 ho7; have HP7 := qh hp7; have HN7 := qh ho7; have HO7 := qh (hk7.ownI HO6.out (fun _ _ e => by cases e)); have HK7 := qh (HK6.out.then hk7 (fun i e => by cases e)); clear hp7 ho7 hk7 hv7 hG hg7 hn7) | (refine wpList_appendN _ rfl _ _ rfl (.slice A1 K1.length c1) K1 rfl (OwnI.bel HO8.out (Below.alloc (Below.refl _ _) (Nat.le_refl _) _)) _ 1 1 [y] rfl Rd.one rfl (by omega) ?_; intro v9 w9 ho6 hg6 hn6; generalize hG : K1 ++ [y] = G at ho6; obtain ⟨A6, c6, rfl, -, -⟩ := Own.rd ho6; have HG := qh hG; obtain ⟨hp6, hk6, hv6⟩ := HP8.out.app (Below.alloc (Below.refl _ _) (Nat.le_refl _) _) HO8.out HB1.out hg6 hn6 ho6; have HV6 := qh (show ∀ g, (Value.slice A6 G.length c6).ownBlock = some g → (Value.slice none 0 0).ownBlock = some g ∨ w.heap.size ≤ g from fun g e => (hv6 g e).elim (HV1.out g) fun h => .inr (Nat.le_trans HK8.out.size h)); have HP9 := qh hp6; have HO9 := qh ho6; have HK9 := qh (HK8.out.then hk6 (fun i e => HV1.out i e)); clear hp6 ho6 hk6 hv6 hG hg6 hn6))) | (go_at_call 95; go_must (first | (refine (KNM.out _ (HP3.out.bel_ bl0)).mono ?_; clear KNM; rintro e w4 ⟨rfl, hp, hk⟩; have HO4 := qh (hk.ownI (OwnI.bel HO3.out bl0) (fun _ _ => id)); have HP4 := qh hp; have HK4 := qh (HK3.out.then ((KeepE.of_below X.B (fun _ => False) bl0).trans hk) (fun _ => False.elim)); clear hp hk))) | (go_at_call 96; go_must (first | (refine (KF.out _ (HP5.out.bel_ bl0)).mono ?_; clear KF; rintro e w6 ⟨rfl, hp, hk⟩; have HO6 := qh (hk.ownI (OwnI.bel HO5.out bl0) (fun _ _ => id)); have HP6 := qh hp; have HK6 := qh (HK5.out.then ((KeepE.of_below X.B (fun _ => False) bl0).trans hk) (fun _ => False.elim)); clear hp hk))) | (go_at_call 79; go_must (first | (refine (KA.out _ (HP6.out.bel_ bl0)).mono ?_; clear KA; rintro e w8 ⟨rfl, hp, hk⟩; have HO8 := qh (hk.ownI (OwnI.bel HO6.out bl0) (fun _ _ => id)); have HP8 := qh hp; have HK8 := qh (HK6.out.then ((KeepE.of_below X.B (fun _ => False) bl0).trans hk) (fun _ => False.elim)); clear hp hk))) | (go_at_call 77; go_must (first | (refine (KE.out _ (HP4.out.bel_ bl0)).mono ?_; clear KE; rintro e w5 ⟨rfl, hp, hk⟩; have HO5 := qh (hk.ownI (OwnI.bel HO4.out bl0) (fun _ _ => id)); have HP5 := qh hp; have HK5 := qh (HK4.out.then ((KeepE.of_below X.B (fun _ => False) bl0).trans hk) (fun _ => False.elim)); clear hp hk) | (refine (KC.out _ _ (HP9.out.bel_ bl0)).mono ?_; clear KC; rintro e w10 ⟨rfl, hp, hk⟩; have HO10 := qh (hk.ownI (OwnI.bel HO9.out bl0) (fun _ _ => id)); have HP10 := qh hp; have HK10 := qh (HK9.out.then ((KeepE.of_below X.B (fun _ => False) bl0).trans hk) (fun _ => False.elim)); clear hp hk))) | (go_at_call 81; go_must (first | (refine (KM.out _ _ (HP10.out.bel_ bl0)).mono ?_; clear KM; rintro e w11 ⟨rfl, hp, hk⟩; have HO11 := qh (hk.ownI (OwnI.bel HO10.out bl0) (fun _ _ => id)); have HP11 := qh hp; have HK11 := qh (HK10.out.then ((KeepE.of_below X.B (fun _ => False) bl0).trans hk) (fun _ => False.elim)); clear hp hk))))
         go_ret
         rw [HG.out]
         exact ⟨_, rfl, HO11.out, HP11.out, HK11.out, HV6.out⟩
      | false =>
       simp only [Bool.false_eq_true, if_false] at hh
       have gB := gn.trans gq
       obtain ⟨⟨s5, y⟩, hA⟩ : ∃ a, addP (takeP X.L gEq (nameP X.L s2).1).1 22 (tokP X.L s2 0).at_ (nameP X.L s2).2 0 [] = a := ⟨_, rfl⟩
       rw [hA] at hh
       have ga : Gd X.L.length 1 (takeP X.L gEq (nameP X.L s2).1).1 (s5, y) := hA ▸ add_gd ..
       have lA : s5.ns.length ≤ 1099511627776 := Nat.le_trans (params_cap HGX.out (in_snoc (in_all HI2.out ((gB.trans ga.1).trans (take_gr (L := X.L) gComma))) (ga.2.mono (take_gr (L := X.L) gComma))) hh) HC.out
       have ka : Step X (withV F (.slice A1 K1.length c1)) 79 #[X.p, .int .i64 22, .int .i64 (tokP X.L s2 0).at_, .string (nameP X.L s2).2, .int .i64 0, .slice none 0 0] (takeP X.L gEq (nameP X.L s2).1).1 (.int .i64 y) s5 := by
        have := add_step (X := X) (F := (withV F (.slice A1 K1.length c1))) (s := (takeP X.L gEq (nameP X.L s2).1).1) (op := 22) (at_ := (tokP X.L s2 0).at_) (n := 0) (t := (nameP X.L s2).2) (by rw [hA]; exact lA)
        rwa [hA] at this
       have KA := qh ka
       simp only at hh
       clear gn gq ka
       have HA := qh hA
       have gc := take_gr (L := X.L) (s := s5) gComma
       have kc : ∀ F', Step X F' 77 #[X.p, .string gComma] s5 (.bool (takeP X.L gComma s5).2) (takeP X.L gComma s5).1 := fun F' => take_step_ gComma (sml (by decide))
       have hin3 : ∀ k ∈ K1 ++ [y], In (takeP X.L gComma s5).1 k := in_snoc (in_all HI2.out ((gB.trans ga.1).trans gc)) (ga.2.mono gc)
       have HI3 := qh hin3
       have hup2 := (gB.trans ga.1).up
       clear gc
       cases hyc : (takeP X.L gComma s5).2 with
       | true =>
        rw [hyc] at hh kc
        simp only [if_true] at hh
        have hadv := any_adv (L := X.L) (s := s5) (l := [gComma]) hyc
        have HR3 := qh hh
        have KC := qh kc
        have HAD := qh (show (takeP X.L gComma s5).1.at_ = s5.at_ + 1 from hadv)
        clear hadv hh kc hyc hA ga hin3 lA gB hyq
        go_wp2_with fail
        go_region_held3 (fun w' => w'.cell? ⟨X.pb, 2, none⟩ = some (.int .i64 s2.at_)) (first | exact HC9.out | exact HC8.out _ | go_keep) (first | (go_at_call 76; refine (tok_step (s := s2) 0 (by omega) _ (HP2.out.bel_ bld)).mono ?_; rintro e w3 ⟨rfl, hp, hk⟩; have HC9 := qh hp.cells.1; have HC8 := qh (fun q => show (w3.drewN q).cell? ⟨X.pb, 2, none⟩ = some (.int .i64 s2.at_) from hp.cells.1); have hf := fldT (tokP X.L s2 0) w3; have hfq := (fun q : World => fldT (tokP X.L s2 0) q); have HO3 := qh (hk.ownI (OwnI.bel HO2.out bld) (fun _ _ => id)); have HP3 := qh hp; have HK3 := qh (HK2.out.then ((KeepE.of_below X.B (fun _ => False) bld).trans hk) (fun _ => False.elim)); clear hp hk))
        all_goals
         go_wp2_with (first | (at_builtin; go_must (first | (have hmk := HMARK.out; clear HMARK hmk; refine wpList_appendN _ rfl _ _ rfl (.slice none 0 0) [] rfl (OwnI.nil_ _) _ 1 1 [x] rfl Rd.one rfl (by simp) ?_; intro v7 w7 ho7 hg7 hn7; generalize hG : [] ++ [x] = G1 at ho7; obtain ⟨A7, c7, rfl, -, -⟩ := Own.rd ho7; have HG1 := qh hG; obtain ⟨hp7, hk7, hv7⟩ := (show PAt X (withV (withV F (.slice A1 K1.length c1)) (.slice none 0 0)) w6 s4 from HP6.out.bel (Below.refl _ _) (fun k hk => hk.elim .inl fun e => by cases e) (fun k hk => hk.elim (HP6.out.fl k) fun e => by cases e)).app (Below.alloc (Below.refl _ _) (Nat.le_refl _) _) (OwnI.nil_ _) (fun g e => by cases e) hg7 hn7 ho7; have HP7 := qh hp7; have HN7 := qh ho7; have HO7 := qh (hk7.ownI HO6.out (fun _ _ e => by cases e)); have HK7 := qh (HK6.out.then hk7 (fun i e => by cases e)); clear hp7 ho7 hk7 hv7 hG hg7 hn7) | (refine wpList_appendN _ rfl _ _ rfl (.slice A1 K1.length c1) K1 rfl (OwnI.bel HO8.out (Below.alloc (Below.refl _ _) (Nat.le_refl _) _)) _ 1 1 [y] rfl Rd.one rfl (by omega) ?_; intro v9 w9 ho6 hg6 hn6; generalize hG : K1 ++ [y] = G at ho6; obtain ⟨A6, c6, rfl, -, -⟩ := Own.rd ho6; have HG := qh hG; obtain ⟨hp6, hk6, hv6⟩ := HP8.out.app (Below.alloc (Below.refl _ _) (Nat.le_refl _) _) HO8.out HB1.out hg6 hn6 ho6; have HV6 := qh (show ∀ g, (Value.slice A6 G.length c6).ownBlock = some g → (Value.slice none 0 0).ownBlock = some g ∨ w.heap.size ≤ g from fun g e => (hv6 g e).elim (HV1.out g) fun h => .inr (Nat.le_trans HK8.out.size h)); have HP9 := qh hp6; have HO9 := qh ho6; have HK9 := qh (HK8.out.then hk6 (fun i e => HV1.out i e)); clear hp6 ho6 hk6 hv6 hG hg6 hn6))) | (go_at_call 95; go_must (first | (refine (KNM.out _ (HP3.out.bel_ bl0)).mono ?_; clear KNM; rintro e w4 ⟨rfl, hp, hk⟩; have HO4 := qh (hk.ownI (OwnI.bel HO3.out bl0) (fun _ _ => id)); have HP4 := qh hp; have HK4 := qh (HK3.out.then ((KeepE.of_below X.B (fun _ => False) bl0).trans hk) (fun _ => False.elim)); clear hp hk))) | (go_at_call 79; go_must (first | (refine (KA.out _ (HP5.out.bel_ bl0)).mono ?_; clear KA; rintro e w8 ⟨rfl, hp, hk⟩; have HO8 := qh (hk.ownI (OwnI.bel HO5.out bl0) (fun _ _ => id)); have HP8 := qh hp; have HK8 := qh (HK5.out.then ((KeepE.of_below X.B (fun _ => False) bl0).trans hk) (fun _ => False.elim)); clear hp hk))) | (go_at_call 77; go_must (first | (refine (KE.out _ (HP4.out.bel_ bl0)).mono ?_; clear KE; rintro e w5 ⟨rfl, hp, hk⟩; have HO5 := qh (hk.ownI (OwnI.bel HO4.out bl0) (fun _ _ => id)); have HP5 := qh hp; have HK5 := qh (HK4.out.then ((KeepE.of_below X.B (fun _ => False) bl0).trans hk) (fun _ => False.elim)); clear hp hk) | (refine (KC.out _ _ (HP9.out.bel_ bl0)).mono ?_; clear KC; rintro e w10 ⟨rfl, hp, hk⟩; have HO10 := qh (hk.ownI (OwnI.bel HO9.out bl0) (fun _ _ => id)); have HP10 := qh hp; have HK10 := qh (HK9.out.then ((KeepE.of_below X.B (fun _ => False) bl0).trans hk) (fun _ => False.elim)); clear hp hk))))
         go_round
         case rel => exact ⟨m', _, G, false, A6, c6, rfl, rfl, qh (by rw [← HG.out]; exact HR3.out), HP10.out, HO10.out, HK10.out, HV6, qh (by rw [← HG.out]; exact HI3.out), by rw [← HG.out, List.length_append, HAD.out]; show K1.length + 1 ≤ _; omega⟩
         case measure =>
          have h1 := HP10.out.atW
          have h2 := HAD.out
          have h5 := HP10.out.at_
          omega
       | false =>
        rw [hyc] at hh kc
        simp only [Bool.false_eq_true, if_false] at hh
        obtain rfl := Option.some.inj hh
        have KM := qh (show ∀ F', Step X F' 81 #[X.p, .string gColon] (takeP X.L gComma s5).1 (.tuple #[]) (needP X.L gColon (takeP X.L gComma s5).1) from fun F' => need_step gColon (sml (by decide)))
        have KC := qh kc
        clear hh kc hyc hA ga hin3 lA gB hyq
        go_wp2_with fail
        go_region_held3 (fun w' => w'.cell? ⟨X.pb, 2, none⟩ = some (.int .i64 s2.at_)) (first | exact HC9.out | exact HC8.out _ | go_keep) (first | (go_at_call 76; refine (tok_step (s := s2) 0 (by omega) _ (HP2.out.bel_ bld)).mono ?_; rintro e w3 ⟨rfl, hp, hk⟩; have HC9 := qh hp.cells.1; have HC8 := qh (fun q => show (w3.drewN q).cell? ⟨X.pb, 2, none⟩ = some (.int .i64 s2.at_) from hp.cells.1); have hf := fldT (tokP X.L s2 0) w3; have hfq := (fun q : World => fldT (tokP X.L s2 0) q); have HO3 := qh (hk.ownI (OwnI.bel HO2.out bld) (fun _ _ => id)); have HP3 := qh hp; have HK3 := qh (HK2.out.then ((KeepE.of_below X.B (fun _ => False) bld).trans hk) (fun _ => False.elim)); clear hp hk))
        all_goals
         go_wp2_with (first | (at_builtin; go_must (first | (have hmk := HMARK.out; clear HMARK hmk; refine wpList_appendN _ rfl _ _ rfl (.slice none 0 0) [] rfl (OwnI.nil_ _) _ 1 1 [x] rfl Rd.one rfl (by simp) ?_; intro v7 w7 ho7 hg7 hn7; generalize hG : [] ++ [x] = G1 at ho7; obtain ⟨A7, c7, rfl, -, -⟩ := Own.rd ho7; have HG1 := qh hG; obtain ⟨hp7, hk7, hv7⟩ := (show PAt X (withV (withV F (.slice A1 K1.length c1)) (.slice none 0 0)) w6 s4 from HP6.out.bel (Below.refl _ _) (fun k hk => hk.elim .inl fun e => by cases e) (fun k hk => hk.elim (HP6.out.fl k) fun e => by cases e)).app (Below.alloc (Below.refl _ _) (Nat.le_refl _) _) (OwnI.nil_ _) (fun g e => by cases e) hg7 hn7 ho7; have HP7 := qh hp7; have HN7 := qh ho7; have HO7 := qh (hk7.ownI HO6.out (fun _ _ e => by cases e)); have HK7 := qh (HK6.out.then hk7 (fun i e => by cases e)); clear hp7 ho7 hk7 hv7 hG hg7 hn7) | (refine wpList_appendN _ rfl _ _ rfl (.slice A1 K1.length c1) K1 rfl (OwnI.bel HO8.out (Below.alloc (Below.refl _ _) (Nat.le_refl _) _)) _ 1 1 [y] rfl Rd.one rfl (by omega) ?_; intro v9 w9 ho6 hg6 hn6; generalize hG : K1 ++ [y] = G at ho6; obtain ⟨A6, c6, rfl, -, -⟩ := Own.rd ho6; have HG := qh hG; obtain ⟨hp6, hk6, hv6⟩ := HP8.out.app (Below.alloc (Below.refl _ _) (Nat.le_refl _) _) HO8.out HB1.out hg6 hn6 ho6; have HV6 := qh (show ∀ g, (Value.slice A6 G.length c6).ownBlock = some g → (Value.slice none 0 0).ownBlock = some g ∨ w.heap.size ≤ g from fun g e => (hv6 g e).elim (HV1.out g) fun h => .inr (Nat.le_trans HK8.out.size h)); have HP9 := qh hp6; have HO9 := qh ho6; have HK9 := qh (HK8.out.then hk6 (fun i e => HV1.out i e)); clear hp6 ho6 hk6 hv6 hG hg6 hn6))) | (go_at_call 95; go_must (first | (refine (KNM.out _ (HP3.out.bel_ bl0)).mono ?_; clear KNM; rintro e w4 ⟨rfl, hp, hk⟩; have HO4 := qh (hk.ownI (OwnI.bel HO3.out bl0) (fun _ _ => id)); have HP4 := qh hp; have HK4 := qh (HK3.out.then ((KeepE.of_below X.B (fun _ => False) bl0).trans hk) (fun _ => False.elim)); clear hp hk))) | (go_at_call 79; go_must (first | (refine (KA.out _ (HP5.out.bel_ bl0)).mono ?_; clear KA; rintro e w8 ⟨rfl, hp, hk⟩; have HO8 := qh (hk.ownI (OwnI.bel HO5.out bl0) (fun _ _ => id)); have HP8 := qh hp; have HK8 := qh (HK5.out.then ((KeepE.of_below X.B (fun _ => False) bl0).trans hk) (fun _ => False.elim)); clear hp hk))) | (go_at_call 77; go_must (first | (refine (KE.out _ (HP4.out.bel_ bl0)).mono ?_; clear KE; rintro e w5 ⟨rfl, hp, hk⟩; have HO5 := qh (hk.ownI (OwnI.bel HO4.out bl0) (fun _ _ => id)); have HP5 := qh hp; have HK5 := qh (HK4.out.then ((KeepE.of_below X.B (fun _ => False) bl0).trans hk) (fun _ => False.elim)); clear hp hk) | (refine (KC.out _ _ (HP9.out.bel_ bl0)).mono ?_; clear KC; rintro e w10 ⟨rfl, hp, hk⟩; have HO10 := qh (hk.ownI (OwnI.bel HO9.out bl0) (fun _ _ => id)); have HP10 := qh hp; have HK10 := qh (HK9.out.then ((KeepE.of_below X.B (fun _ => False) bl0).trans hk) (fun _ => False.elim)); clear hp hk))) | (go_at_call 81; go_must (first | (refine (KM.out _ _ (HP10.out.bel_ bl0)).mono ?_; clear KM; rintro e w11 ⟨rfl, hp, hk⟩; have HO11 := qh (hk.ownI (OwnI.bel HO10.out bl0) (fun _ _ => id)); have HP11 := qh hp; have HK11 := qh (HK10.out.then ((KeepE.of_below X.B (fun _ => False) bl0).trans hk) (fun _ => False.elim)); clear hp hk))))
         go_ret
         rw [HG.out]
         exact ⟨_, rfl, HO11.out, HP11.out, HK11.out, HV6.out⟩
   ·rw [if_pos he] at hh
    obtain rfl := Option.some.inj hh
    have he' : (s1.e == 0) = false := by simpa using he
    clear hh
    go_wp2_with fail
    go_ret
    exact ⟨_, rfl, HO1.out, HP1.out, HK1.out, HV1.out⟩
end Go.Proofs.YtjdcicopjipmnaaDoor
