/- pairs: a dict's pairs. -/
import Derived.Test.YtjdcicopjipmnaaDoorRow
namespace Go.Proofs.YtjdcicopjipmnaaDoor
open Go.RowKit
set_option linter.unusedVariables false
set_option linter.unusedSimpArgs false
set_option maxRecDepth 100000 in
set_option maxHeartbeats 4000000 in
theorem pairs_any {X : Cx} {ex : Ex} (hex : Part X 55 ex) (hgx : GdE X.L.length ex) {F : Nat → Prop} {w : World} {s : PS} {m : Nat} {r : PS × List Int} (h : PAt X F w s) (hr : pairsE ex X.L m s [] = some r) (hc : r.1.ns.length ≤ 1099511627776) :
    Calls Tryd.prog 115 #[X.p] w (RetL X F w (.slice none 0 0) r) := by
  unfold RetL
  have HP0 := Lib.hid h
  have HR0 := Lib.hid hr
  have HC := Lib.hid hc
  have HEX := Lib.hid hex
  have HGX := Lib.hid hgx
  obtain ⟨c2, c4, c5, hlt⟩ := h.cells
  clear h hr hc hex hgx
  go_enter Tryd.func115, Tryd.ntmps115
  go_wp2_with fail
  go_loopw [2] (fun v wr => ∃ (m : Nat) (s1 : PS) (K1 : List Int) (A1 : Option Addr) (c1 : Nat), v = .slice A1 K1.length c1 ∧ Hid (pairsE ex X.L m s1 K1 = some r) ∧ PAt X (withV F (.slice A1 K1.length c1)) wr s1 ∧ OwnI wr (.slice A1 K1.length c1) K1 ∧ KeepE X.B (fun k => (Value.slice none 0 0).ownBlock = some k) w wr ∧ Hid (∀ g, (Value.slice A1 K1.length c1).ownBlock = some g → (Value.slice none 0 0).ownBlock = some g ∨ w.heap.size ≤ g) ∧ Hid (∀ k ∈ K1, In s1 k) ∧ K1.length ≤ 2 * s1.at_) (fun _ wr => X.n + 1 - atW X.pb wr)
  case atStart => exact ⟨m, s, [], none, 0, rfl, HR0, HP0.out.bel (Below.refl _ _) (fun k hk => hk.elim .inl fun e => by cases e) (fun k hk => hk.elim (HP0.out.fl k) fun e => by cases e), OwnI.nil_ _, KeepE.refl _ _ _, Lib.hid fun g e => .inl e, Lib.hid (fun k hk => by cases hk), by simp⟩
  case round =>
    obtain ⟨m', s1, K1, A1, c1, rfl, HR1, hp1, ho1, hk1, HV1, HI1, hl1⟩ := hrel
    have hh := HR1.out
    have HP1 := Lib.hid hp1
    have HO1 := Lib.hid ho1
    have HK1 := Lib.hid hk1
    obtain ⟨c2, c4, c5, hlt⟩ := hp1.cells
    have hat := hp1.atW
    have han := hp1.at_
    have hbn := hp1.big
    clear hp1 ho1 hk1
    cases m' with
    | zero => cases hh
    | succ m' =>
      unfold pairsE at hh
      by_cases he : s1.e = 0
      · rw [if_neg (by simpa using he)] at hh
        rw [he] at c4
        have kt : Step X (withV F (.slice A1 K1.length c1)) 77 #[X.p, .string gRc] s1 (.bool (takeP X.L gRc s1).2) (takeP X.L gRc s1).1 := take_step_ gRc (sml (by decide))
        cases hy : (takeP X.L gRc s1).2 with
        | true =>
          rw [hy] at hh kt
          simp only [if_true] at hh
          obtain rfl := Option.some.inj hh
          have K0 := Lib.hid kt
          clear hh kt hy
          go_wp2_with (go_at_call 77; go_must (first | (refine (K0.out _ HP1.out).mono ?_; clear K0; rintro e w3 ⟨rfl, hp, hk⟩; have HO3 := Lib.hid (hk.ownI HO1.out (fun _ _ => id)); have HP3 := Lib.hid hp; have HK3 := Lib.hid (HK1.out.then hk (fun _ => False.elim)); clear hp hk)))
          go_ret
          exact ⟨_, rfl, HO3.out, HP3.out, HK3.out, HV1.out⟩
        | false =>
          rw [hy] at hh kt
          simp only [Bool.false_eq_true, if_false] at hh
          split at hh
          · cases hh
          rename_i s2 x hx
          split at hh
          · cases hh
          rename_i s3 y hy3
          have g0 := take_gr (L := X.L) (s := s1) gRc
          obtain ⟨g1, i1⟩ := HGX.out _ _ hx
          have g2 := need_gr (L := X.L) (s := s2) gColon
          obtain ⟨g3, i3⟩ := HGX.out _ _ hy3
          have g4 := ((g0.trans g1).trans g2).trans g3
          have gc := take_gr (L := X.L) (s := s3) gComma
          have hup := g4.up
          have HB1 : Hid (∀ g, (Value.slice A1 K1.length c1).ownBlock = some g → X.B ≤ g) := Lib.hid fun g e => (HV1.out g e).elim (fun e => by cases e) fun h => Nat.le_trans HP0.out.wB h
          have kc : ∀ F', Step X F' 77 #[X.p, .string gComma] s3 (.bool (takeP X.L gComma s3).2) (takeP X.L gComma s3).1 := fun F' => take_step_ gComma (sml (by decide))
          have hin3 : ∀ k ∈ K1 ++ [x, y], In (takeP X.L gComma s3).1 k := by
            have := in_snoc (in_snoc (in_all HI1.out (g4.trans gc)) (i1.mono ((g2.trans g3).trans gc))) (i3.mono gc)
            rwa [List.append_assoc] at this
          have HI3 := Lib.hid hin3
          have l3 := g3.lenle
          have l2 := g2.lenle
          have l1 := gc.lenle
          simp only at l3 l2 hup
          have KN := Lib.hid (show Step X (withV F (.slice A1 K1.length c1)) 81 #[X.p, .string gColon] s2 (.tuple #[]) (needP X.L gColon s2) from need_step gColon (sml (by decide)))
          cases hy2 : (takeP X.L gComma s3).2 with
          | true =>
            rw [hy2] at hh kc
            simp only [if_true] at hh
            have lc := (pairsE_gl HGX.out m' _ _ _ hin3 hh).1.lenle
            have hcc := HC.out
            have KX := Lib.hid (HEX.out (withV F (.slice A1 K1.length c1)) _ (s2, x) hx (by simp only; omega))
            have KY := Lib.hid (HEX.out (withV F (.slice A1 K1.length c1)) _ (s3, y) hy3 (by simp only; omega))
            have hadv := any_adv (L := X.L) (s := s3) (l := [gComma]) hy2
            have HR3 := Lib.hid hh
            have K0 := Lib.hid kt
            have KC := Lib.hid kc
            have HAD := Lib.hid (show (takeP X.L gComma s3).1.at_ = s3.at_ + 1 from hadv)
            clear hh kt hy hy2 g0 g1 g2 g3 g4 gc i1 i3 hin3 kc lc l1 l2 l3 hcc hx hy3 hadv
            go_wp2_with (first | (at_builtin; go_must (refine wpList_appendN _ rfl _ _ rfl (.slice A1 K1.length c1) K1 rfl (HO6.out.bel (Below.alloc (Below.refl _ _) (Nat.le_refl _) _)) _ 2 2 [x, y] rfl (Rd.ints _ [x, y] _ 2 rfl rfl (by omega)) rfl (by omega) ?_); intro v6 w7 ho6 hg6 hn6; generalize hG : K1 ++ [x, y] = G at ho6; obtain ⟨A6, c6, rfl, -, -⟩ := Own.rd ho6; have HG := Lib.hid hG; obtain ⟨hp6, hk6, hv6⟩ := HP6.out.app (Below.alloc (Below.refl _ _) (Nat.le_refl _) _) HO6.out HB1.out hg6 hn6 ho6; have HV6 := Lib.hid (show ∀ g, (Value.slice A6 G.length c6).ownBlock = some g → (Value.slice none 0 0).ownBlock = some g ∨ w.heap.size ≤ g from fun g e => (hv6 g e).elim (HV1.out g) fun h => .inr (Nat.le_trans HK6.out.size h)); have HP7 := Lib.hid hp6; have HO7 := Lib.hid ho6; have HK7 := Lib.hid (HK6.out.then hk6 (fun i e => HV1.out i e)); clear hp6 ho6 hk6 hv6 hG hg6 hn6) | (go_at_call 77; go_must (first | (refine (K0.out _ HP1.out).mono ?_; clear K0; rintro e w3 ⟨rfl, hp, hk⟩; have HO3 := Lib.hid (hk.ownI HO1.out (fun _ _ => id)); have HP3 := Lib.hid hp; have HK3 := Lib.hid (HK1.out.then hk (fun _ => False.elim)); clear hp hk) | (refine (KC.out _ _ HP7.out).mono ?_; clear KC; rintro e w8 ⟨rfl, hp, hk⟩; have HO8 := Lib.hid (hk.ownI HO7.out (fun _ _ => id)); have HP8 := Lib.hid hp; have HK8 := Lib.hid (HK7.out.then hk (fun _ => False.elim)); clear hp hk))) | (go_at_call 55; go_must (first | (refine (KX.out _ HP3.out).mono ?_; clear KX; rintro e w4 ⟨rfl, hp, hk⟩; have HO4 := Lib.hid (hk.ownI HO3.out (fun _ _ => id)); have HP4 := Lib.hid hp; have HK4 := Lib.hid (HK3.out.then hk (fun _ => False.elim)); clear hp hk) | (refine (KY.out _ HP5.out).mono ?_; clear KY; rintro e w6 ⟨rfl, hp, hk⟩; have HO6 := Lib.hid (hk.ownI HO5.out (fun _ _ => id)); have HP6 := Lib.hid hp; have HK6 := Lib.hid (HK5.out.then hk (fun _ => False.elim)); clear hp hk))) | (go_at_call 81; go_must (first | (refine (KN.out _ HP4.out).mono ?_; clear KN; rintro e w5 ⟨rfl, hp, hk⟩; have HO5 := Lib.hid (hk.ownI HO4.out (fun _ _ => id)); have HP5 := Lib.hid hp; have HK5 := Lib.hid (HK4.out.then hk (fun _ => False.elim)); clear hp hk))))
            go_round
            case rel => exact ⟨m', _, G, A6, c6, rfl, Lib.hid (by rw [← HG.out]; exact HR3.out), HP8.out, HO8.out, HK8.out, HV6, Lib.hid (by rw [← HG.out]; exact HI3.out), by rw [← HG.out, List.length_append, HAD.out]; show K1.length + 2 ≤ _; omega⟩
            case measure =>
              have h1 := HP8.out.atW
              have h2 := HAD.out
              have h5 := HP8.out.at_
              omega
          | false =>
            rw [hy2] at hh kc
            simp only [Bool.false_eq_true, if_false] at hh
            obtain rfl := Option.some.inj hh
            have lc := (need_gr (L := X.L) (s := (takeP X.L gComma s3).1) gRc).lenle
            have hcc := HC.out
            simp only at hcc
            have KX := Lib.hid (HEX.out (withV F (.slice A1 K1.length c1)) _ (s2, x) hx (by simp only; omega))
            have KY := Lib.hid (HEX.out (withV F (.slice A1 K1.length c1)) _ (s3, y) hy3 (by simp only; omega))
            have KM := Lib.hid (show ∀ F', Step X F' 81 #[X.p, .string gRc] (takeP X.L gComma s3).1 (.tuple #[]) (needP X.L gRc (takeP X.L gComma s3).1) from fun F' => need_step gRc (sml (by decide)))
            have K0 := Lib.hid kt
            have KC := Lib.hid kc
            clear hh kt hy hy2 g0 g1 g2 g3 g4 gc i1 i3 hin3 kc lc l1 l2 l3 hcc hx hy3
            go_wp2_with (first | (at_builtin; go_must (refine wpList_appendN _ rfl _ _ rfl (.slice A1 K1.length c1) K1 rfl (HO6.out.bel (Below.alloc (Below.refl _ _) (Nat.le_refl _) _)) _ 2 2 [x, y] rfl (Rd.ints _ [x, y] _ 2 rfl rfl (by omega)) rfl (by omega) ?_); intro v6 w7 ho6 hg6 hn6; generalize hG : K1 ++ [x, y] = G at ho6; obtain ⟨A6, c6, rfl, -, -⟩ := Own.rd ho6; have HG := Lib.hid hG; obtain ⟨hp6, hk6, hv6⟩ := HP6.out.app (Below.alloc (Below.refl _ _) (Nat.le_refl _) _) HO6.out HB1.out hg6 hn6 ho6; have HV6 := Lib.hid (show ∀ g, (Value.slice A6 G.length c6).ownBlock = some g → (Value.slice none 0 0).ownBlock = some g ∨ w.heap.size ≤ g from fun g e => (hv6 g e).elim (HV1.out g) fun h => .inr (Nat.le_trans HK6.out.size h)); have HP7 := Lib.hid hp6; have HO7 := Lib.hid ho6; have HK7 := Lib.hid (HK6.out.then hk6 (fun i e => HV1.out i e)); clear hp6 ho6 hk6 hv6 hG hg6 hn6) | (go_at_call 77; go_must (first | (refine (K0.out _ HP1.out).mono ?_; clear K0; rintro e w3 ⟨rfl, hp, hk⟩; have HO3 := Lib.hid (hk.ownI HO1.out (fun _ _ => id)); have HP3 := Lib.hid hp; have HK3 := Lib.hid (HK1.out.then hk (fun _ => False.elim)); clear hp hk) | (refine (KC.out _ _ HP7.out).mono ?_; clear KC; rintro e w8 ⟨rfl, hp, hk⟩; have HO8 := Lib.hid (hk.ownI HO7.out (fun _ _ => id)); have HP8 := Lib.hid hp; have HK8 := Lib.hid (HK7.out.then hk (fun _ => False.elim)); clear hp hk))) | (go_at_call 55; go_must (first | (refine (KX.out _ HP3.out).mono ?_; clear KX; rintro e w4 ⟨rfl, hp, hk⟩; have HO4 := Lib.hid (hk.ownI HO3.out (fun _ _ => id)); have HP4 := Lib.hid hp; have HK4 := Lib.hid (HK3.out.then hk (fun _ => False.elim)); clear hp hk) | (refine (KY.out _ HP5.out).mono ?_; clear KY; rintro e w6 ⟨rfl, hp, hk⟩; have HO6 := Lib.hid (hk.ownI HO5.out (fun _ _ => id)); have HP6 := Lib.hid hp; have HK6 := Lib.hid (HK5.out.then hk (fun _ => False.elim)); clear hp hk))) | (go_at_call 81; go_must (first | (refine (KN.out _ HP4.out).mono ?_; clear KN; rintro e w5 ⟨rfl, hp, hk⟩; have HO5 := Lib.hid (hk.ownI HO4.out (fun _ _ => id)); have HP5 := Lib.hid hp; have HK5 := Lib.hid (HK4.out.then hk (fun _ => False.elim)); clear hp hk) | (refine (KM.out _ _ HP8.out).mono ?_; clear KM; rintro e w9 ⟨rfl, hp, hk⟩; have HO9 := Lib.hid (hk.ownI HO8.out (fun _ _ => id)); have HP9 := Lib.hid hp; have HK9 := Lib.hid (HK8.out.then hk (fun _ => False.elim)); clear hp hk))))
            go_ret
            rw [HG.out]
            exact ⟨_, rfl, HO9.out, HP9.out, HK9.out, HV6.out⟩
      · rw [if_pos he] at hh
        obtain rfl := Option.some.inj hh
        have he' : (s1.e == 0) = false := by simpa using he
        clear hh
        go_wp2_with fail
        go_ret
        exact ⟨_, rfl, HO1.out, HP1.out, HK1.out, HV1.out⟩
end Go.Proofs.YtjdcicopjipmnaaDoor
