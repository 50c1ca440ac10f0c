/- postfix: what stands behind something. -/
import Derived.Test.YtjdcicopjipmnaaDoorRnd
namespace Go.Proofs.YtjdcicopjipmnaaDoor
open Go.RowKit
set_option linter.unusedVariables false
set_option linter.unusedSimpArgs false
theorem Rd.strs (w : World) (l : List ByteArray) (n : Nat) (hn : l.length = n) (cs : Array Value) (hc : cs = (l.map Value.string).toArray) (hm : n ≤ 9223372036854775807) : Rd (w.alloc (.cells cs 9)) (some ⟨w.heap.size, 0, none⟩) n n 1 (l.map Value.string) := by
  obtain ⟨A, c, e, h, _⟩ := Own.rd (sstr_own w l n hn cs hc hm)
  injection e with e1 e2 e3
  subst e1 e3
  exact h
set_option maxRecDepth 100000 in
set_option maxHeartbeats 4000000 in
theorem postfix_part {X : Cx} {ex : Ex} {m0 : Nat} (hat : Part X 111 (atomE ex X.L m0)) (hex : Part X 55 ex) (hgx : GdE X.L.length ex) : Part X 110 (postfixE ex X.L m0) := by
  intro F s r hr hc w h
  unfold postfixE at hr
  split at hr
  · cases hr
  rename_i s1 x hx
  have g1 := atomE_gd hgx hx
  have g2 := postE_gd hgx m0 _ _ _ _ _ g1.2 hr
  have l2 := g2.1.lenle
  have K1 := Lib.hid (hat F s (s1, x) hx (Nat.le_trans l2 hc))
  have hxr := g1.2.rng (Nat.le_trans l2 hc)
  have HR := Lib.hid hr
  have HI := Lib.hid g1.2
  have HP := Lib.hid h
  have HEX := Lib.hid hex
  have HGX := Lib.hid hgx
  have HC := Lib.hid hc
  clear h hat hex hgx hc hr g1 g2 hx l2
  go_enter Tryd.func110, Tryd.ntmps110
  go_wp2_with (go_at_call 111; go_must (refine (K1.out _ HP.out).mono ?_); rintro e w1 ⟨rfl, hp, hk⟩; obtain ⟨c2, c4, c5, hlt⟩ := hp.cells; obtain ⟨hlk, hfd⟩ := hp.look hxr; have HP1 := Lib.hid hp; have HK1 := Lib.hid hk; clear hp hk)
  clear c2 c4 c5 hlk hfd hlt
  generalize placeOf s1 x = a at *
  go_loopw [3] (fun v wr => ∃ (m : Nat) (s1 : PS) (x : Int), v = .int .i64 x ∧ Hid (postE ex X.L m0 a m s1 x = some r) ∧ PAt X F wr s1 ∧ Keeps X.B w wr ∧ Hid (In s1 x)) (fun _ wr => X.n + 1 - atW X.pb wr)
  case atStart => exact ⟨m0, _, _, rfl, HR, HP1.out, HK1.out, HI⟩
  case round =>
    clear HP1 HK1 HI HR hxr
    obtain ⟨m', s1, x, rfl, HR1, hp1, hk1, HI1⟩ := hrel
    have hh := HR1.out
    have HP1 := Lib.hid hp1
    have HK1 := Lib.hid hk1
    have hat := hp1.atW
    clear hp1 hk1
    cases m' with
    | zero => cases hh
    | succ m' =>
      unfold postE at hh
      simp only at hh
      have hcs := any_cases (L := X.L) (s := s1) [gDot, gLp, gLb]
      rcases hcs with ⟨hA, _⟩ | ⟨t, ht, _, hA⟩
      · rw [hA] at hh
        simp only [if_true] at hh
        obtain rfl := Option.some.inj hh
        go_wp2_with (first | (go_at_call 94; go_must (refine (any_ret' hA (HP1.out.bel_ (Below.alloc (Below.refl _ _) (Nat.le_refl _) _)) (Rd.strs _ [gDot, gLp, gLb] 3 rfl _ rfl (by omega)) rfl (by intro t ht; simp only [List.mem_cons, List.not_mem_nil, or_false] at ht; rcases ht with rfl | rfl | rfl <;> exact sml (by decide))).mono ?_); rintro e w2 ⟨rfl, hp, hk⟩; have hk' := (KeepE.of_below X.B (fun _ => False) (Below.alloc (Below.refl _ _) (Nat.le_refl _) _)).trans hk; have HP2 := Lib.hid hp; have HK2 := Lib.hid (HK1.out.trans hk'); clear hp hk hk'))
        go_ret
        exact ⟨rfl, HP2.out, HK2.out⟩
      · rw [hA] at hh
        have gs : Gr X.L.length (-3) s1 (stepP s1 1) := by have := any_yes (L := X.L) (s := s1) (l := [gDot, gLp, gLb]) (by rw [hA]); rwa [hA] at this
        obtain ⟨s2, hs2⟩ : ∃ s2, s2 = stepP s1 1 := ⟨_, rfl⟩
        rw [← hs2] at hh gs hA
        have had : s2.at_ = s1.at_ + 1 := by rw [hs2]; rfl
        clear hs2
        have hx2 := HI1.out.mono gs
        simp only [Bool.true_eq_false, if_false] at hh
        simp only [List.mem_cons, List.not_mem_nil, or_false] at ht
        rcases ht with rfl | rfl | rfl
        · rw [if_pos rfl] at hh
          have gn := name_gr (L := X.L) (s := s2)
          have ga := add_gr (L := X.L) (s := (nameP X.L s2).1) 18 a (nameP X.L s2).2 0 [x]
          have gp := postE_gd HGX.out m0 a m' _ _ _ (add_in ..) hh
          have lp := gp.1.lenle
          have hcc := HC.out
          have la := ga.lenle
          have HCA : Hid ((addP (nameP X.L s2).1 18 a (nameP X.L s2).2 0 [x]).1.ns.length ≤ 1099511627776) := Lib.hid (by omega)
          have HI3 := Lib.hid (one_rng (hx2.mono gn) (by omega))
          have HRR := Lib.hid hh
          have HII := Lib.hid (add_in (s := (nameP X.L s2).1) 18 a (nameP X.L s2).2 0 [x])
          have HUP := Lib.hid (show s1.at_ + 1 ≤ (addP (nameP X.L s2).1 18 a (nameP X.L s2).2 0 [x]).1.at_ from had ▸ (gn.trans ga).up)
          clear hh gn ga gp lp hcc la
          go_wp2_with (first | (go_at_call 94; go_must (refine (any_ret' hA (HP1.out.bel_ (Below.alloc (Below.refl _ _) (Nat.le_refl _) _)) (Rd.strs _ [gDot, gLp, gLb] 3 rfl _ rfl (by omega)) rfl (by intro t ht; simp only [List.mem_cons, List.not_mem_nil, or_false] at ht; rcases ht with rfl | rfl | rfl <;> exact sml (by decide))).mono ?_); rintro e w2 ⟨rfl, hp, hk⟩; have hk' := (KeepE.of_below X.B (fun _ => False) (Below.alloc (Below.refl _ _) (Nat.le_refl _) _)).trans hk; have HP2 := Lib.hid hp; have HK2 := Lib.hid (HK1.out.trans hk'); clear hp hk hk') | (go_at_call 95; go_must (refine (name_step _ HP2.out).mono ?_); rintro e w3 ⟨rfl, hp, hk⟩; have HP3 := Lib.hid hp; have HK3 := Lib.hid (HK2.out.trans hk); clear hp hk) | (go_at_call 79; go_must (refine (add_any (s := (nameP X.L s2).1) (HP3.out.bel_ (Below.alloc (Below.refl _ _) (Nat.le_refl _) _)) (Rd.ints _ [x] _ 1 rfl rfl (by omega)) rfl (by omega) HI3.out 18 a 0 _ HCA.out).mono ?_); rintro e w4 ⟨rfl, hp, hk⟩; have hk' := (KeepE.of_below X.B (fun _ => False) (Below.alloc (Below.refl _ _) (Nat.le_refl _) _)).trans hk; have HP4 := Lib.hid hp; have HK4 := Lib.hid (HK3.out.trans hk'); clear hp hk hk'))
          go_round
          case rel => exact ⟨m', _, _, rfl, HRR, HP4.out, HK4.out, HII⟩
          case measure =>
            have h1 := HP4.out.atW
            have h2 := HUP.out
            have h5 := HP4.out.at_
            omega

        · rw [if_neg (by decide), if_pos rfl] at hh
          split at hh
          · cases hh
          rename_i s3 kids hr3
          have hi2 := in_snoc (l := []) (fun k hk => by cases hk) hx2
          obtain ⟨g3, i3⟩ := rowE_gl HGX.out _ _ _ _ _ hi2 hr3
          have hlen := rowE_len HGX.out _ _ _ _ _ hr3
          have ga := add_gr (L := X.L) (s := s3) 17 a ⟨#[]⟩ 0 kids
          have gp := postE_gd HGX.out m0 a m' _ _ _ (add_in ..) hh
          have lp := gp.1.lenle
          have hcc := HC.out
          have la := ga.lenle
          have hln := HP1.out.ln
          have hle := HP1.out.at_
          have hbg := HP1.out.big
          have ha2 := (gs.trans g3).le (by omega)
          simp only [List.length_cons, List.length_nil] at hlen ha2 i3 la
          have HL : Hid (kids.length ≤ 4398046511103) := Lib.hid (by omega)
          have HCA : Hid ((addP s3 17 a ⟨#[]⟩ 0 kids).1.ns.length ≤ 1099511627776) := Lib.hid (by omega)
          have HC3 : Hid ((s3, kids).1.ns.length ≤ 1099511627776) := Lib.hid (by simp only; omega)
          have HR3 := Lib.hid hr3
          have HI2 := Lib.hid hi2
          have HI6 := Lib.hid i3
          have HRR := Lib.hid hh
          have HII := Lib.hid (add_in (s := s3) 17 a ⟨#[]⟩ 0 kids)
          have HUP := Lib.hid (show s1.at_ + 1 ≤ (addP s3 17 a ⟨#[]⟩ 0 kids).1.at_ from had ▸ (g3.trans ga).up)
          clear hh ga gp lp hcc la hr3 hi2 g3 i3 hlen hln hle hbg ha2
          go_wp2_with (first | (go_at_call 94; go_must (refine (any_ret' hA (HP1.out.bel_ (Below.alloc (Below.refl _ _) (Nat.le_refl _) _)) (Rd.strs _ [gDot, gLp, gLb] 3 rfl _ rfl (by omega)) rfl (by intro t ht; simp only [List.mem_cons, List.not_mem_nil, or_false] at ht; rcases ht with rfl | rfl | rfl <;> exact sml (by decide))).mono ?_); rintro e w2 ⟨rfl, hp, hk⟩; have hk' := (KeepE.of_below X.B (fun _ => False) (Below.alloc (Below.refl _ _) (Nat.le_refl _) _)).trans hk; have HP2 := Lib.hid hp; have HK2 := Lib.hid (HK1.out.trans hk'); clear hp hk hk') | (go_at_call 112; go_must (refine (row_any HEX.out HGX.out (F := F) (sml (by decide)) (kids := [x]) (HP2.out.beside (Below.alloc (Below.refl _ _) (Nat.le_refl _) _) (one_own _ [x] 1 rfl _ rfl (by omega)) (fun g e => Nat.le_of_eq (by simpa [Value.ownBlock] using e))) (one_own _ [x] 1 rfl _ rfl (by omega)) (fun g e => by have := HP2.out.wB; have e2 : _ = g := (by simpa [Value.ownBlock] using e); omega) HI2.out (by simp) HR3.out HC3.out).mono ?_); rintro e w6 ⟨v6, rfl, ho6, hp6, hk6, hv6⟩; obtain ⟨A6, c6, rfl, -, -⟩ := Own.rd ho6; have HO6 := Lib.hid ho6; have HP6 := Lib.hid (hp6.less (F' := F) (fun k hk => .inl hk)); have hk7 := (KeepE.of_below X.B (fun _ => False) (Below.alloc (Below.refl _ _) (Nat.le_refl _) _)).then hk6 (fun i e => .inr (Nat.le_of_eq (by simpa [Value.ownBlock] using e))); have HK6 := Lib.hid (HK2.out.trans hk7); clear ho6 hp6 hk6 hv6 hk7) | (go_at_call 79; go_must (refine (add_own HP6.out HO6.out HL.out HI6.out 17 a 0 ⟨#[]⟩ HCA.out).mono ?_); rintro e w4 ⟨rfl, hp, hk⟩; have HK4 := Lib.hid (HK6.out.trans hk); have HP4 := Lib.hid hp; clear hp hk))
          go_round
          case rel => exact ⟨m', _, _, rfl, HRR, HP4.out, HK4.out, HII⟩
          case measure =>
            have h1 := HP4.out.atW
            have h2 := HUP.out
            have h5 := HP4.out.at_
            omega

        · rw [if_neg (by decide), if_neg (by decide)] at hh
          split at hh
          · cases hh
          rename_i s3 y hr3
          obtain ⟨g3, i3⟩ := indexE_gd HGX.out hr3
          have gp := postE_gd HGX.out m0 a m' _ _ _ i3 hh
          have lp := gp.1.lenle
          have hcc := HC.out
          have KI := Lib.hid (index_any HEX.out HGX.out (F := F) hx2 hr3 (by simp only at lp ⊢; omega))
          have HRR := Lib.hid hh
          have HII := Lib.hid i3
          have HUP := Lib.hid (show s1.at_ + 1 ≤ s3.at_ from had ▸ g3.up)
          clear hh gp lp hcc hr3 g3 i3
          go_wp2_with (first | (go_at_call 94; go_must (refine (any_ret' hA (HP1.out.bel_ (Below.alloc (Below.refl _ _) (Nat.le_refl _) _)) (Rd.strs _ [gDot, gLp, gLb] 3 rfl _ rfl (by omega)) rfl (by intro t ht; simp only [List.mem_cons, List.not_mem_nil, or_false] at ht; rcases ht with rfl | rfl | rfl <;> exact sml (by decide))).mono ?_); rintro e w2 ⟨rfl, hp, hk⟩; have hk' := (KeepE.of_below X.B (fun _ => False) (Below.alloc (Below.refl _ _) (Nat.le_refl _) _)).trans hk; have HP2 := Lib.hid hp; have HK2 := Lib.hid (HK1.out.trans hk'); clear hp hk hk') | (go_at_call 113; go_must (refine (KI.out _ HP2.out).mono ?_); rintro e w4 ⟨rfl, hp, hk⟩; have HP4 := Lib.hid hp; have HK4 := Lib.hid (HK2.out.trans hk); clear hp hk))
          go_round
          case rel => exact ⟨m', _, _, rfl, HRR, HP4.out, HK4.out, HII⟩
          case measure =>
            have h1 := HP4.out.atW
            have h2 := HUP.out
            have h5 := HP4.out.at_
            omega

end Go.Proofs.YtjdcicopjipmnaaDoor
