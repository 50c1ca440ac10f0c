/- pairs: a dict's pairs. round: what stands between round brackets. postfix: what stands behind something. -/
import Derived.Test.YtjdcicopjipmnaaDoorZac
namespace Go.Proofs.YtjdcicopjipmnaaDoor
set_option maxRecDepth 100000
set_option maxHeartbeats 4000000
section
open Go.RowKit
set_option linter.unusedVariables false
set_option linter.unusedSimpArgs false
theorem pairs_any {X : Cx} {ex : Ex} (hex : Part X 55 ex) (hgx : GdE X.L.length ex) {F : Nat → Prop} {w : World} {s : PS} {m : Nat} {r : PS × List Int} (h : PAt X F w s) (hr : pairsE ex X.L m s [] = some r) (hc : r.1.ns.length ≤ 1099511627776) :
  Calls Tryd.prog 115 #[X.p] w (RetL X F w (.slice none 0 0) r) := by
 unfold RetL
 have HP0 := qh h
 have HR0 := qh hr
 have HC := qh hc
 have HEX := qh hex
 have HGX := qh hgx
 obtain ⟨c2, c4, c5, hlt⟩ := h.cells
 clear h hr hc hex hgx
 go_enter Tryd.func115, Tryd.ntmps115
 go_wp2_with fail
 go_loopw [2] (fun v wr => ∃ (m : Nat) (s1 : PS) (K1 : List Int) (A1 : Option Addr) (c1 : Nat), v = .slice A1 K1.length c1 ∧ Hid (pairsE ex X.L m s1 K1 = some r) ∧ PAt X (withV F (.slice A1 K1.length c1)) wr s1 ∧ OwnI wr (.slice A1 K1.length c1) K1 ∧ KeepE X.B (fun k => (Value.slice none 0 0).ownBlock = some k) w wr ∧ Hid (∀ g, (Value.slice A1 K1.length c1).ownBlock = some g → (Value.slice none 0 0).ownBlock = some g ∨ w.heap.size ≤ g) ∧ Hid (∀ k ∈ K1, In s1 k) ∧ K1.length ≤ 2 * s1.at_) (fun _ wr => X.n + 1 - atW X.pb wr)
 case atStart => exact ⟨m, s, [], none, 0, rfl, HR0, HP0.out.bel (Below.refl _ _) (fun k hk => hk.elim .inl fun e => by cases e) (fun k hk => hk.elim (HP0.out.fl k) fun e => by cases e), OwnI.nil_ _, KeepE.refl _ _ _, qh fun g e => .inl e, qh (fun k hk => by cases hk), by simp⟩
 case round =>
  obtain ⟨m', s1, K1, A1, c1, rfl, HR1, hp1, ho1, hk1, HV1, HI1, hl1⟩ := hrel
  have hh := HR1.out
  have HP1 := qh hp1
  have HO1 := qh ho1
  have HK1 := qh hk1
  obtain ⟨c2, c4, c5, hlt⟩ := hp1.cells
  have hat := hp1.atW
  have han := hp1.at_
  have hbn := hp1.big
  clear hp1 ho1 hk1
  cases m' with
  | zero => cases hh
  | succ m' =>
   unfold pairsE at hh
   by_cases he : s1.e = 0
   ·rw [if_neg (by simpa using he)] at hh
    rw [he] at c4
    have kt : Step X (withV F (.slice A1 K1.length c1)) 77 #[X.p, .string gRc] s1 (.bool (takeP X.L gRc s1).2) (takeP X.L gRc s1).1 := take_step_ gRc (sml (by decide))
    cases hy : (takeP X.L gRc s1).2 with
    | true =>
     rw [hy] at hh kt
     simp only [if_true] at hh
     obtain rfl := Option.some.inj hh
     have K0 := qh kt
     clear hh kt hy
     go_wp2_with (go_at_call 77; go_must (first | (refine (K0.out _ HP1.out).mono ?_; clear K0; rintro e w3 ⟨rfl, hp, hk⟩; have HO3 := qh (hk.ownI HO1.out (fun _ _ => id)); have HP3 := qh hp; have HK3 := qh (HK1.out.then hk (fun _ => False.elim)); clear hp hk)))
     go_ret
     exact ⟨_, rfl, HO3.out, HP3.out, HK3.out, HV1.out⟩
    | false =>
     rw [hy] at hh kt
     simp only [Bool.false_eq_true, if_false] at hh
     split at hh
     ·cases hh
     rename_i s2 x hx
     split at hh
     ·cases hh
     rename_i s3 y hy3
     have g0 := take_gr (L := X.L) (s := s1) gRc
     obtain ⟨g1, i1⟩ := HGX.out _ _ hx
     have g2 := need_gr (L := X.L) (s := s2) gColon
     obtain ⟨g3, i3⟩ := HGX.out _ _ hy3
     have g4 := ((g0.trans g1).trans g2).trans g3
     have gc := take_gr (L := X.L) (s := s3) gComma
     have hup := g4.up
     have HB1 : Hid (∀ g, (Value.slice A1 K1.length c1).ownBlock = some g → X.B ≤ g) := qh fun g e => (HV1.out g e).elim (fun e => by cases e) fun h => Nat.le_trans HP0.out.wB h
     have kc : ∀ F', Step X F' 77 #[X.p, .string gComma] s3 (.bool (takeP X.L gComma s3).2) (takeP X.L gComma s3).1 := fun F' => take_step_ gComma (sml (by decide))
     have hin3 : ∀ k ∈ K1 ++ [x, y], In (takeP X.L gComma s3).1 k := by
      have := in_snoc (in_snoc (in_all HI1.out (g4.trans gc)) (i1.mono ((g2.trans g3).trans gc))) (i3.mono gc)
      rwa [List.append_assoc] at this
     have HI3 := qh hin3
     have l3 := g3.lenle
     have l2 := g2.lenle
     have l1 := gc.lenle
     simp only at l3 l2 hup
     have KN := qh (show Step X (withV F (.slice A1 K1.length c1)) 81 #[X.p, .string gColon] s2 (.tuple #[]) (needP X.L gColon s2) from need_step gColon (sml (by decide)))
     cases hy2 : (takeP X.L gComma s3).2 with
     | true =>
      rw [hy2] at hh kc
      simp only [if_true] at hh
      have lc := (pairsE_gl HGX.out m' _ _ _ hin3 hh).1.lenle
      have hcc := HC.out
      have KX := qh (HEX.out (withV F (.slice A1 K1.length c1)) _ (s2, x) hx (by simp only; omega))
      have KY := qh (HEX.out (withV F (.slice A1 K1.length c1)) _ (s3, y) hy3 (by simp only; omega))
      have hadv := any_adv (L := X.L) (s := s3) (l := [gComma]) hy2
      have HR3 := qh hh
      have K0 := qh kt
      have KC := qh kc
      have HAD := qh (show (takeP X.L gComma s3).1.at_ = s3.at_ + 1 from hadv)
      clear hh kt hy hy2 g0 g1 g2 g3 g4 gc i1 i3 hin3 kc lc l1 l2 l3 hcc hx hy3 hadv
      go_wp2_with (first | (at_builtin; go_must (refine wpList_appendN _ rfl _ _ rfl (.slice A1 K1.length c1) K1 rfl (HO6.out.bel (Below.alloc (Below.refl _ _) (Nat.le_refl _) _)) _ 2 2 [x, y] rfl (Rd.ints _ [x, y] _ 2 rfl rfl (by omega)) rfl (by omega) ?_); intro v6 w7 ho6 hg6 hn6; generalize hG : K1 ++ [x, y] = G at ho6; obtain ⟨A6, c6, rfl, -, -⟩ := Own.rd ho6; have HG := qh hG; obtain ⟨hp6, hk6, hv6⟩ := HP6.out.app (Below.alloc (Below.refl _ _) (Nat.le_refl _) _) HO6.out HB1.out hg6 hn6 ho6; have HV6 := qh (show ∀ g, (Value.slice A6 G.length c6).ownBlock = some g → (Value.slice none 0 0).ownBlock = some g ∨ w.heap.size ≤ g from fun g e => (hv6 g e).elim (HV1.out g) fun h => .inr (Nat.le_trans HK6.out.size h)); have HP7 := qh hp6; have HO7 := qh ho6; have HK7 := qh (HK6.out.then hk6 (fun i e => HV1.out i e)); clear hp6 ho6 hk6 hv6 hG hg6 hn6) | (go_at_call 77; go_must (first | (refine (K0.out _ HP1.out).mono ?_; clear K0; rintro e w3 ⟨rfl, hp, hk⟩; have HO3 := qh (hk.ownI HO1.out (fun _ _ => id)); have HP3 := qh hp; have HK3 := qh (HK1.out.then hk (fun _ => False.elim)); clear hp hk) | (refine (KC.out _ _ HP7.out).mono ?_; clear KC; rintro e w8 ⟨rfl, hp, hk⟩; have HO8 := qh (hk.ownI HO7.out (fun _ _ => id)); have HP8 := qh hp; have HK8 := qh (HK7.out.then hk (fun _ => False.elim)); clear hp hk))) | (go_at_call 55; go_must (first | (refine (KX.out _ HP3.out).mono ?_; clear KX; rintro e w4 ⟨rfl, hp, hk⟩; have HO4 := qh (hk.ownI HO3.out (fun _ _ => id)); have HP4 := qh hp; have HK4 := qh (HK3.out.then hk (fun _ => False.elim)); clear hp hk) | (refine (KY.out _ HP5.out).mono ?_; clear KY; rintro e w6 ⟨rfl, hp, hk⟩; have HO6 := qh (hk.ownI HO5.out (fun _ _ => id)); have HP6 := qh hp; have HK6 := qh (HK5.out.then hk (fun _ => False.elim)); clear hp hk))) | (go_at_call 81; go_must (first | (refine (KN.out _ HP4.out).mono ?_; clear KN; rintro e w5 ⟨rfl, hp, hk⟩; have HO5 := qh (hk.ownI HO4.out (fun _ _ => id)); have HP5 := qh hp; have HK5 := qh (HK4.out.then hk (fun _ => False.elim)); clear hp hk))))
      go_round
      case rel => exact ⟨m', _, G, A6, c6, rfl, qh (by rw [← HG.out]; exact HR3.out), HP8.out, HO8.out, HK8.out, HV6, qh (by rw [← HG.out]; exact HI3.out), by rw [← HG.out, List.length_append, HAD.out]; show K1.length + 2 ≤ _; omega⟩
      case measure =>
       have h1 := HP8.out.atW
       have h2 := HAD.out
       have h5 := HP8.out.at_
       omega
     | false =>
      rw [hy2] at hh kc
      simp only [Bool.false_eq_true, if_false] at hh
      obtain rfl := Option.some.inj hh
      have lc := (need_gr (L := X.L) (s := (takeP X.L gComma s3).1) gRc).lenle
      have hcc := HC.out
      simp only at hcc
      have KX := qh (HEX.out (withV F (.slice A1 K1.length c1)) _ (s2, x) hx (by simp only; omega))
      have KY := qh (HEX.out (withV F (.slice A1 K1.length c1)) _ (s3, y) hy3 (by simp only; omega))
      have KM := qh (show ∀ F', Step X F' 81 #[X.p, .string gRc] (takeP X.L gComma s3).1 (.tuple #[]) (needP X.L gRc (takeP X.L gComma s3).1) from fun F' => need_step gRc (sml (by decide)))
      have K0 := qh kt
      have KC := qh kc
      clear hh kt hy hy2 g0 g1 g2 g3 g4 gc i1 i3 hin3 kc lc l1 l2 l3 hcc hx hy3
      go_wp2_with (first | (at_builtin; go_must (refine wpList_appendN _ rfl _ _ rfl (.slice A1 K1.length c1) K1 rfl (HO6.out.bel (Below.alloc (Below.refl _ _) (Nat.le_refl _) _)) _ 2 2 [x, y] rfl (Rd.ints _ [x, y] _ 2 rfl rfl (by omega)) rfl (by omega) ?_); intro v6 w7 ho6 hg6 hn6; generalize hG : K1 ++ [x, y] = G at ho6; obtain ⟨A6, c6, rfl, -, -⟩ := Own.rd ho6; have HG := qh hG; obtain ⟨hp6, hk6, hv6⟩ := HP6.out.app (Below.alloc (Below.refl _ _) (Nat.le_refl _) _) HO6.out HB1.out hg6 hn6 ho6; have HV6 := qh (show ∀ g, (Value.slice A6 G.length c6).ownBlock = some g → (Value.slice none 0 0).ownBlock = some g ∨ w.heap.size ≤ g from fun g e => (hv6 g e).elim (HV1.out g) fun h => .inr (Nat.le_trans HK6.out.size h)); have HP7 := qh hp6; have HO7 := qh ho6; have HK7 := qh (HK6.out.then hk6 (fun i e => HV1.out i e)); clear hp6 ho6 hk6 hv6 hG hg6 hn6) | (go_at_call 77; go_must (first | (refine (K0.out _ HP1.out).mono ?_; clear K0; rintro e w3 ⟨rfl, hp, hk⟩; have HO3 := qh (hk.ownI HO1.out (fun _ _ => id)); have HP3 := qh hp; have HK3 := qh (HK1.out.then hk (fun _ => False.elim)); clear hp hk) | (refine (KC.out _ _ HP7.out).mono ?_; clear KC; rintro e w8 ⟨rfl, hp, hk⟩; have HO8 := qh (hk.ownI HO7.out (fun _ _ => id)); have HP8 := qh hp; have HK8 := qh (HK7.out.then hk (fun _ => False.elim)); clear hp hk))) | (go_at_call 55; go_must (first | (refine (KX.out _ HP3.out).mono ?_; clear KX; rintro e w4 ⟨rfl, hp, hk⟩; have HO4 := qh (hk.ownI HO3.out (fun _ _ => id)); have HP4 := qh hp; have HK4 := qh (HK3.out.then hk (fun _ => False.elim)); clear hp hk) | (refine (KY.out _ HP5.out).mono ?_; clear KY; rintro e w6 ⟨rfl, hp, hk⟩; have HO6 := qh (hk.ownI HO5.out (fun _ _ => id)); have HP6 := qh hp; have HK6 := qh (HK5.out.then hk (fun _ => False.elim)); clear hp hk))) | (go_at_call 81; go_must (first | (refine (KN.out _ HP4.out).mono ?_; clear KN; rintro e w5 ⟨rfl, hp, hk⟩; have HO5 := qh (hk.ownI HO4.out (fun _ _ => id)); have HP5 := qh hp; have HK5 := qh (HK4.out.then hk (fun _ => False.elim)); clear hp hk) | (refine (KM.out _ _ HP8.out).mono ?_; clear KM; rintro e w9 ⟨rfl, hp, hk⟩; have HO9 := qh (hk.ownI HO8.out (fun _ _ => id)); have HP9 := qh hp; have HK9 := qh (HK8.out.then hk (fun _ => False.elim)); clear hp hk))))
      go_ret
      rw [HG.out]
      exact ⟨_, rfl, HO9.out, HP9.out, HK9.out, HV6.out⟩
   ·rw [if_pos he] at hh
    obtain rfl := Option.some.inj hh
    have he' : (s1.e == 0) = false := by simpa using he
    clear hh
    go_wp2_with fail
    go_ret
    exact ⟨_, rfl, HO1.out, HP1.out, HK1.out, HV1.out⟩
end
section
open Go.RowKit
set_option linter.unusedVariables false
set_option linter.unusedSimpArgs false
theorem one_own (w : World) (l : List Int) (n : Nat) (hn : l.length = n) (cs : Array Value) (hc : cs = (ics l).toArray) (hm : n ≤ 9223372036854775807) : OwnI (w.alloc (.cells cs 3)) (.slice (some ⟨w.heap.size, 0, none⟩) n n) l := by
 have h := Own.made (t := 3) (sz := 1) w cs n hm (by rw [hc]; simp [ics, hn])
 unfold OwnI
 rw [hc] at h ⊢
 rw [hn]
 exact h
theorem rowE_len {ex : Ex} {L : List TokD} (hex : GdE L.length ex) (fin : ByteArray) : ∀ (m : Nat) (s : PS) (kids : List Int) (r : PS × List Int), rowE ex L fin m s kids = some r → r.2.length + s.at_ ≤ kids.length + r.1.at_ + 1
 | 0, s, kids, r, h => by cases h
 | m + 1, s, kids, r, h => by
  unfold rowE at h
  split at h
  ·obtain rfl := Option.some.inj h
   simp only
   omega
  ·have g0 := take_gr (L := L) (s := s) fin
   have u0 := g0.up
   split at h
   ·obtain rfl := Option.some.inj h
    simp only
    omega
   ·split at h
    ·cases h
    ·rename_i s1 x he
     have u1 := (hex _ _ he).1.up
     simp only at u1
     split at h
     ·rename_i hy
      have hadv := any_adv (L := L) (s := s1) (l := [gComma]) hy
      have ih := rowE_len hex fin m _ _ _ h
      have e : (takeP L gComma s1).1.at_ = s1.at_ + 1 := hadv
      rw [e, List.length_append] at ih
      simp only [List.length_cons, List.length_nil] at ih
      omega
     ·obtain rfl := Option.some.inj h
      have u2 := ((take_gr (L := L) (s := s1) gComma).trans (need_gr (L := L) fin)).up
      simp only [LL]
      omega
theorem add_own {X : Cx} {F : Nat → Prop} {w : World} {s : PS} {A : Option Addr} {c : Nat} {kids : List Int} (h : PAt X F w s) (ho : OwnI w (.slice A kids.length c) kids) (hkb : kids.length ≤ 4398046511103) (hin : ∀ x ∈ kids, In s x)
  (op at_ n : Int) (t : ByteArray) (hcap : (addP s op at_ t n kids).1.ns.length ≤ 1099511627776) :
  Calls Tryd.prog 79 #[X.p, .int .i64 op, .int .i64 at_, .string t, .int .i64 n, .slice A kids.length c] w (Ret X F w (addP s op at_ t n kids)) := by
 obtain ⟨A', c', e, hr, _⟩ := Own.rd ho
 injection e with e1 e2 e3
 subst e1 e3
 have l1 := (add_gr (L := X.L) (s := s) op at_ t n kids).lenle
 exact add_any h hr rfl hkb (fun x hx => (hin x hx).rng (Nat.le_trans l1 hcap)) op at_ n t hcap
theorem w114_nil {X : Cx} {F : Nat → Prop} {s s1 s2 : PS} {y a : Int}
  (k0 : Step X F 77 #[X.p, .string gRp] s (.bool true) s1)
  (k1 : Step X F 79 #[X.p, .int .i64 8, .int .i64 a, .string ⟨#[]⟩, .int .i64 0, .slice none 0 0] s1 (.int .i64 y) s2) :
  Step X F 114 #[X.p, .int .i64 a] s (.int .i64 y) s2 := by
 intro w h
 have HP := qh h
 have K0 := qh k0
 have K1 := qh k1
 have HK := qh (KeepE.refl X.B (fun _ => False) w)
 obtain ⟨c2, c4, c5, hlt⟩ := h.cells
 clear h k0 k1
 go_enter Tryd.func114, Tryd.ntmps114
 go_wp2_with (first | (go_at_call 77; go_must (first | (refine (K0.out _ HP.out).mono ?_; clear K0; rintro e w0 ⟨rfl, hp, hk⟩; replace HK := qh (HK.out.trans hk); replace HP := qh hp; clear hp hk; (try clear c2 c4 c5 hlt); obtain ⟨c2, c4, c5, hlt⟩ := HP.out.cells))) | (go_at_call 79; go_must (first | (refine (K1.out _ HP.out).mono ?_; clear K1; rintro e w1 ⟨rfl, hp, hk⟩; replace HK := qh (HK.out.trans hk); replace HP := qh hp; clear hp hk; (try clear c2 c4 c5 hlt); obtain ⟨c2, c4, c5, hlt⟩ := HP.out.cells))))
 go_ret
 exact ⟨rfl, HP.out, HK.out⟩
theorem w114_one {X : Cx} {F : Nat → Prop} {s s1 s2 s3 : PS} {x a : Int}
  (k0 : Step X F 77 #[X.p, .string gRp] s (.bool false) s1)
  (k1 : Step X F 55 #[X.p] s1 (.int .i64 x) s2)
  (k2 : Step X F 77 #[X.p, .string gRp] s2 (.bool true) s3) :
  Step X F 114 #[X.p, .int .i64 a] s (.int .i64 x) s3 := by
 intro w h
 have HP := qh h
 have K0 := qh k0
 have K1 := qh k1
 have K2 := qh k2
 have HK := qh (KeepE.refl X.B (fun _ => False) w)
 obtain ⟨c2, c4, c5, hlt⟩ := h.cells
 clear h k0 k1 k2
 go_enter Tryd.func114, Tryd.ntmps114
 go_wp2_with (first | (go_at_call 77; go_must (first | (refine (K0.out _ HP.out).mono ?_; clear K0; rintro e w0 ⟨rfl, hp, hk⟩; replace HK := qh (HK.out.trans hk); replace HP := qh hp; clear hp hk; (try clear c2 c4 c5 hlt); obtain ⟨c2, c4, c5, hlt⟩ := HP.out.cells) | (refine (K2.out _ HP.out).mono ?_; clear K2; rintro e w2 ⟨rfl, hp, hk⟩; replace HK := qh (HK.out.trans hk); replace HP := qh hp; clear hp hk; (try clear c2 c4 c5 hlt); obtain ⟨c2, c4, c5, hlt⟩ := HP.out.cells))) | (go_at_call 55; go_must (first | (refine (K1.out _ HP.out).mono ?_; clear K1; rintro e w1 ⟨rfl, hp, hk⟩; replace HK := qh (HK.out.trans hk); replace HP := qh hp; clear hp hk; (try clear c2 c4 c5 hlt); obtain ⟨c2, c4, c5, hlt⟩ := HP.out.cells))))
 go_ret
 exact ⟨rfl, HP.out, HK.out⟩
theorem w114_row {X : Cx} {F : Nat → Prop} {ex : Ex} {s s1 s2 s3 s4 s5 : PS} {x a : Int} {m : Nat} {kids : List Int} (hex : Part X 55 ex) (hgx : GdE X.L.length ex)
  (k0 : Step X F 77 #[X.p, .string gRp] s (.bool false) s1)
  (k1 : Step X F 55 #[X.p] s1 (.int .i64 x) s2)
  (k2 : Step X F 77 #[X.p, .string gRp] s2 (.bool false) s3)
  (k3 : Step X F 81 #[X.p, .string gComma] s3 (.tuple #[]) s4)
  (hr : rowE ex X.L gRp m s4 [x] = some (s5, kids)) (hi : ∀ k ∈ [x], In s4 k) (hi2 : ∀ k ∈ kids, In s5 k) (hl : kids.length ≤ 4398046511103) (hc2 : s5.ns.length ≤ 1099511627776) (hc : (addP s5 8 a ⟨#[]⟩ 0 kids).1.ns.length ≤ 1099511627776) :
  Step X F 114 #[X.p, .int .i64 a] s (.int .i64 (addP s5 8 a ⟨#[]⟩ 0 kids).2) (addP s5 8 a ⟨#[]⟩ 0 kids).1 := by
 intro w h
 have HP := qh h
 have K0 := qh k0
 have K1 := qh k1
 have K2 := qh k2
 have K3 := qh k3
 have HK := qh (KeepE.refl X.B (fun _ => False) w)
 obtain ⟨c2, c4, c5, hlt⟩ := h.cells
 clear h k0 k1 k2 k3
 have HEX := qh hex
 have HGX := qh hgx
 have HR := qh hr
 have HI := qh hi
 have HI2 := qh hi2
 have HL := qh hl
 have HC2 : Hid ((s5, kids).1.ns.length ≤ 1099511627776) := qh hc2
 have HC := qh hc
 clear hex hgx hr hi hi2 hl hc2 hc
 go_enter Tryd.func114, Tryd.ntmps114
 go_wp2_with (first | (go_at_call 112; go_must (refine (row_any HEX.out HGX.out (F := F) (sml (by decide)) (kids := [x]) (HP.out.beside (Below.alloc (Below.refl _ _) (Nat.le_refl _) _) (one_own _ [x] 1 rfl _ rfl (by omega)) (fun g e => Nat.le_of_eq (by simpa [Value.ownBlock] using e))) (one_own _ [x] 1 rfl _ rfl (by omega)) (fun g e => by have := HP.out.wB; have e2 : _ = g := (by simpa [Value.ownBlock] using e); omega) HI.out (by simp) HR.out HC2.out).mono ?_); rintro e w6 ⟨v6, rfl, ho6, hp6, hk6, hv6⟩; obtain ⟨A6, c6, rfl, -, -⟩ := Own.rd ho6; have HO6 := qh ho6; have HP6 := qh (hp6.less (F' := F) (fun k hk => .inl hk)); have hk7 := (KeepE.of_below X.B (fun _ => False) (Below.alloc (Below.refl _ _) (Nat.le_refl _) _)).then hk6 (fun i e => .inr (Nat.le_of_eq (by simpa [Value.ownBlock] using e))); have HK6 := qh (HK.out.trans hk7); clear ho6 hp6 hk6 hv6 hk7) | (go_at_call 79; go_must (refine (add_own HP6.out HO6.out HL.out HI2.out 8 a 0 ⟨#[]⟩ HC.out).mono ?_); rintro e w7 ⟨rfl, hp, hk⟩; replace HK := qh (HK6.out.trans hk); replace HP := qh hp; clear hp hk) | (go_at_call 77; go_must (first | (refine (K0.out _ HP.out).mono ?_; clear K0; rintro e w0 ⟨rfl, hp, hk⟩; replace HK := qh (HK.out.trans hk); replace HP := qh hp; clear hp hk; (try clear c2 c4 c5 hlt); obtain ⟨c2, c4, c5, hlt⟩ := HP.out.cells) | (refine (K2.out _ HP.out).mono ?_; clear K2; rintro e w2 ⟨rfl, hp, hk⟩; replace HK := qh (HK.out.trans hk); replace HP := qh hp; clear hp hk; (try clear c2 c4 c5 hlt); obtain ⟨c2, c4, c5, hlt⟩ := HP.out.cells))) | (go_at_call 55; go_must (first | (refine (K1.out _ HP.out).mono ?_; clear K1; rintro e w1 ⟨rfl, hp, hk⟩; replace HK := qh (HK.out.trans hk); replace HP := qh hp; clear hp hk; (try clear c2 c4 c5 hlt); obtain ⟨c2, c4, c5, hlt⟩ := HP.out.cells))) | (go_at_call 81; go_must (first | (refine (K3.out _ HP.out).mono ?_; clear K3; rintro e w3 ⟨rfl, hp, hk⟩; replace HK := qh (HK.out.trans hk); replace HP := qh hp; clear hp hk; (try clear c2 c4 c5 hlt); obtain ⟨c2, c4, c5, hlt⟩ := HP.out.cells))))
 go_ret
 exact ⟨rfl, HP.out, HK.out⟩
theorem round_any {X : Cx} {ex : Ex} (hex : Part X 55 ex) (hg : GdE X.L.length ex) {F : Nat → Prop} {s : PS} {m : Nat} {a : Int} {r : PS × Int} (hs : s.at_ ≤ X.n) (hn : X.L.length = X.n) (hbig : X.n ≤ 274877906944) (h : roundE ex X.L m a s = some r) (hc : r.1.ns.length ≤ 1099511627776) : Step X F 114 #[X.p, .int .i64 a] s (.int .i64 r.2) r.1 := by
 have kt : Step X F 77 #[X.p, .string gRp] s (.bool (takeP X.L gRp s).2) (takeP X.L gRp s).1 := take_step_ gRp (sml (by decide))
 unfold roundE at h
 split at h
 ·rename_i hy
  rw [hy] at kt
  obtain rfl := Option.some.inj h
  exact w114_nil kt (add_step hc)
 ·rename_i hy
  rw [Bool.eq_false_iff.2 hy] at kt
  split at h
  ·cases h
  rename_i s1 x he
  obtain ⟨g1, i1⟩ := hg _ _ he
  have gt := take_gr (L := X.L) (s := s1) gRp
  have k2 : Step X F 77 #[X.p, .string gRp] s1 (.bool (takeP X.L gRp s1).2) (takeP X.L gRp s1).1 := take_step_ gRp (sml (by decide))
  split at h
  ·rename_i hy2
   rw [hy2] at k2
   obtain rfl := Option.some.inj h
   exact w114_one kt (hex F _ (s1, x) he (Nat.le_trans gt.lenle hc)) k2
  ·rename_i hy2
   rw [Bool.eq_false_iff.2 hy2] at k2
   split at h
   ·cases h
   rename_i s2 kids hr
   obtain rfl := Option.some.inj h
   have gn := need_gr (L := X.L) (s := (takeP X.L gRp s1).1) gComma
   have hi1 := in_snoc (l := []) (fun k hk => by cases hk) ((i1.mono gt).mono gn)
   obtain ⟨g3, i3⟩ := rowE_gl hg _ _ _ _ _ hi1 hr
   have hlen := rowE_len hg _ _ _ _ _ hr
   have l1 := (add_gr (L := X.L) (s := s2) 8 a ⟨#[]⟩ 0 kids).lenle
   have ha := ((((take_gr (L := X.L) (s := s) gRp).trans g1).trans gt).trans gn).trans g3
   have ha2 := ha.le (by omega)
   have l3 := ((gt.trans gn).trans g3).lenle
   simp only at hlen ha2 l3 i3
   exact w114_row hex hg kt (hex F _ (s1, x) he (by simp only; omega)) k2 (need_step gComma (sml (by decide))) hr hi1 i3 (by simp only [List.length_cons, List.length_nil] at hlen; omega) (by omega) hc
end
section
open Go.RowKit
set_option linter.unusedVariables false
set_option linter.unusedSimpArgs false
theorem Rd.strs (w : World) (l : List ByteArray) (n : Nat) (hn : l.length = n) (cs : Array Value) (hc : cs = (l.map Value.string).toArray) (hm : n ≤ 9223372036854775807) : Rd (w.alloc (.cells cs 9)) (some ⟨w.heap.size, 0, none⟩) n n 1 (l.map Value.string) := by
 obtain ⟨A, c, e, h, _⟩ := Own.rd (sstr_own w l n hn cs hc hm)
 injection e with e1 e2 e3
 subst e1 e3
 exact h
theorem postfix_part {X : Cx} {ex : Ex} {m0 : Nat} (hat : Part X 111 (atomE ex X.L m0)) (hex : Part X 55 ex) (hgx : GdE X.L.length ex) : Part X 110 (postfixE ex X.L m0) := by
 intro F s r hr hc w h
 unfold postfixE at hr
 split at hr
 ·cases hr
 rename_i s1 x hx
 have g1 := atomE_gd hgx hx
 have g2 := postE_gd hgx m0 _ _ _ _ _ g1.2 hr
 have l2 := g2.1.lenle
 have K1 := qh (hat F s (s1, x) hx (Nat.le_trans l2 hc))
 have hxr := g1.2.rng (Nat.le_trans l2 hc)
 have HR := qh hr
 have HI := qh g1.2
 have HP := qh h
 have HEX := qh hex
 have HGX := qh hgx
 have HC := qh hc
 clear h hat hex hgx hc hr g1 g2 hx l2
 go_enter Tryd.func110, Tryd.ntmps110
 go_wp2_with (go_at_call 111; go_must (refine (K1.out _ HP.out).mono ?_); rintro e w1 ⟨rfl, hp, hk⟩; obtain ⟨c2, c4, c5, hlt⟩ := hp.cells; obtain ⟨hlk, hfd⟩ := hp.look hxr; have HP1 := qh hp; have HK1 := qh hk; clear hp hk)
 clear c2 c4 c5 hlk hfd hlt
 generalize placeOf s1 x = a at *
 go_loopw [3] (fun v wr => ∃ (m : Nat) (s1 : PS) (x : Int), v = .int .i64 x ∧ Hid (postE ex X.L m0 a m s1 x = some r) ∧ PAt X F wr s1 ∧ Keeps X.B w wr ∧ Hid (In s1 x)) (fun _ wr => X.n + 1 - atW X.pb wr)
 case atStart => exact ⟨m0, _, _, rfl, HR, HP1.out, HK1.out, HI⟩
 case round =>
  clear HP1 HK1 HI HR hxr
  obtain ⟨m', s1, x, rfl, HR1, hp1, hk1, HI1⟩ := hrel
  have hh := HR1.out
  have HP1 := qh hp1
  have HK1 := qh hk1
  have hat := hp1.atW
  clear hp1 hk1
  cases m' with
  | zero => cases hh
  | succ m' =>
   unfold postE at hh
   simp only at hh
   have hcs := any_cases (L := X.L) (s := s1) [gDot, gLp, gLb]
   rcases hcs with ⟨hA, _⟩ | ⟨t, ht, _, hA⟩
   ·rw [hA] at hh
    simp only [if_true] at hh
    obtain rfl := Option.some.inj hh
    go_wp2_with (first | (go_at_call 94; go_must (refine (any_ret' hA (HP1.out.bel_ (Below.alloc (Below.refl _ _) (Nat.le_refl _) _)) (Rd.strs _ [gDot, gLp, gLb] 3 rfl _ rfl (by omega)) rfl (by intro t ht; simp only [List.mem_cons, List.not_mem_nil, or_false] at ht; rcases ht with rfl | rfl | rfl <;> exact sml (by decide))).mono ?_); rintro e w2 ⟨rfl, hp, hk⟩; have hk' := (KeepE.of_below X.B (fun _ => False) (Below.alloc (Below.refl _ _) (Nat.le_refl _) _)).trans hk; have HP2 := qh hp; have HK2 := qh (HK1.out.trans hk'); clear hp hk hk'))
    go_ret
    exact ⟨rfl, HP2.out, HK2.out⟩
   ·rw [hA] at hh
    have gs : Gr X.L.length (-3) s1 (stepP s1 1) := by have := any_yes (L := X.L) (s := s1) (l := [gDot, gLp, gLb]) (by rw [hA]); rwa [hA] at this
    obtain ⟨s2, hs2⟩ : ∃ s2, s2 = stepP s1 1 := ⟨_, rfl⟩
    rw [← hs2] at hh gs hA
    have had : s2.at_ = s1.at_ + 1 := by rw [hs2]; rfl
    clear hs2
    have hx2 := HI1.out.mono gs
    simp only [Bool.true_eq_false, if_false] at hh
    simp only [List.mem_cons, List.not_mem_nil, or_false] at ht
    rcases ht with rfl | rfl | rfl
    ·rw [if_pos rfl] at hh
     have gn := name_gr (L := X.L) (s := s2)
     have ga := add_gr (L := X.L) (s := (nameP X.L s2).1) 18 a (nameP X.L s2).2 0 [x]
     have gp := postE_gd HGX.out m0 a m' _ _ _ (add_in ..) hh
     have lp := gp.1.lenle
     have hcc := HC.out
     have la := ga.lenle
     have HCA : Hid ((addP (nameP X.L s2).1 18 a (nameP X.L s2).2 0 [x]).1.ns.length ≤ 1099511627776) := qh (by omega)
     have HI3 := qh (one_rng (hx2.mono gn) (by omega))
     have HRR := qh hh
     have HII := qh (add_in (s := (nameP X.L s2).1) 18 a (nameP X.L s2).2 0 [x])
     have HUP := qh (show s1.at_ + 1 ≤ (addP (nameP X.L s2).1 18 a (nameP X.L s2).2 0 [x]).1.at_ from had ▸ (gn.trans ga).up)
     clear hh gn ga gp lp hcc la
     go_wp2_with (first | (go_at_call 94; go_must (refine (any_ret' hA (HP1.out.bel_ (Below.alloc (Below.refl _ _) (Nat.le_refl _) _)) (Rd.strs _ [gDot, gLp, gLb] 3 rfl _ rfl (by omega)) rfl (by intro t ht; simp only [List.mem_cons, List.not_mem_nil, or_false] at ht; rcases ht with rfl | rfl | rfl <;> exact sml (by decide))).mono ?_); rintro e w2 ⟨rfl, hp, hk⟩; have hk' := (KeepE.of_below X.B (fun _ => False) (Below.alloc (Below.refl _ _) (Nat.le_refl _) _)).trans hk; have HP2 := qh hp; have HK2 := qh (HK1.out.trans hk'); clear hp hk hk') | (go_at_call 95; go_must (refine (name_step _ HP2.out).mono ?_); rintro e w3 ⟨rfl, hp, hk⟩; have HP3 := qh hp; have HK3 := qh (HK2.out.trans hk); clear hp hk) | (go_at_call 79; go_must (refine (add_any (s := (nameP X.L s2).1) (HP3.out.bel_ (Below.alloc (Below.refl _ _) (Nat.le_refl _) _)) (Rd.ints _ [x] _ 1 rfl rfl (by omega)) rfl (by omega) HI3.out 18 a 0 _ HCA.out).mono ?_); rintro e w4 ⟨rfl, hp, hk⟩; have hk' := (KeepE.of_below X.B (fun _ => False) (Below.alloc (Below.refl _ _) (Nat.le_refl _) _)).trans hk; have HP4 := qh hp; have HK4 := qh (HK3.out.trans hk'); clear hp hk hk'))
     go_round
     case rel => exact ⟨m', _, _, rfl, HRR, HP4.out, HK4.out, HII⟩
     case measure =>
      have h1 := HP4.out.atW
      have h2 := HUP.out
      have h5 := HP4.out.at_
      omega
    ·rw [if_neg (by decide), if_pos rfl] at hh
     split at hh
     ·cases hh
     rename_i s3 kids hr3
     have hi2 := in_snoc (l := []) (fun k hk => by cases hk) hx2
     obtain ⟨g3, i3⟩ := rowE_gl HGX.out _ _ _ _ _ hi2 hr3
     have hlen := rowE_len HGX.out _ _ _ _ _ hr3
     have ga := add_gr (L := X.L) (s := s3) 17 a ⟨#[]⟩ 0 kids
     have gp := postE_gd HGX.out m0 a m' _ _ _ (add_in ..) hh
     have lp := gp.1.lenle
     have hcc := HC.out
     have la := ga.lenle
     have hln := HP1.out.ln
     have hle := HP1.out.at_
     have hbg := HP1.out.big
     have ha2 := (gs.trans g3).le (by omega)
     simp only [List.length_cons, List.length_nil] at hlen ha2 i3 la
     have HL : Hid (kids.length ≤ 4398046511103) := qh (by omega)
     have HCA : Hid ((addP s3 17 a ⟨#[]⟩ 0 kids).1.ns.length ≤ 1099511627776) := qh (by omega)
     have HC3 : Hid ((s3, kids).1.ns.length ≤ 1099511627776) := qh (by simp only; omega)
     have HR3 := qh hr3
     have HI2 := qh hi2
     have HI6 := qh i3
     have HRR := qh hh
     have HII := qh (add_in (s := s3) 17 a ⟨#[]⟩ 0 kids)
     have HUP := qh (show s1.at_ + 1 ≤ (addP s3 17 a ⟨#[]⟩ 0 kids).1.at_ from had ▸ (g3.trans ga).up)
     clear hh ga gp lp hcc la hr3 hi2 g3 i3 hlen hln hle hbg ha2
     go_wp2_with (first | (go_at_call 94; go_must (refine (any_ret' hA (HP1.out.bel_ (Below.alloc (Below.refl _ _) (Nat.le_refl _) _)) (Rd.strs _ [gDot, gLp, gLb] 3 rfl _ rfl (by omega)) rfl (by intro t ht; simp only [List.mem_cons, List.not_mem_nil, or_false] at ht; rcases ht with rfl | rfl | rfl <;> exact sml (by decide))).mono ?_); rintro e w2 ⟨rfl, hp, hk⟩; have hk' := (KeepE.of_below X.B (fun _ => False) (Below.alloc (Below.refl _ _) (Nat.le_refl _) _)).trans hk; have HP2 := qh hp; have HK2 := qh (HK1.out.trans hk'); clear hp hk hk') | (go_at_call 112; go_must (refine (row_any HEX.out HGX.out (F := F) (sml (by decide)) (kids := [x]) (HP2.out.beside (Below.alloc (Below.refl _ _) (Nat.le_refl _) _) (one_own _ [x] 1 rfl _ rfl (by omega)) (fun g e => Nat.le_of_eq (by simpa [Value.ownBlock] using e))) (one_own _ [x] 1 rfl _ rfl (by omega)) (fun g e => by have := HP2.out.wB; have e2 : _ = g := (by simpa [Value.ownBlock] using e); omega) HI2.out (by simp) HR3.out HC3.out).mono ?_); rintro e w6 ⟨v6, rfl, ho6, hp6, hk6, hv6⟩; obtain ⟨A6, c6, rfl, -, -⟩ := Own.rd ho6; have HO6 := qh ho6; have HP6 := qh (hp6.less (F' := F) (fun k hk => .inl hk)); have hk7 := (KeepE.of_below X.B (fun _ => False) (Below.alloc (Below.refl _ _) (Nat.le_refl _) _)).then hk6 (fun i e => .inr (Nat.le_of_eq (by simpa [Value.ownBlock] using e))); have HK6 := qh (HK2.out.trans hk7); clear ho6 hp6 hk6 hv6 hk7) | (go_at_call 79; go_must (refine (add_own HP6.out HO6.out HL.out HI6.out 17 a 0 ⟨#[]⟩ HCA.out).mono ?_); rintro e w4 ⟨rfl, hp, hk⟩; have HK4 := qh (HK6.out.trans hk); have HP4 := qh hp; clear hp hk))
     go_round
     case rel => exact ⟨m', _, _, rfl, HRR, HP4.out, HK4.out, HII⟩
     case measure =>
      have h1 := HP4.out.atW
      have h2 := HUP.out
      have h5 := HP4.out.at_
      omega
    ·rw [if_neg (by decide), if_neg (by decide)] at hh
     split at hh
     ·cases hh
     rename_i s3 y hr3
     obtain ⟨g3, i3⟩ := indexE_gd HGX.out hr3
     have gp := postE_gd HGX.out m0 a m' _ _ _ i3 hh
     have lp := gp.1.lenle
     have hcc := HC.out
     have KI := qh (index_any HEX.out HGX.out (F := F) hx2 hr3 (by simp only at lp ⊢; omega))
     have HRR := qh hh
     have HII := qh i3
     have HUP := qh (show s1.at_ + 1 ≤ s3.at_ from had ▸ g3.up)
     clear hh gp lp hcc hr3 g3 i3
     go_wp2_with (first | (go_at_call 94; go_must (refine (any_ret' hA (HP1.out.bel_ (Below.alloc (Below.refl _ _) (Nat.le_refl _) _)) (Rd.strs _ [gDot, gLp, gLb] 3 rfl _ rfl (by omega)) rfl (by intro t ht; simp only [List.mem_cons, List.not_mem_nil, or_false] at ht; rcases ht with rfl | rfl | rfl <;> exact sml (by decide))).mono ?_); rintro e w2 ⟨rfl, hp, hk⟩; have hk' := (KeepE.of_below X.B (fun _ => False) (Below.alloc (Below.refl _ _) (Nat.le_refl _) _)).trans hk; have HP2 := qh hp; have HK2 := qh (HK1.out.trans hk'); clear hp hk hk') | (go_at_call 113; go_must (refine (KI.out _ HP2.out).mono ?_); rintro e w4 ⟨rfl, hp, hk⟩; have HP4 := qh hp; have HK4 := qh (HK2.out.trans hk); clear hp hk))
     go_round
     case rel => exact ⟨m', _, _, rfl, HRR, HP4.out, HK4.out, HII⟩
     case measure =>
      have h1 := HP4.out.atW
      have h2 := HUP.out
      have h5 := HP4.out.at_
      omega
end
end Go.Proofs.YtjdcicopjipmnaaDoor
