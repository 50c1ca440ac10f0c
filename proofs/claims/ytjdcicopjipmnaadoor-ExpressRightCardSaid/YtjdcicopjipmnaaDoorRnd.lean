/- round: what stands between round brackets. -/
import Derived.Test.YtjdcicopjipmnaaDoorPai
namespace Go.Proofs.YtjdcicopjipmnaaDoor
open Go.RowKit
set_option linter.unusedVariables false
set_option linter.unusedSimpArgs false
theorem one_own (w : World) (l : List Int) (n : Nat) (hn : l.length = n) (cs : Array Value) (hc : cs = (ics l).toArray) (hm : n ≤ 9223372036854775807) : OwnI (w.alloc (.cells cs 3)) (.slice (some ⟨w.heap.size, 0, none⟩) n n) l := by
  have h := Own.made (t := 3) (sz := 1) w cs n hm (by rw [hc]; simp [ics, hn])
  unfold OwnI
  rw [hc] at h ⊢
  rw [hn]
  exact h
theorem rowE_len {ex : Ex} {L : List TokD} (hex : GdE L.length ex) (fin : ByteArray) : ∀ (m : Nat) (s : PS) (kids : List Int) (r : PS × List Int), rowE ex L fin m s kids = some r → r.2.length + s.at_ ≤ kids.length + r.1.at_ + 1
  | 0, s, kids, r, h => by cases h
  | m + 1, s, kids, r, h => by
    unfold rowE at h
    split at h
    · obtain rfl := Option.some.inj h
      simp only
      omega
    · have g0 := take_gr (L := L) (s := s) fin
      have u0 := g0.up
      split at h
      · obtain rfl := Option.some.inj h
        simp only
        omega
      · split at h
        · cases h
        · rename_i s1 x he
          have u1 := (hex _ _ he).1.up
          simp only at u1
          split at h
          · rename_i hy
            have hadv := any_adv (L := L) (s := s1) (l := [gComma]) hy
            have ih := rowE_len hex fin m _ _ _ h
            have e : (takeP L gComma s1).1.at_ = s1.at_ + 1 := hadv
            rw [e, List.length_append] at ih
            simp only [List.length_cons, List.length_nil] at ih
            omega
          · obtain rfl := Option.some.inj h
            have u2 := ((take_gr (L := L) (s := s1) gComma).trans (need_gr (L := L) fin)).up
            simp only [List.length_append, List.length_cons, List.length_nil]
            omega
theorem add_own {X : Cx} {F : Nat → Prop} {w : World} {s : PS} {A : Option Addr} {c : Nat} {kids : List Int} (h : PAt X F w s) (ho : OwnI w (.slice A kids.length c) kids) (hkb : kids.length ≤ 4398046511103) (hin : ∀ x ∈ kids, In s x)
    (op at_ n : Int) (t : ByteArray) (hcap : (addP s op at_ t n kids).1.ns.length ≤ 1099511627776) :
    Calls Tryd.prog 79 #[X.p, .int .i64 op, .int .i64 at_, .string t, .int .i64 n, .slice A kids.length c] w (Ret X F w (addP s op at_ t n kids)) := by
  obtain ⟨A', c', e, hr, _⟩ := Own.rd ho
  injection e with e1 e2 e3
  subst e1 e3
  have l1 := (add_gr (L := X.L) (s := s) op at_ t n kids).lenle
  exact add_any h hr rfl hkb (fun x hx => (hin x hx).rng (Nat.le_trans l1 hcap)) op at_ n t hcap
set_option maxRecDepth 100000 in
set_option maxHeartbeats 4000000 in
theorem w114_nil {X : Cx} {F : Nat → Prop} {s s1 s2 : PS} {y a : Int}
    (k0 : Step X F 77 #[X.p, .string gRp] s (.bool true) s1)
    (k1 : Step X F 79 #[X.p, .int .i64 8, .int .i64 a, .string ⟨#[]⟩, .int .i64 0, .slice none 0 0] s1 (.int .i64 y) s2) :
    Step X F 114 #[X.p, .int .i64 a] s (.int .i64 y) s2 := by
  intro w h
  have HP := Lib.hid h
  have K0 := Lib.hid k0
  have K1 := Lib.hid k1
  have HK := Lib.hid (KeepE.refl X.B (fun _ => False) w)
  obtain ⟨c2, c4, c5, hlt⟩ := h.cells
  clear h k0 k1
  go_enter Tryd.func114, Tryd.ntmps114
  go_wp2_with (first | (go_at_call 77; go_must (first | (refine (K0.out _ HP.out).mono ?_; clear K0; rintro e w0 ⟨rfl, hp, hk⟩; replace HK := Lib.hid (HK.out.trans hk); replace HP := Lib.hid hp; clear hp hk; (try clear c2 c4 c5 hlt); obtain ⟨c2, c4, c5, hlt⟩ := HP.out.cells))) | (go_at_call 79; go_must (first | (refine (K1.out _ HP.out).mono ?_; clear K1; rintro e w1 ⟨rfl, hp, hk⟩; replace HK := Lib.hid (HK.out.trans hk); replace HP := Lib.hid hp; clear hp hk; (try clear c2 c4 c5 hlt); obtain ⟨c2, c4, c5, hlt⟩ := HP.out.cells))))
  go_ret
  exact ⟨rfl, HP.out, HK.out⟩
set_option maxRecDepth 100000 in
set_option maxHeartbeats 4000000 in
theorem w114_one {X : Cx} {F : Nat → Prop} {s s1 s2 s3 : PS} {x a : Int}
    (k0 : Step X F 77 #[X.p, .string gRp] s (.bool false) s1)
    (k1 : Step X F 55 #[X.p] s1 (.int .i64 x) s2)
    (k2 : Step X F 77 #[X.p, .string gRp] s2 (.bool true) s3) :
    Step X F 114 #[X.p, .int .i64 a] s (.int .i64 x) s3 := by
  intro w h
  have HP := Lib.hid h
  have K0 := Lib.hid k0
  have K1 := Lib.hid k1
  have K2 := Lib.hid k2
  have HK := Lib.hid (KeepE.refl X.B (fun _ => False) w)
  obtain ⟨c2, c4, c5, hlt⟩ := h.cells
  clear h k0 k1 k2
  go_enter Tryd.func114, Tryd.ntmps114
  go_wp2_with (first | (go_at_call 77; go_must (first | (refine (K0.out _ HP.out).mono ?_; clear K0; rintro e w0 ⟨rfl, hp, hk⟩; replace HK := Lib.hid (HK.out.trans hk); replace HP := Lib.hid hp; clear hp hk; (try clear c2 c4 c5 hlt); obtain ⟨c2, c4, c5, hlt⟩ := HP.out.cells) | (refine (K2.out _ HP.out).mono ?_; clear K2; rintro e w2 ⟨rfl, hp, hk⟩; replace HK := Lib.hid (HK.out.trans hk); replace HP := Lib.hid hp; clear hp hk; (try clear c2 c4 c5 hlt); obtain ⟨c2, c4, c5, hlt⟩ := HP.out.cells))) | (go_at_call 55; go_must (first | (refine (K1.out _ HP.out).mono ?_; clear K1; rintro e w1 ⟨rfl, hp, hk⟩; replace HK := Lib.hid (HK.out.trans hk); replace HP := Lib.hid hp; clear hp hk; (try clear c2 c4 c5 hlt); obtain ⟨c2, c4, c5, hlt⟩ := HP.out.cells))))
  go_ret
  exact ⟨rfl, HP.out, HK.out⟩
set_option maxRecDepth 100000 in
set_option maxHeartbeats 4000000 in
theorem w114_row {X : Cx} {F : Nat → Prop} {ex : Ex} {s s1 s2 s3 s4 s5 : PS} {x a : Int} {m : Nat} {kids : List Int} (hex : Part X 55 ex) (hgx : GdE X.L.length ex)
    (k0 : Step X F 77 #[X.p, .string gRp] s (.bool false) s1)
    (k1 : Step X F 55 #[X.p] s1 (.int .i64 x) s2)
    (k2 : Step X F 77 #[X.p, .string gRp] s2 (.bool false) s3)
    (k3 : Step X F 81 #[X.p, .string gComma] s3 (.tuple #[]) s4)
    (hr : rowE ex X.L gRp m s4 [x] = some (s5, kids)) (hi : ∀ k ∈ [x], In s4 k) (hi2 : ∀ k ∈ kids, In s5 k) (hl : kids.length ≤ 4398046511103) (hc2 : s5.ns.length ≤ 1099511627776) (hc : (addP s5 8 a ⟨#[]⟩ 0 kids).1.ns.length ≤ 1099511627776) :
    Step X F 114 #[X.p, .int .i64 a] s (.int .i64 (addP s5 8 a ⟨#[]⟩ 0 kids).2) (addP s5 8 a ⟨#[]⟩ 0 kids).1 := by
  intro w h
  have HP := Lib.hid h
  have K0 := Lib.hid k0
  have K1 := Lib.hid k1
  have K2 := Lib.hid k2
  have K3 := Lib.hid k3
  have HK := Lib.hid (KeepE.refl X.B (fun _ => False) w)
  obtain ⟨c2, c4, c5, hlt⟩ := h.cells
  clear h k0 k1 k2 k3
  have HEX := Lib.hid hex
  have HGX := Lib.hid hgx
  have HR := Lib.hid hr
  have HI := Lib.hid hi
  have HI2 := Lib.hid hi2
  have HL := Lib.hid hl
  have HC2 : Hid ((s5, kids).1.ns.length ≤ 1099511627776) := Lib.hid hc2
  have HC := Lib.hid hc
  clear hex hgx hr hi hi2 hl hc2 hc
  go_enter Tryd.func114, Tryd.ntmps114
  go_wp2_with (first | (go_at_call 112; go_must (refine (row_any HEX.out HGX.out (F := F) (sml (by decide)) (kids := [x]) (HP.out.beside (Below.alloc (Below.refl _ _) (Nat.le_refl _) _) (one_own _ [x] 1 rfl _ rfl (by omega)) (fun g e => Nat.le_of_eq (by simpa [Value.ownBlock] using e))) (one_own _ [x] 1 rfl _ rfl (by omega)) (fun g e => by have := HP.out.wB; have e2 : _ = g := (by simpa [Value.ownBlock] using e); omega) HI.out (by simp) HR.out HC2.out).mono ?_); rintro e w6 ⟨v6, rfl, ho6, hp6, hk6, hv6⟩; obtain ⟨A6, c6, rfl, -, -⟩ := Own.rd ho6; have HO6 := Lib.hid ho6; have HP6 := Lib.hid (hp6.less (F' := F) (fun k hk => .inl hk)); have hk7 := (KeepE.of_below X.B (fun _ => False) (Below.alloc (Below.refl _ _) (Nat.le_refl _) _)).then hk6 (fun i e => .inr (Nat.le_of_eq (by simpa [Value.ownBlock] using e))); have HK6 := Lib.hid (HK.out.trans hk7); clear ho6 hp6 hk6 hv6 hk7) | (go_at_call 79; go_must (refine (add_own HP6.out HO6.out HL.out HI2.out 8 a 0 ⟨#[]⟩ HC.out).mono ?_); rintro e w7 ⟨rfl, hp, hk⟩; replace HK := Lib.hid (HK6.out.trans hk); replace HP := Lib.hid hp; clear hp hk) | (go_at_call 77; go_must (first | (refine (K0.out _ HP.out).mono ?_; clear K0; rintro e w0 ⟨rfl, hp, hk⟩; replace HK := Lib.hid (HK.out.trans hk); replace HP := Lib.hid hp; clear hp hk; (try clear c2 c4 c5 hlt); obtain ⟨c2, c4, c5, hlt⟩ := HP.out.cells) | (refine (K2.out _ HP.out).mono ?_; clear K2; rintro e w2 ⟨rfl, hp, hk⟩; replace HK := Lib.hid (HK.out.trans hk); replace HP := Lib.hid hp; clear hp hk; (try clear c2 c4 c5 hlt); obtain ⟨c2, c4, c5, hlt⟩ := HP.out.cells))) | (go_at_call 55; go_must (first | (refine (K1.out _ HP.out).mono ?_; clear K1; rintro e w1 ⟨rfl, hp, hk⟩; replace HK := Lib.hid (HK.out.trans hk); replace HP := Lib.hid hp; clear hp hk; (try clear c2 c4 c5 hlt); obtain ⟨c2, c4, c5, hlt⟩ := HP.out.cells))) | (go_at_call 81; go_must (first | (refine (K3.out _ HP.out).mono ?_; clear K3; rintro e w3 ⟨rfl, hp, hk⟩; replace HK := Lib.hid (HK.out.trans hk); replace HP := Lib.hid hp; clear hp hk; (try clear c2 c4 c5 hlt); obtain ⟨c2, c4, c5, hlt⟩ := HP.out.cells))))
  go_ret
  exact ⟨rfl, HP.out, HK.out⟩
theorem round_any {X : Cx} {ex : Ex} (hex : Part X 55 ex) (hg : GdE X.L.length ex) {F : Nat → Prop} {s : PS} {m : Nat} {a : Int} {r : PS × Int} (hs : s.at_ ≤ X.n) (hn : X.L.length = X.n) (hbig : X.n ≤ 274877906944) (h : roundE ex X.L m a s = some r) (hc : r.1.ns.length ≤ 1099511627776) : Step X F 114 #[X.p, .int .i64 a] s (.int .i64 r.2) r.1 := by
  have kt : Step X F 77 #[X.p, .string gRp] s (.bool (takeP X.L gRp s).2) (takeP X.L gRp s).1 := take_step_ gRp (sml (by decide))
  unfold roundE at h
  split at h
  · rename_i hy
    rw [hy] at kt
    obtain rfl := Option.some.inj h
    exact w114_nil kt (add_step hc)
  · rename_i hy
    rw [Bool.eq_false_iff.2 hy] at kt
    split at h
    · cases h
    rename_i s1 x he
    obtain ⟨g1, i1⟩ := hg _ _ he
    have gt := take_gr (L := X.L) (s := s1) gRp
    have k2 : Step X F 77 #[X.p, .string gRp] s1 (.bool (takeP X.L gRp s1).2) (takeP X.L gRp s1).1 := take_step_ gRp (sml (by decide))
    split at h
    · rename_i hy2
      rw [hy2] at k2
      obtain rfl := Option.some.inj h
      exact w114_one kt (hex F _ (s1, x) he (Nat.le_trans gt.lenle hc)) k2
    · rename_i hy2
      rw [Bool.eq_false_iff.2 hy2] at k2
      split at h
      · cases h
      rename_i s2 kids hr
      obtain rfl := Option.some.inj h
      have gn := need_gr (L := X.L) (s := (takeP X.L gRp s1).1) gComma
      have hi1 := in_snoc (l := []) (fun k hk => by cases hk) ((i1.mono gt).mono gn)
      obtain ⟨g3, i3⟩ := rowE_gl hg _ _ _ _ _ hi1 hr
      have hlen := rowE_len hg _ _ _ _ _ hr
      have l1 := (add_gr (L := X.L) (s := s2) 8 a ⟨#[]⟩ 0 kids).lenle
      have ha := ((((take_gr (L := X.L) (s := s) gRp).trans g1).trans gt).trans gn).trans g3
      have ha2 := ha.le (by omega)
      have l3 := ((gt.trans gn).trans g3).lenle
      simp only at hlen ha2 l3 i3
      exact w114_row hex hg kt (hex F _ (s1, x) he (by simp only; omega)) k2 (need_step gComma (sml (by decide))) hr hi1 i3 (by simp only [List.length_cons, List.length_nil] at hlen; omega) (by omega) hc
end Go.Proofs.YtjdcicopjipmnaaDoor
