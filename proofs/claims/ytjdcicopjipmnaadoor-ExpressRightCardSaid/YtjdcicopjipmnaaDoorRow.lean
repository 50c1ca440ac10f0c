/- row: exprs up to a sign. -/
import Derived.Test.YtjdcicopjipmnaaDoorIdx
namespace Go.Proofs.YtjdcicopjipmnaaDoor
open Go.RowKit
set_option linter.unusedVariables false
set_option linter.unusedSimpArgs false
/-- only rows of ints that no node has have turned -/
theorem PAt.mod3 {X : Cx} {F F' S : Nat → Prop} {w w' : World} {s : PS} (h : PAt X F w s) (hm : Mod S w w') (hS : ∀ k, k < w.heap.size → S k → F k ∧ X.B ≤ k ∧ ∃ cs, w.heap[k]? = some (.cells cs 3 (0, 0)))
    (hF : ∀ k, F' k → F k ∨ w.heap.size ≤ k) (hl : ∀ k, F' k → k < w'.heap.size) : PAt X F' w' s := by
  obtain ⟨v, h1, h2, h3⟩ := h.t
  have ne : ∀ {k : Nat} {t : TypeId} {cs : Array Value}, Blk w k t cs → t ≠ 3 → ¬ S k := fun hb ht hs => by
    obtain ⟨_, _, cs', hc⟩ := hS _ hb.lt hs
    exact hb.ne_ hc ht rfl
  obtain ⟨es, clock, em⟩ := h.m.isMap
  obtain ⟨Z, e, z1, z2⟩ := h3
  refine ⟨h.p.mod hm (ne h.p (by decide)), h.l.keep hm.size fun b o e hb => hm.block b hb fun hs => ?_, h.la, h.pB, h.bB, h.mB, Nat.le_trans h.wB hm.size, ⟨v, h1.mod hm (ne h1 (by decide)), h2, ?_⟩, h.m.keep (hm.block _ h.m.lt fun hs => ?_) rfl rfl, h.at_, h.dl, asp_block h.tab (hm.block 0 ?_ fun hs => ?_), h.ln, h.b0, h.big, h.ts, hl⟩
  · have := h.la b o e
    have := (hS b hb hs).2.1
    omega
  · refine ⟨Z, e, z1.keep fun b hb => hm.block b (z1.lt hb) fun hs => ?_, fun z hz => ⟨?_, fun b hb hf => ?_, (z2 z hz).2.2⟩⟩
    · obtain ⟨_, _, cs', hc⟩ := hS _ (z1.lt hb) hs
      exact own_blk_ne z1 hc (by decide) hb
    · exact Own.keep (z2 z hz).1 fun b hb => hm.block b ((z2 z hz).1.lt hb) fun hs => (z2 z hz).2.1 b hb (hS b ((z2 z hz).1.lt hb) hs).1
    · have h8 := (z2 z hz).1.lt hb
      rcases hF b hf with h9 | h9
      · exact (z2 z hz).2.1 b hb h9
      · omega
  · obtain ⟨_, _, cs', hc⟩ := hS _ h.m.lt hs
    rw [em] at hc
    cases hc
  · have := h.wB; have := h.b0; omega
  · have := (hS 0 (by have := h.wB; have := h.b0; omega) hs).2.1
    have := h.b0
    omega
abbrev withV (F : Nat → Prop) (v : Value) (k : Nat) : Prop := F k ∨ v.ownBlock = some k
/-- behind an append onto one's own row of ints -/
theorem PAt.app {X : Cx} {F : Nat → Prop} {w W' w6 : World} {s : PS} {v1 v6 : Value} {xs xs' : List Int} (h : PAt X (withV F v1) w s) (hb : Below w.heap.size w W') (ho : OwnI w v1 xs) (hB : ∀ g, v1.ownBlock = some g → X.B ≤ g) (hg : W'.grownBy w6 v1.ownBlock)
    (hn : v6.ownBlock = v1.ownBlock ∨ v6.ownBlock = some W'.heap.size) (ho6 : OwnI w6 v6 xs') : PAt X (withV F v6) w6 s ∧ KeepE X.B (fun k => v1.ownBlock = some k) w w6 ∧ (∀ g, v6.ownBlock = some g → v1.ownBlock = some g ∨ w.heap.size ≤ g) := by
  have hn' : ∀ g, v6.ownBlock = some g → v1.ownBlock = some g ∨ w.heap.size ≤ g := fun g e => by
    rcases hn with h1 | h1
    · exact .inl (h1 ▸ e)
    · rw [h1] at e
      injection e with e
      have := hb.size
      exact .inr (by omega)
  have hm : Mod (fun k => v1.ownBlock = some k) w w6 := ⟨hg.os.trans hb.os, hg.tape.trans hb.tape, hg.output.trans hb.output, Nat.le_trans hb.size hg.size, fun i hi hne => (hg.block i (Nat.lt_of_lt_of_le hi hb.size) (fun e => hne e.symm)).trans (hb.block i hi)⟩
  refine ⟨h.mod3 hm (fun k hk e => ⟨.inr e, hB k e, ?_⟩) (fun k hk => ?_) (fun k hk => ?_), KeepE.of_mod hm fun k hk e => .inl e, hn'⟩
  · rcases ho.2 with ⟨e2, _⟩ | ⟨g, c, cur, e2, hc, _⟩
    · rw [e2] at e; cases e
    · obtain rfl : g = k := by rw [e2] at e; simpa [Value.ownBlock] using e
      exact ⟨cur, hc⟩
  · rcases hk with hk | hk
    · exact .inl (.inl hk)
    · rcases hn' k hk with h1 | h1
      · exact .inl (.inr h1)
      · exact .inr h1
  · rcases hk with hk | hk
    · exact Nat.lt_of_lt_of_le (h.fl k (.inl hk)) hm.size
    · exact ho6.lt hk
/-- a new row of ints beside -/
theorem PAt.beside {X : Cx} {F : Nat → Prop} {w w' : World} {s : PS} {v : Value} {xs : List Int} (h : PAt X F w s) (hb : Below w.heap.size w w') (ho : OwnI w' v xs) (hv : ∀ g, v.ownBlock = some g → w.heap.size ≤ g) : PAt X (withV F v) w' s :=
  h.bel hb (fun k hk => hk.elim .inl fun e => .inr (hv k e)) fun k hk => hk.elim (fun h1 => Nat.lt_of_lt_of_le (h.fl k h1) hb.size) fun e => ho.lt e
theorem KeepE.ownI {B : Nat} {E : Nat → Prop} {w w1 : World} {v : Value} {xs : List Int} (h : KeepE B E w w1) (hb : OwnI w v xs) (hE : ∀ b, v.ownBlock = some b → ¬ E b) : OwnI w1 v xs := h.own hb hE (by decide)
/-- what a call that hands a row of ints on leaves -/
def RetL (X : Cx) (F : Nat → Prop) (w : World) (v0 : Value) (r : PS × List Int) (e : Ending) (w' : World) : Prop :=
  ∃ v', e = .returned v' ∧ OwnI w' v' r.2 ∧ PAt X (withV F v') w' r.1 ∧ KeepE X.B (fun k => v0.ownBlock = some k) w w' ∧ ∀ g, v'.ownBlock = some g → v0.ownBlock = some g ∨ w.heap.size ≤ g
set_option maxRecDepth 100000 in
set_option maxHeartbeats 4000000 in
theorem row_any {X : Cx} {ex : Ex} (hex : Part X 55 ex) (hgx : GdE X.L.length ex) {F : Nat → Prop} {w : World} {s : PS} {fin : ByteArray} (hf : fin.size ≤ maxLen) {kids : List Int} {A0 : Option Addr} {c0 : Nat} {m : Nat} {r : PS × List Int}
    (h : PAt X (withV F (.slice A0 kids.length c0)) w s) (ho : OwnI w (.slice A0 kids.length c0) kids) (hB : ∀ g, (Value.slice A0 kids.length c0).ownBlock = some g → X.B ≤ g) (hin : ∀ k ∈ kids, In s k) (hkl : kids.length ≤ 9) (hr : rowE ex X.L fin m s kids = some r) (hc : r.1.ns.length ≤ 1099511627776) :
    Calls Tryd.prog 112 #[X.p, .string fin, .slice A0 kids.length c0] w (RetL X F w (.slice A0 kids.length c0) r) := by
  unfold RetL
  have HP0 := Lib.hid h
  have HO0 := Lib.hid ho
  have HB0 := Lib.hid hB
  have HI0 := Lib.hid hin
  have HR0 := Lib.hid hr
  have HC := Lib.hid hc
  have HEX := Lib.hid hex
  have HGX := Lib.hid hgx
  obtain ⟨c2, c4, c5, hlt⟩ := h.cells
  clear h ho hB hin hr hc hex hgx
  go_enter Tryd.func112, Tryd.ntmps112
  go_wp2_with fail
  go_loopw [2] (fun v wr => ∃ (m : Nat) (s1 : PS) (K1 : List Int) (A1 : Option Addr) (c1 : Nat), v = .slice A1 K1.length c1 ∧ Hid (rowE ex X.L fin m s1 K1 = some r) ∧ PAt X (withV F (.slice A1 K1.length c1)) wr s1 ∧ OwnI wr (.slice A1 K1.length c1) K1 ∧ KeepE X.B (fun k => (Value.slice A0 kids.length c0).ownBlock = some k) w wr ∧ Hid (∀ g, (Value.slice A1 K1.length c1).ownBlock = some g → (Value.slice A0 kids.length c0).ownBlock = some g ∨ w.heap.size ≤ g) ∧ Hid (∀ k ∈ K1, In s1 k) ∧ K1.length ≤ 9 + s1.at_) (fun _ wr => X.n + 1 - atW X.pb wr)
  case atStart => exact ⟨m, s, kids, A0, c0, rfl, HR0, HP0.out, HO0.out, KeepE.refl _ _ _, Lib.hid fun g e => .inl e, HI0, by omega⟩
  case round =>
    obtain ⟨m', s1, K1, A1, c1, rfl, HR1, hp1, ho1, hk1, HV1, HI1, hl1⟩ := hrel
    have hh := HR1.out
    have HP1 := Lib.hid hp1
    have HO1 := Lib.hid ho1
    have HK1 := Lib.hid hk1
    obtain ⟨c2, c4, c5, hlt⟩ := hp1.cells
    have hat := hp1.atW
    have han := hp1.at_
    have hbn := hp1.big
    clear hp1 ho1 hk1
    cases m' with
    | zero => cases hh
    | succ m' =>
      unfold rowE at hh
      by_cases he : s1.e = 0
      · rw [if_neg (by simpa using he)] at hh
        rw [he] at c4
        have kt : Step X (withV F (.slice A1 K1.length c1)) 77 #[X.p, .string fin] s1 (.bool (takeP X.L fin s1).2) (takeP X.L fin s1).1 := take_step_ fin hf
        cases hy : (takeP X.L fin s1).2 with
        | true =>
          rw [hy] at hh kt
          simp only [if_true] at hh
          obtain rfl := Option.some.inj hh
          have K0 := Lib.hid kt
          clear hh kt hy
          go_wp2_with (go_at_call 77; go_must (refine (K0.out _ HP1.out).mono ?_); rintro e w3 ⟨rfl, hp, hk⟩; have HO3 := Lib.hid (hk.ownI HO1.out (fun _ _ => id)); have HP3 := Lib.hid hp; have HK3 := Lib.hid (HK1.out.then hk (fun _ => False.elim)); clear hp hk)
          go_ret
          exact ⟨_, rfl, HO3.out, HP3.out, HK3.out, HV1.out⟩
        | false =>
          rw [hy] at hh kt
          simp only [Bool.false_eq_true, if_false] at hh
          split at hh
          · cases hh
          rename_i s3 x hx
          have g0 := take_gr (L := X.L) (s := s1) fin
          obtain ⟨g1, i1⟩ := HGX.out _ _ hx
          have g2 := g0.trans g1
          have gc := take_gr (L := X.L) (s := s3) gComma
          have hup := g2.up
          have HB1 : Hid (∀ g, (Value.slice A1 K1.length c1).ownBlock = some g → X.B ≤ g) := Lib.hid fun g e => (HV1.out g e).elim (HB0.out g) fun h => Nat.le_trans HP0.out.wB h
          have kc : ∀ F', Step X F' 77 #[X.p, .string gComma] s3 (.bool (takeP X.L gComma s3).2) (takeP X.L gComma s3).1 := fun F' => take_step_ gComma (sml (by decide))
          have hin3 := in_snoc (in_all HI1.out (g2.trans gc)) (i1.mono gc)
          have HI3 := Lib.hid hin3
          cases hy2 : (takeP X.L gComma s3).2 with
          | true =>
            rw [hy2] at hh kc
            simp only [if_true] at hh
            have lc := (rowE_gl HGX.out fin m' _ _ _ hin3 hh).1.lenle
            have l1 := gc.lenle
            have hcc := HC.out
            have KX := Lib.hid (HEX.out (withV F (.slice A1 K1.length c1)) _ (s3, x) hx (by simp only; omega))
            have hadv := any_adv (L := X.L) (s := s3) (l := [gComma]) hy2
            have HR3 := Lib.hid hh
            have K0 := Lib.hid kt
            have KC := Lib.hid kc
            have HAD := Lib.hid (show (takeP X.L gComma s3).1.at_ = s3.at_ + 1 from hadv)
            clear hh kt hy hy2 g0 g1 g2 gc i1 hin3 kc lc l1 hcc hx hadv
            go_wp2_with (first | (at_builtin; go_must (refine wpList_appendN _ rfl _ _ rfl (.slice A1 K1.length c1) K1 rfl (HO4.out.bel (Below.alloc (Below.refl _ _) (Nat.le_refl _) _)) _ 1 1 [x] rfl Rd.one rfl (by omega) ?_); intro v6 w6 ho6 hg6 hn6; generalize hG : K1 ++ [x] = G at ho6; obtain ⟨A6, c6, rfl, -, -⟩ := Own.rd ho6; have HG := Lib.hid hG; obtain ⟨hp6, hk6, hv6⟩ := HP4.out.app (Below.alloc (Below.refl _ _) (Nat.le_refl _) _) HO4.out HB1.out hg6 hn6 ho6; have HV6 := Lib.hid (show ∀ g, (Value.slice A6 G.length c6).ownBlock = some g → (Value.slice A0 kids.length c0).ownBlock = some g ∨ w.heap.size ≤ g from fun g e => (hv6 g e).elim (HV1.out g) fun h => .inr (Nat.le_trans HK4.out.size h)); have HP6 := Lib.hid hp6; have HO6 := Lib.hid ho6; have HK6 := Lib.hid (HK4.out.then hk6 (fun i e => HV1.out i e)); clear hp6 ho6 hk6 hv6 hG hg6 hn6) | (go_at_call 77; go_must (first | (refine (K0.out _ HP1.out).mono ?_; clear K0; rintro e w3 ⟨rfl, hp, hk⟩; have HO3 := Lib.hid (hk.ownI HO1.out (fun _ _ => id)); have HP3 := Lib.hid hp; have HK3 := Lib.hid (HK1.out.then hk (fun _ => False.elim)); clear hp hk) | (refine (KC.out _ _ HP6.out).mono ?_; rintro e w7 ⟨rfl, hp, hk⟩; have HO7 := Lib.hid (hk.ownI HO6.out (fun _ _ => id)); have HP7 := Lib.hid hp; have HK7 := Lib.hid (HK6.out.then hk (fun _ => False.elim)); clear hp hk))) | (go_at_call 55; go_must (refine (KX.out _ HP3.out).mono ?_); rintro e w4 ⟨rfl, hp, hk⟩; have HO4 := Lib.hid (hk.ownI HO3.out (fun _ _ => id)); have HP4 := Lib.hid hp; have HK4 := Lib.hid (HK3.out.then hk (fun _ => False.elim)); clear hp hk))
            go_round
            case rel => exact ⟨m', _, G, A6, c6, rfl, Lib.hid (by rw [← HG.out]; exact HR3.out), HP7.out, HO7.out, HK7.out, HV6, Lib.hid (by rw [← HG.out]; exact HI3.out), by rw [← HG.out, List.length_append, HAD.out]; show K1.length + 1 ≤ _; omega⟩
            case measure =>
              have h1 := HP7.out.atW
              have h2 := HAD.out
              have h5 := HP7.out.at_
              omega
          | false =>
            rw [hy2] at hh kc
            simp only [Bool.false_eq_true, if_false] at hh
            obtain rfl := Option.some.inj hh
            have gn := need_gr (L := X.L) (s := (takeP X.L gComma s3).1) fin
            have lc := gn.lenle
            have l1 := gc.lenle
            have hcc := HC.out
            simp only at hcc
            have KX := Lib.hid (HEX.out (withV F (.slice A1 K1.length c1)) _ (s3, x) hx (by simp only; omega))
            have KN := Lib.hid (show ∀ F', Step X F' 81 #[X.p, .string fin] (takeP X.L gComma s3).1 (.tuple #[]) (needP X.L fin (takeP X.L gComma s3).1) from fun F' => need_step fin hf)
            have K0 := Lib.hid kt
            have KC := Lib.hid kc
            clear hh kt hy hy2 g0 g1 g2 gc i1 hin3 kc lc l1 hcc hx gn
            go_wp2_with (first | (at_builtin; go_must (refine wpList_appendN _ rfl _ _ rfl (.slice A1 K1.length c1) K1 rfl (HO4.out.bel (Below.alloc (Below.refl _ _) (Nat.le_refl _) _)) _ 1 1 [x] rfl Rd.one rfl (by omega) ?_); intro v6 w6 ho6 hg6 hn6; generalize hG : K1 ++ [x] = G at ho6; obtain ⟨A6, c6, rfl, -, -⟩ := Own.rd ho6; have HG := Lib.hid hG; obtain ⟨hp6, hk6, hv6⟩ := HP4.out.app (Below.alloc (Below.refl _ _) (Nat.le_refl _) _) HO4.out HB1.out hg6 hn6 ho6; have HV6 := Lib.hid (show ∀ g, (Value.slice A6 G.length c6).ownBlock = some g → (Value.slice A0 kids.length c0).ownBlock = some g ∨ w.heap.size ≤ g from fun g e => (hv6 g e).elim (HV1.out g) fun h => .inr (Nat.le_trans HK4.out.size h)); have HP6 := Lib.hid hp6; have HO6 := Lib.hid ho6; have HK6 := Lib.hid (HK4.out.then hk6 (fun i e => HV1.out i e)); clear hp6 ho6 hk6 hv6 hG hg6 hn6) | (go_at_call 77; go_must (first | (refine (K0.out _ HP1.out).mono ?_; clear K0; rintro e w3 ⟨rfl, hp, hk⟩; have HO3 := Lib.hid (hk.ownI HO1.out (fun _ _ => id)); have HP3 := Lib.hid hp; have HK3 := Lib.hid (HK1.out.then hk (fun _ => False.elim)); clear hp hk) | (refine (KC.out _ _ HP6.out).mono ?_; rintro e w7 ⟨rfl, hp, hk⟩; have HO7 := Lib.hid (hk.ownI HO6.out (fun _ _ => id)); have HP7 := Lib.hid hp; have HK7 := Lib.hid (HK6.out.then hk (fun _ => False.elim)); clear hp hk))) | (go_at_call 55; go_must (refine (KX.out _ HP3.out).mono ?_); rintro e w4 ⟨rfl, hp, hk⟩; have HO4 := Lib.hid (hk.ownI HO3.out (fun _ _ => id)); have HP4 := Lib.hid hp; have HK4 := Lib.hid (HK3.out.then hk (fun _ => False.elim)); clear hp hk) | (go_at_call 81; go_must (refine (KN.out _ _ HP7.out).mono ?_); rintro e w8 ⟨rfl, hp, hk⟩; have HO8 := Lib.hid (hk.ownI HO7.out (fun _ _ => id)); have HP8 := Lib.hid hp; have HK8 := Lib.hid (HK7.out.then hk (fun _ => False.elim)); clear hp hk))
            go_ret
            rw [HG.out]
            exact ⟨_, rfl, HO8.out, HP8.out, HK8.out, HV6.out⟩
      · rw [if_pos he] at hh
        obtain rfl := Option.some.inj hh
        have he' : (s1.e == 0) = false := by simpa using he
        clear hh
        go_wp2_with fail
        go_ret
        exact ⟨_, rfl, HO1.out, HP1.out, HK1.out, HV1.out⟩
end Go.Proofs.YtjdcicopjipmnaaDoor
