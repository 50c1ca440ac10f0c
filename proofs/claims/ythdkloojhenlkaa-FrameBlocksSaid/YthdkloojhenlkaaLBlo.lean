/- FrameBlocks: the walk. -/
import Derived.Test.YthdkloojhenlkaaBlo
import Derived.IntWalk
namespace Go.Proofs.Ythdkloojhenlkaa
open Go.RowKit
attribute [local go_sem high] guardV eqV neqV
attribute [local go_sem] V.v

theorem cellsX {w : World} {b : Nat} {T : TypeId} {x : V} (h : Blk w b T #[.int .i64 x.k, .int .i64 x.n, .string x.s]) :
    w.cell? ⟨b, 0, none⟩ = some (.int .i64 x.k) ∧ w.cell? ⟨b, 1, none⟩ = some (.int .i64 x.n) ∧ w.cell? ⟨b, 2, none⟩ = some (.string x.s) := ⟨h.cell 0, h.cell 1, h.cell 2⟩

theorem newrowB {w u : World} (hb : Below w.heap.size w u) {e0 : Nat} (he : e0 = u.heap.size) : NewRow w (u.alloc (.cells #[] 44)) (.slice (some ⟨e0, 0, none⟩) 0 0) [] := by
  subst he
  exact ⟨empty_own u, fun b e => by simp [Value.ownBlock] at e; have := hb.size; omega, hb.alloc hb.size _⟩
/-- from here on a stronger condition is kept -/
theorem wpAnyH_stronger {P : Program} {md : Region.Mode} {ops : Array Oper} {Q : Exit → Act → World → Prop} {S S' : World → Prop} (h : ∀ w, S' w → S w) :
    ∀ (fuel : Nat) (listed : Array Bool) (a : Act) (w : World), wpAnyH P md ops Q S' fuel listed a w → wpAnyH P md ops Q S fuel listed a w
  | 0, _, _, _, hh => hh
  | fuel + 1, _, _, _, hh => ⟨hh.1, fun i hi => wpOp_mono (fun a' w' h' => ⟨h _ h'.1, wpAnyH_stronger h fuel _ a' w' h'.2⟩) (hh.2 i hi)⟩

set_option maxRecDepth 100000 in
set_option maxHeartbeats 40000000 in
theorem blocks_walk (A : Option Addr) (n c lv : Nat) (ls : List (List V)) (x : V) (w : World) (hA : RdVV w A n c ls) (hlv : lv < 256) :
    Calls Try.prog 4 #[.slice A n c, .int .u8 lv, .agg #[.int .i64 x.k, .int .i64 x.n, .string x.s]] w fun e w' => e = .returned (.bool true) ∧ Below w.heap.size w w' := by
  have hn : n ≤ 9223372036854775807 := by have := hA.2.1; have := hA.2.2.1; omega
  have hbx : Below w.heap.size w (w.alloc (.cells #[.int .i64 x.k, .int .i64 x.n, .string x.s] 44)) := (by repeat (first | exact Below.refl _ _ | assumption | refine Below.setCell ?_ (by first | (simp; done) | (simp; omega) | omega) _ | refine below_drewN ?_ _ | refine Below.drew ?_ | refine Below.alloc ?_ (by first | (simp; done) | (simp; omega) | omega) _))
  have BX := Blk.new w 44 #[.int .i64 x.k, .int .i64 x.n, .string x.s]
  have hA := hA.new hbx
  go_enter Try.func4, Try.ntmps4
  go_wp2_with fail
  refine (shown_any _).mono ?_
  rintro e w1 ⟨rfl, hb1⟩
  have HB1 := hbx.trans (hb1.mono (by simp))
  have BX := BX.below hb1 BX.lt
  have hxl := BX.lt
  have hA := hA.new hb1
  clear hb1 hbx
  go_wp2_with fail
  refine (empty_env _).mono ?_
  rintro e w2 ⟨S2, g, rfl, E2⟩
  have BX := BX.below E2.bel hxl
  have hz2 := E2.bel.size
  go_wp2
  have hb3 : Below w2.heap.size w2 ((w2.alloc (.cells #[] 3)).alloc (.cells #[] 44)) := (by repeat (first | exact Below.refl _ _ | assumption | refine Below.setCell ?_ (by first | (simp; done) | (simp; omega) | omega) _ | refine below_drewN ?_ _ | refine Below.drew ?_ | refine Below.alloc ?_ (by first | (simp; done) | (simp; omega) | omega) _))
  have st : BloSt w1 x w.heap.size S2 g (fb [] [] 0) (.slice (some ⟨w2.heap.size, 0, none⟩) 0 0) (.slice (some ⟨w2.heap.size + 1, 0, none⟩) 0 0) [] [] ((w2.alloc (.cells #[] 3)).alloc (.cells #[] 44)) := by
    refine ⟨E2.new hb3, Own.new (emptyI_own w2) (by repeat (first | exact Below.refl _ _ | assumption | refine Below.setCell ?_ (by first | (simp; done) | (simp; omega) | omega) _ | refine below_drewN ?_ _ | refine Below.drew ?_ | refine Below.alloc ?_ (by first | (simp; done) | (simp; omega) | omega) _)), fun b e => ?_, by have := empty_own (w2.alloc (.cells #[] 3)); simpa using this, fun b e => ?_, BX.below hb3 BX.lt, hxl⟩
    · simp [Value.ownBlock] at e; exact ⟨fun h => by have := E2.lt h; omega, by omega⟩
    · simp [Value.ownBlock] at e; exact ⟨fun h => by have := E2.lt h; omega, by omega⟩
  clear hb3 E2 BX
  go_loopw [9, 10, 11] (fun vH vA i wr => ∃ (k : Nat) (S : Nat → Prop), k ≤ n ∧ k ≤ 6 ∧ i = .int .i64 k ∧ BloSt w1 x w.heap.size S g (fb (flatR ls k) (blkR ls k) 0) vH vA (hts ls k) (flatR ls k) wr) (fun _ _ i _ => 6 - (intOf i).toNat)
  case atStart => exact ⟨0, S2, by omega, by omega, rfl, st⟩
  case round =>
    clear st
    obtain ⟨k, S, hk, hk6, rfl, s⟩ := hrel
    by_cases hlt : k < n ∧ k < 6
    · obtain ⟨hlt, hl6⟩ := hlt
      have hkl : k < ls.length := by rw [hA.1]; exact hlt
      obtain ⟨b, o, A', n', c', eA, hbb, hcell, hrow⟩ := hA.2.2.2 k hkl
      have hAk := hA
      rw [eA] at hAk
      subst eA
      have HFS := Lib.hid (flatR_succ ls k hkl)
      have HHS := Lib.hid (hts_succ ls k)
      have HBS := Lib.hid (blkR_succ ls k)
      have hfl := flatR_len ls k
      have hfl2 := flatR_len ls (k + 1)
      have hhl := hts_len ls k
      have hcl := cutRow_length ls[k]
      generalize ls[k] = lk at *
      obtain ⟨AH, nH, cH, rfl, _, _⟩ := OwnI.rd s.h
      obtain ⟨AA, nA, cA, rfl, _, _⟩ := OwnV.rd s.a
      have hc1 := (s.env.bel.cell (p := ⟨b, o + k, none⟩) hbb).trans hcell
      go_wp2_with fail
      refine (row_env s.env (hrow.new s.env.bel)).mono ?_
      rintro e wa ⟨Ax, cx, rfl, RX, Ea, hba⟩
      have s1 := s.below hba
      clear s hba Ea hc1
      go_wp2_with fail
      refine (push_env s1.env _ _ _ _ RX.rd (by simp [fb]; omega)).mono ?_
      rintro e wb ⟨Sb, rfl, Eb, Kb⟩
      have s2 := s1.kept Kb Eb
      have hc2 := (s2.env.bel.cell (p := ⟨b, o + k, none⟩) hbb).trans hcell
      clear s1 Eb Kb RX
      go_wp2_with fail
      refine (row_env s2.env (hrow.new s2.env.bel)).mono ?_
      rintro e wc ⟨Ay, cy, rfl, RY, Ec, hbc⟩
      have s3 := s2.below hbc
      clear s2 hbc Ec hc2
      go_wp2_with (first
        | (at_builtin; refine wpList_appendV _ rfl (.tmp 45) (.tmp 50) rfl (.slice AA nA cA) (flatR ls k) rfl s3.a Ay _ cy (cutRow lk) rfl RY.rd (by omega) ?_; intro v4 wd hv4 hg4 ha4; obtain ⟨A4, n4, c4, rfl, R4, _⟩ := OwnV.rd hv4; have s4 := s3.appA hv4 hg4 ha4; have hn4 : (flatR ls k ++ cutRow lk).length = n4 := R4.1; have HN4 := Lib.hid hn4; have s5 := s4.below (w' := wd.alloc (.cells #[.int .i64 (n4 : Int)] 3)) (by exact (by repeat (first | exact Below.refl _ _ | assumption | refine Below.setCell ?_ (by first | (simp; done) | (simp; omega) | omega) _ | refine below_drewN ?_ _ | refine Below.drew ?_ | refine Below.alloc ?_ (by first | (simp; done) | (simp; omega) | omega) _))); have HR4 := Lib.hid R4; have hn4' : n4 ≤ 72 := (by rw [← hn4, ← HFS.out]; omega); clear s4 s3 hv4 hg4 ha4 RY hn4 R4)
        | (at_builtin; refine wpList_appendI _ rfl (.tmp 52) (.tmp 55) rfl (.slice AH nH cH) (hts ls k) rfl s5.h (some ⟨wd.heap.size, 0, none⟩) 1 1 [(n4 : Int)] rfl (one_rdI wd n4) (by omega) ?_; intro v6 we hv6 hg6 ha6; obtain ⟨A6, n6, c6, rfl, _, _⟩ := OwnI.rd hv6; have s6 := s5.appH hv6 hg6 ha6; clear s5 hv6 hg6 ha6))
      refine (enter_env s6.env (100 + (k : Int)) (by simp [fb, blkR_len]; omega)).mono ?_
      rintro e wf ⟨Sf, rfl, Ef, Kf⟩
      have s7 := s6.kept Kf Ef
      have HS7 := Lib.hid s7
      clear s6 s7 Ef Kf
      go_wp2
      go_roundw
      case rel =>
        refine ⟨k + 1, Sf, by omega, by omega, by go_num, ?_⟩
        have h7 := HS7.out
        rw [HHS.out, HBS.out, HFS.out, HN4.out]
        have e4 : ((flatR ls k ++ cutRow lk).length : Int) = (n4 : Int) := by rw [HN4.out]
        simpa [fb, HN4.out, e4] using h7
      case measure => simp [intOf]; omega
    · have hfl := flatR_len ls k
      have hhl := hts_len ls k
      have hbl := blkR_len ls k
      obtain ⟨AH, nH, cH, rfl, RH, _⟩ := OwnI.rd s.h
      obtain rfl : nH = k := by rw [← RH.1]; exact hhl
      obtain ⟨m, rfl⟩ : ∃ m, m = nH := ⟨_, rfl⟩
      obtain ⟨AA, nA, cA, rfl, RA, _⟩ := OwnV.rd s.a
      have hnA : nA ≤ 72 := by rw [← RA.1]; omega
      obtain ⟨x0, x1, x2⟩ := cellsX s.bx
      have s1 := s.below (w' := wr.alloc (.cells #[.int .i64 x.k, .int .i64 x.n, .string x.s, .int .i64 x.k, .int .i64 x.n, .string x.s] 44)) (by repeat (first | exact Below.refl _ _ | assumption | refine Below.setCell ?_ (by first | (simp; done) | (simp; omega) | omega) _ | refine below_drewN ?_ _ | refine Below.drew ?_ | refine Below.alloc ?_ (by first | (simp; done) | (simp; omega) | omega) _))
      obtain ⟨wo, rfl⟩ : ∃ wo : World, wo = wr := ⟨_, rfl⟩
      have r2 := two_rdV wo x x
      clear s RH RA hA
      by_cases hkn : m < n
      all_goals
        go_wp2_with fail
        clear x0 x1 x2 hlt
        refine (push_env s1.env _ 2 2 [x, x] r2 (by simp [fb]; omega)).mono ?_
        rintro e w5 ⟨S5, rfl, E5, K5⟩
        have s2 := s1.kept K5 E5
        clear s1 E5 K5 r2
        obtain ⟨K, hK⟩ : ∃ K, lv % (m + 1) = K := ⟨_, rfl⟩
        have hKm : K ≤ m := by have := Nat.mod_lt lv (show 0 < m + 1 by omega); omega
        go_wp2
        rw [show ((lv : Int) % ((m : Int) + 1)) = (K : Int) from by rw [← hK]; simp]
        clear hK
        have s3 : BloSt w1 x w.heap.size S5 g (fb (flatR ls m ++ [x, x]) (blkR ls (m - 0)) 0) (.slice AH m cH) (.slice AA nA cA) (hts ls m) (flatR ls m) w5 := s2
        clear s2
        go_loopw [14] (fun i wr => ∃ (j : Nat) (S : Nat → Prop), j ≤ K ∧ i = .int .i64 j ∧ BloSt w1 x w.heap.size S g (fb (flatR ls m ++ [x, x]) (blkR ls (m - j)) 0) (.slice AH m cH) (.slice AA nA cA) (hts ls m) (flatR ls m) wr) (fun i _ => K - (intOf i).toNat)
        case atStart => exact ⟨0, S5, by omega, rfl, s3⟩
        case round =>
          clear s3
          obtain ⟨j, S, hj, rfl, s⟩ := hrel
          by_cases hjK : j < K
          · obtain ⟨q, hq⟩ : ∃ q, m - j = q + 1 := ⟨m - j - 1, by omega⟩
            have hq2 : m - (j + 1) = q := by omega
            have HQ2 := Lib.hid hq2
            have s1 : BloSt w1 x w.heap.size S g (fb (flatR ls m ++ [x, x]) (blkR ls (q + 1)) 0) (.slice AH m cH) (.slice AA nA cA) (hts ls m) (flatR ls m) wr := by rw [← hq]; exact s
            have hne : (!(fb (flatR ls m ++ [x, x]) (blkR ls (q + 1)) 0).blocks.isEmpty) = true := by show (!(blkR ls (q + 1)).isEmpty) = true; rw [blkR_succ]; simp
            have HNE := Lib.hid hne
            clear s hq hq2 hne
            go_wp2_with fail
            refine (leave_env s1.env).mono ?_
            rintro e w6 ⟨S6, rfl, E6, K6⟩
            rw [HNE.out]
            have s2 := s1.kept K6 E6
            have HS2 := Lib.hid s2
            clear s1 s2 E6 K6
            go_wp2
            go_roundw
            case rel =>
              refine ⟨j + 1, S6, by omega, by go_num, ?_⟩
              have h2 := HS2.out
              rw [HQ2.out, ← blkR_drop]
              exact h2
            case measure => simp [intOf]; omega
          · obtain rfl : j = K := by omega
            obtain ⟨q, hq⟩ : ∃ q, m - j = q := ⟨_, rfl⟩
            have hqm : q ≤ m := by omega
            rw [hq] at s
            have hp : flatR ls q <+: flatR ls m ++ [x, x] := (flatR_mono ls hqm).trans (List.prefix_append _ _)
            have hvl : (flatR ls m ++ [x, x]).length ≤ 100 := by simp; omega
            go_wp2
            rw [show ((m : Int) - (j : Int) - 1) = (q : Int) - 1 from by omega]
            have s0 : ∃ vs p, BloSt w1 x w.heap.size S g (fb vs (blkR ls q) p) (.slice AH m cH) (.slice AA nA cA) (hts ls m) (flatR ls m) wr ∧ Hid (flatR ls q <+: vs) ∧ vs.length ≤ 100 := ⟨_, 0, s, hp, hvl⟩
            clear s hp hvl hq hjK hj
            go_loopw [15] (fun i wx => ∃ (q : Nat) (S : Nat → Prop), q ≤ m ∧ i = .int .i64 ((q : Int) - 1) ∧ ∃ vs p, BloSt w1 x w.heap.size S g (fb vs (blkR ls q) p) (.slice AH m cH) (.slice AA nA cA) (hts ls m) (flatR ls m) wx ∧ Hid (flatR ls q <+: vs) ∧ vs.length ≤ 100) (fun i _ => (intOf i + 1).toNat)
            case atStart => exact ⟨q, S, hqm, rfl, s0⟩
            case round =>
              clear s0
              obtain ⟨q, S, hqm, rfl, vs, p, s, hp, hvl⟩ := hrel
              cases q with
              | zero =>
                rw [show (((0 : Nat) : Int) - 1) = -1 from rfl]
                have s : BloSt w1 x w.heap.size S g (fb vs [] p) (.slice AH m cH) (.slice AA nA cA) (hts ls m) (flatR ls m) wr := s
                obtain ⟨Av, nv, cv, g8, Rv, _⟩ := s.env.values
                have g1 : wr.cell? ⟨g, 1, none⟩ = some (.int .i64 p) := s.env.pc
                have Rv : RdV wr Av nv cv vs := Rv
                have hgl := s.env.lt s.env.gin
                have Rv1 := Rv.new (w' := wr.alloc (.cells #[] 44)) (by repeat (first | exact Below.refl _ _ | assumption | refine Below.setCell ?_ (by first | (simp; done) | (simp; omega) | omega) _ | refine below_drewN ?_ _ | refine Below.drew ?_ | refine Below.alloc ?_ (by first | (simp; done) | (simp; omega) | omega) _))
                have hnv : nv ≤ 100 := by rw [← Rv.1]; exact hvl
                have hg2 : g < wr.heap.size := hgl
                clear hp Rv
                go_wp2_with (at_builtin; refine wpList_appendV _ rfl (.tmp 130) (.tmp 134) rfl (.slice (some ⟨wr.heap.size, 0, none⟩) 0 0) [] rfl (empty_own wr) Av nv cv vs rfl Rv1 (by simp; omega) ?_; intro v2 w6 hv2 hg6 ha6; have NR : NewRow wr w6 v2 ([] ++ vs) := NewRow.app (newrowB (w := wr) (u := wr) (Below.refl _ _) rfl) hv2 hg6 ha6; obtain ⟨A2, n2, c2, rfl, _⟩ := OwnV.rd hv2; have g1' := (NR.bel.cell (p := ⟨g, 1, none⟩) hgl).trans g1; obtain ⟨x0, x1, x2⟩ := cellsX (s.bx.below NR.bel s.bx.lt); clear hv2 hg6 ha6)
                have s2 := s.below NR.bel
                obtain ⟨_, _, _, e', RN⟩ := RowR.of_ownN (S := S) NR.own (fun b_ e_ hs_ => by have := NR.new b_ e_; have := s.env.lt hs_; omega)
                cases e'
                clear x0 x1 x2 g1 g1' g8 Rv1 s NR
                refine (handle_env s2.env x (by show vs.length ≤ 4398046511100; omega)).mono ?_
                rintro e w7 ⟨S7, rfl, E7, K7⟩
                rw [(fb_none vs p x).1]
                rw [(fb_none vs p x).2] at E7
                have s3 := s2.kept K7 E7
                have RN := RN.kept K7
                clear s2 E7 K7
                go_wp2_with fail
                refine (leave_env s3.env).mono ?_
                rintro e w8 ⟨S8, rfl, E8, K8⟩
                have E8 : Env w1 w8 S8 g (fb vs [] p) := E8
                rw [show (!(fb vs [] p).blocks.isEmpty) = false from rfl]
                have RN := RN.kept K8
                obtain ⟨Av8, nv8, cv8, g8, Rv8, _⟩ := E8.values
                obtain ⟨Ak8, nk8, ck8, g9, Rk8⟩ := E8.blocks
                obtain rfl : 0 = nk8 := Rk8.1
                have g1 : w8.cell? ⟨g, 1, none⟩ = some (.int .i64 p) := E8.pc
                have HE8 := Lib.hid E8.bel
                have hl8 := E8.lt E8.gin
                clear s3 E8 K8 Rk8
                go_wp2_with fail
                refine (row_same Av8 A2 nv8 n2 cv8 c2 vs ([] ++ vs) w8 Rv8 RN.rd).mono ?_
                rintro e w9 ⟨rfl, q9, rfl⟩
                rw [show rowSame vs ([] ++ vs) = true from rowSame_self _]
                go_wp2
                go_ret
                exact ⟨rfl, below_drewN (HB1.trans (HE8.out.mono HB1.size)) q9⟩
              | succ r =>
                rw [show (((r + 1 : Nat) : Int) - 1) = (r : Int) from by omega]
                obtain ⟨hh1, hh2⟩ := fb_handle ls r vs p x hp.out
                have HH1 := Lib.hid hh1
                have HH2 := Lib.hid hh2
                clear hh1 hh2
                obtain ⟨bH, oH, eH, hbH, hcH⟩ := (OwnI.rdAt s.h).at_ (i := r) (by omega)
                subst eH
                have hLr := flatR_len ls (r + 1)
                have hpm := flatR_mono ls hqm
                obtain ⟨L, hL⟩ : ∃ L, (flatR ls (r + 1)).length = L := ⟨_, rfl⟩
                have HL := Lib.hid hL
                have HPM := Lib.hid hpm
                have hLm : L ≤ (flatR ls m).length := by rw [← hL]; exact hpm.length_le
                clear hcH hL hpm
                obtain ⟨x0, x1, x2⟩ := cellsX s.bx
                go_upto_region 25 with fail
                refine wp_region_noPanic ?_
                refine wp_region_held_drew (S := fun w' => w'.cell? ⟨w.heap.size, 0, none⟩ = some (.int .i64 x.k) ∧ w'.cell? ⟨w.heap.size, 1, none⟩ = some (.int .i64 x.n) ∧ w'.cell? ⟨w.heap.size, 2, none⟩ = some (.string x.s)) (by kernel_rfl) ⟨x0, x1, x2⟩ (fun hHeld => ?_)
                refine wpAnyH_take (i := 0) (v := ?_) (by rw [List.getElem?_toArray]; rfl) (by kernel_rfl) (by kernel_rfl) (by kernel_rfl) (fun _ _ _ h => h) (Or.inl ⟨by rfl, ?_⟩) (by assumption) ?_
                rotate_left 1
                · (intro w_ hSw; (try dsimp only at hSw); go_simp; try with_reducible rfl)
                try simp only [Act.put, List.setIfInBounds_toArray, List.set_cons_zero, List.set_cons_succ]
                refine wpAnyH_take (i := 1) (v := ?_) (by rw [List.getElem?_toArray]; rfl) (by kernel_rfl) (by kernel_rfl) (by kernel_rfl) (fun _ _ _ h => h) (Or.inl ⟨by rfl, ?_⟩) (by assumption) ?_
                rotate_left 1
                · (intro w_ hSw; (try dsimp only at hSw); go_simp; try with_reducible rfl)
                try simp only [Act.put, List.setIfInBounds_toArray, List.set_cons_zero, List.set_cons_succ]
                refine wpAnyH_ready (rs := [2]) (by kernel_rfl) (by simp) ?_
                refine AllReadyH.cons rfl (fun K hK => ?_) AllReadyH.nil
                go_simp
                have sd := s.below (w' := wr.drew) (by repeat (first | exact Below.refl _ _ | assumption | refine Below.setCell ?_ (by first | (simp; done) | (simp; omega) | omega) _ | refine below_drewN ?_ _ | refine Below.drew ?_ | refine Below.alloc ?_ (by first | (simp; done) | (simp; omega) | omega) _))
                refine (handle_env sd.env x (by show vs.length ≤ 4398046511100; omega)).mono ?_
                rintro e wh ⟨Sh, rfl, Eh, Kh⟩
                rw [HH1.out]
                rw [HH2.out] at Eh
                have s2 := sd.kept Kh Eh
                obtain ⟨y0, y1, y2⟩ := cellsX s2.bx
                obtain ⟨_, _, e', hlH, hcH⟩ := (OwnI.rdAt s2.h).at_ (i := r) (by omega)
                cases e'
                rw [hts_at, HL.out] at hcH
                have g1 := Eh.pc
                obtain ⟨Av, nv, cv, g8, Rv, _⟩ := Eh.values
                obtain ⟨Ak, nk, ck, g9, Rk⟩ := Eh.blocks
                obtain rfl : r = nk := by rw [← Rk.1]; exact (blkR_len ls r).symm
                have hlg := Eh.lt Eh.gin
                have hlx := s2.bx.lt
                have hRA : RdV wh AA nA cA (flatR ls m) := by obtain ⟨_, _, _, e', hr', _⟩ := OwnV.rd s2.a; cases e'; exact hr'
                have hnAc := hRA.2.1
                have hcA9 := hRA.2.2.1
                have hLA : L ≤ nA := by rw [← hRA.1]; exact hLm
                have hRL : RdV wh AA L cA (flatR ls (r + 1)) := by
                  have h1 := hRA.shrink (k := L) (c' := cA) hLA (by omega) (Nat.le_refl _)
                  rw [← HL.out, ← List.prefix_iff_eq_take.1 HPM.out, HL.out] at h1
                  exact h1
                have hall : ∀ w', Below wh.heap.size wh w' → (w'.cell? ⟨w.heap.size, 0, none⟩ = some (.int .i64 x.k) ∧ w'.cell? ⟨w.heap.size, 1, none⟩ = some (.int .i64 x.n) ∧ w'.cell? ⟨w.heap.size, 2, none⟩ = some (.string x.s) ∧ w'.cell? ⟨bH, oH + r, none⟩ = some (.int .i64 L) ∧ w'.cell? ⟨g, 1, none⟩ = some (.int .i64 (100 + (r : Int))) ∧ w'.cell? ⟨g, 8, none⟩ = some (.slice Av nv cv) ∧ w'.cell? ⟨g, 9, none⟩ = some (.slice Ak r ck)) := fun w' hb =>
                  ⟨(hb.cell (p := ⟨w.heap.size, 0, none⟩) hlx).trans y0, (hb.cell (p := ⟨w.heap.size, 1, none⟩) hlx).trans y1, (hb.cell (p := ⟨w.heap.size, 2, none⟩) hlx).trans y2, (hb.cell (p := ⟨bH, oH + r, none⟩) hlH).trans hcH, (hb.cell (p := ⟨g, 1, none⟩) hlg).trans g1, (hb.cell (p := ⟨g, 8, none⟩) hlg).trans g8, (hb.cell (p := ⟨g, 9, none⟩) hlg).trans g9⟩
                have HALL := Lib.hid hall
                have HS2 := Lib.hid s2
                have HRV := Lib.hid Rv
                have hfl1 : (flatR ls (r + 1)).length ≤ 72 := by omega
                clear s sd s2 Eh Kh g1 g8 g9 y0 y1 y2 hcH hall Rv Rk hRA hHeld x0 x1 x2
                go_wp2_with fail
                refine hK.out _ _ ⟨(HALL.out _ (Below.refl _ _)).1, (HALL.out _ (Below.refl _ _)).2.1, (HALL.out _ (Below.refl _ _)).2.2.1⟩ (fun _ => ?_)
                clear hK K
                try simp only [Act.put, List.setIfInBounds_toArray, List.set_cons_zero, List.set_cons_succ]
                refine wpAnyH_stronger (S' := fun w' => w'.cell? ⟨w.heap.size, 0, none⟩ = some (.int .i64 x.k) ∧ w'.cell? ⟨w.heap.size, 1, none⟩ = some (.int .i64 x.n) ∧ w'.cell? ⟨w.heap.size, 2, none⟩ = some (.string x.s) ∧ w'.cell? ⟨bH, oH + r, none⟩ = some (.int .i64 L) ∧ w'.cell? ⟨g, 1, none⟩ = some (.int .i64 (100 + (r : Int))) ∧ w'.cell? ⟨g, 8, none⟩ = some (.slice Av nv cv) ∧ w'.cell? ⟨g, 9, none⟩ = some (.slice Ak r ck)) (fun w_ h => ⟨h.1, h.2.1, h.2.2.1⟩) _ _ _ _ ?_
                have hHeld := HALL.out _ (Below.refl _ _)
                have q0 : (0 : Int) ≤ (r : Int) := by omega
                have q1 : (r : Int) < (m : Int) := by omega
                have q2 : IntKind.i64.wrap (100 + (r : Int)) = 100 + (r : Int) := IntWalk.i64_in _ (by omega)
                have q3 : (0 : Int) ≤ (L : Int) := by omega
                have q4 : (L : Int) ≤ (cA : Int) := by omega
                have q5 : ((100 + (r : Int)) != (100 + (r : Int))) = false := by simp
                have q6 : ((r : Int) != (r : Int)) = false := by simp
                refine wpAnyH_take (i := 3) (v := ?_) (by rw [List.getElem?_toArray]; rfl) (by kernel_rfl) (by kernel_rfl) (by kernel_rfl) (fun _ _ _ h => h) (Or.inl ⟨by rfl, ?_⟩) (by assumption) ?_
                rotate_left 1
                · (intro w_ hSw; (try dsimp only at hSw); go_simp; try with_reducible rfl)
                try simp only [Act.put, List.setIfInBounds_toArray, List.set_cons_zero, List.set_cons_succ]
                refine wpAnyH_take (i := 4) (v := ?_) (by rw [List.getElem?_toArray]; rfl) (by kernel_rfl) (by kernel_rfl) (by kernel_rfl) (fun _ _ _ h => h) (Or.inl ⟨by rfl, ?_⟩) (by assumption) ?_
                rotate_left 1
                · (intro w_ hSw; (try dsimp only at hSw); go_simp; try with_reducible rfl)
                try simp only [Act.put, List.setIfInBounds_toArray, List.set_cons_zero, List.set_cons_succ]
                refine wpAnyH_take (i := 5) (v := ?_) (by rw [List.getElem?_toArray]; rfl) (by kernel_rfl) (by kernel_rfl) (by kernel_rfl) (fun _ _ _ h => h) (Or.inl ⟨by rfl, ?_⟩) (by assumption) ?_
                rotate_left 1
                · (intro w_ hSw; (try dsimp only at hSw); go_simp; try with_reducible rfl)
                try simp only [Act.put, List.setIfInBounds_toArray, List.set_cons_zero, List.set_cons_succ]
                refine wpAnyH_take (i := 6) (v := ?_) (by rw [List.getElem?_toArray]; rfl) (by kernel_rfl) (by kernel_rfl) (by kernel_rfl) (fun _ _ _ h => h) (Or.inl ⟨by rfl, ?_⟩) (by assumption) ?_
                rotate_left 1
                · (intro w_ hSw; (try dsimp only at hSw); go_simp; try with_reducible rfl)
                try simp only [Act.put, List.setIfInBounds_toArray, List.set_cons_zero, List.set_cons_succ]
                refine wpAnyH_take (i := 7) (v := ?_) (by rw [List.getElem?_toArray]; rfl) (by kernel_rfl) (by kernel_rfl) (by kernel_rfl) (fun _ _ _ h => h) (Or.inl ⟨by rfl, ?_⟩) (by assumption) ?_
                rotate_left 1
                · (intro w_ hSw; (try dsimp only at hSw); go_simp; try with_reducible rfl)
                try simp only [Act.put, List.setIfInBounds_toArray, List.set_cons_zero, List.set_cons_succ]
                refine wpAnyH_take (i := 9) (v := ?_) (by rw [List.getElem?_toArray]; rfl) (by kernel_rfl) (by kernel_rfl) (by kernel_rfl) (fun _ _ _ h => h) (Or.inl ⟨by rfl, ?_⟩) (by assumption) ?_
                rotate_left 1
                · (intro w_ hSw; (try dsimp only at hSw); go_simp; try with_reducible rfl)
                try simp only [Act.put, List.setIfInBounds_toArray, List.set_cons_zero, List.set_cons_succ]
                refine wpAnyH_take (i := 10) (v := ?_) (by rw [List.getElem?_toArray]; rfl) (by kernel_rfl) (by kernel_rfl) (by kernel_rfl) (fun _ _ _ h => h) (Or.inl ⟨by rfl, ?_⟩) (by assumption) ?_
                rotate_left 1
                · (intro w_ hSw; (try dsimp only at hSw); go_simp; try with_reducible rfl)
                try simp only [Act.put, List.setIfInBounds_toArray, List.set_cons_zero, List.set_cons_succ]
                refine wpAnyH_take (i := 8) (v := ?_) (by rw [List.getElem?_toArray]; rfl) (by kernel_rfl) (by kernel_rfl) (by kernel_rfl) (fun _ _ _ h => h) (Or.inl ⟨by rfl, ?_⟩) (by assumption) ?_
                rotate_left 1
                · (intro w_ hSw; (try dsimp only at hSw); go_simp; try with_reducible rfl)
                try simp only [Act.put, List.setIfInBounds_toArray, List.set_cons_zero, List.set_cons_succ]
                refine wpAnyH_take (i := 11) (v := ?_) (by rw [List.getElem?_toArray]; rfl) (by kernel_rfl) (by kernel_rfl) (by kernel_rfl) (fun _ _ _ h => h) (Or.inl ⟨by rfl, ?_⟩) (by assumption) ?_
                rotate_left 1
                · (intro w_ hSw; (try dsimp only at hSw); go_simp; try with_reducible rfl)
                try simp only [Act.put, List.setIfInBounds_toArray, List.set_cons_zero, List.set_cons_succ]
                refine wpAnyH_take (i := 12) (v := ?_) (by rw [List.getElem?_toArray]; rfl) (by kernel_rfl) (by kernel_rfl) (by kernel_rfl) (fun _ _ _ h => h) (Or.inl ⟨by rfl, ?_⟩) (by assumption) ?_
                rotate_left 1
                · (intro w_ hSw; (try dsimp only at hSw); go_simp; try with_reducible rfl)
                try simp only [Act.put, List.setIfInBounds_toArray, List.set_cons_zero, List.set_cons_succ]
                refine wpAnyH_take (i := 13) (v := ?_) (by rw [List.getElem?_toArray]; rfl) (by kernel_rfl) (by kernel_rfl) (by kernel_rfl) (fun _ _ _ h => h) (Or.inl ⟨by rfl, ?_⟩) (by assumption) ?_
                rotate_left 1
                · (intro w_ hSw; (try dsimp only at hSw); go_simp; try with_reducible rfl)
                try simp only [Act.put, List.setIfInBounds_toArray, List.set_cons_zero, List.set_cons_succ]
                refine wpAnyH_take (i := 14) (v := ?_) (by rw [List.getElem?_toArray]; rfl) (by kernel_rfl) (by kernel_rfl) (by kernel_rfl) (fun _ _ _ h => h) (Or.inl ⟨by rfl, ?_⟩) (by assumption) ?_
                rotate_left 1
                · (intro w_ hSw; (try dsimp only at hSw); go_simp; try with_reducible rfl)
                try simp only [Act.put, List.setIfInBounds_toArray, List.set_cons_zero, List.set_cons_succ]
                refine wpAnyH_take (i := 15) (v := ?_) (by rw [List.getElem?_toArray]; rfl) (by kernel_rfl) (by kernel_rfl) (by kernel_rfl) (fun _ _ _ h => h) (Or.inl ⟨by rfl, ?_⟩) (by assumption) ?_
                rotate_left 1
                · (intro w_ hSw; (try dsimp only at hSw); go_simp; try with_reducible rfl)
                try simp only [Act.put, List.setIfInBounds_toArray, List.set_cons_zero, List.set_cons_succ]
                refine wpAnyH_take (i := 16) (v := ?_) (by rw [List.getElem?_toArray]; rfl) (by kernel_rfl) (by kernel_rfl) (by kernel_rfl) (fun _ _ _ h => h) (Or.inl ⟨by rfl, ?_⟩) (by assumption) ?_
                rotate_left 1
                · (intro w_ hSw; (try dsimp only at hSw); go_simp; try with_reducible rfl)
                try simp only [Act.put, List.setIfInBounds_toArray, List.set_cons_zero, List.set_cons_succ]
                refine wpAnyH_take (i := 17) (v := ?_) (by rw [List.getElem?_toArray]; rfl) (by kernel_rfl) (by kernel_rfl) (by kernel_rfl) (fun _ _ _ h => h) (Or.inl ⟨by rfl, ?_⟩) (by assumption) ?_
                rotate_left 1
                · (intro w_ hSw; (try dsimp only at hSw); go_simp; try with_reducible rfl)
                try simp only [Act.put, List.setIfInBounds_toArray, List.set_cons_zero, List.set_cons_succ]
                refine wpAnyH_take (i := 19) (v := ?_) (by rw [List.getElem?_toArray]; rfl) (by kernel_rfl) (by kernel_rfl) (by kernel_rfl) (fun _ _ _ h => h) (Or.inl ⟨by rfl, ?_⟩) (by assumption) ?_
                rotate_left 1
                · (intro w_ hSw; (try dsimp only at hSw); go_simp; try with_reducible rfl)
                try simp only [Act.put, List.setIfInBounds_toArray, List.set_cons_zero, List.set_cons_succ]
                refine wpAnyH_take (i := 20) (v := ?_) (by rw [List.getElem?_toArray]; rfl) (by kernel_rfl) (by kernel_rfl) (by kernel_rfl) (fun _ _ _ h => h) (Or.inl ⟨by rfl, ?_⟩) (by assumption) ?_
                rotate_left 1
                · (intro w_ hSw; (try dsimp only at hSw); go_simp; try with_reducible rfl)
                try simp only [Act.put, List.setIfInBounds_toArray, List.set_cons_zero, List.set_cons_succ]
                refine wpAnyH_take (i := 21) (v := ?_) (by rw [List.getElem?_toArray]; rfl) (by kernel_rfl) (by kernel_rfl) (by kernel_rfl) (fun _ _ _ h => h) (Or.inl ⟨by rfl, ?_⟩) (by assumption) ?_
                rotate_left 1
                · (intro w_ hSw; (try dsimp only at hSw); go_simp; try with_reducible rfl)
                try simp only [Act.put, List.setIfInBounds_toArray, List.set_cons_zero, List.set_cons_succ]
                refine wpAnyH_take (i := 22) (v := ?_) (by rw [List.getElem?_toArray]; rfl) (by kernel_rfl) (by kernel_rfl) (by kernel_rfl) (fun _ _ _ h => h) (Or.inl ⟨by rfl, ?_⟩) (by assumption) ?_
                rotate_left 1
                · (intro w_ hSw; (try dsimp only at hSw); go_simp; try with_reducible rfl)
                try simp only [Act.put, List.setIfInBounds_toArray, List.set_cons_zero, List.set_cons_succ]
                refine wpAnyH_take (i := 23) (v := ?_) (by rw [List.getElem?_toArray]; rfl) (by kernel_rfl) (by kernel_rfl) (by kernel_rfl) (fun _ _ _ h => h) (Or.inl ⟨by rfl, ?_⟩) (by assumption) ?_
                rotate_left 1
                · (intro w_ hSw; (try dsimp only at hSw); go_simp; try with_reducible rfl)
                try simp only [Act.put, List.setIfInBounds_toArray, List.set_cons_zero, List.set_cons_succ]
                refine wpAnyH_take (i := 24) (v := ?_) (by rw [List.getElem?_toArray]; rfl) (by kernel_rfl) (by kernel_rfl) (by kernel_rfl) (fun _ _ _ h => h) (Or.inl ⟨by rfl, ?_⟩) (by assumption) ?_
                rotate_left 1
                · (intro w_ hSw; (try dsimp only at hSw); go_simp; try with_reducible rfl)
                try simp only [Act.put, List.setIfInBounds_toArray, List.set_cons_zero, List.set_cons_succ]
                refine wpAnyH_take (i := 26) (v := ?_) (by rw [List.getElem?_toArray]; rfl) (by kernel_rfl) (by kernel_rfl) (by kernel_rfl) (fun _ _ _ h => h) (Or.inl ⟨by rfl, ?_⟩) (by assumption) ?_
                rotate_left 1
                · (intro w_ hSw; (try dsimp only at hSw); go_simp; try with_reducible rfl)
                try simp only [Act.put, List.setIfInBounds_toArray, List.set_cons_zero, List.set_cons_succ]
                refine wpAnyH_ready (rs := [18, 27]) (by kernel_rfl) (by simp) ?_
                refine AllReadyH.cons (by rw [List.getElem?_toArray]; rfl) (fun K hK => ?_) ?_
                · skip
                  go_simp
                  refine hK.out _ _ (HALL.out _ (by exact (by repeat (first | exact Below.refl _ _ | assumption | refine Below.setCell ?_ (by first | (simp; done) | (simp; omega) | omega) _ | refine below_drewN ?_ _ | refine Below.drew ?_ | refine Below.alloc ?_ (by first | (simp; done) | (simp; omega) | omega) _)))) (fun hHeld => ?_)
                  clear hK K
                  try simp only [Act.put, List.setIfInBounds_toArray, List.set_cons_zero, List.set_cons_succ]
                  refine wpAnyH_ready (rs := [25, 27]) (by kernel_rfl) (by simp) ?_
                  refine AllReadyH.cons (by rw [List.getElem?_toArray]; rfl) (fun K hK => ?_) ?_
                  · skip
                    refine step_appendVg _ (by rfl) (.tmp 107) (.tmp 113) rfl (.slice (some ⟨wh.heap.size, 0, none⟩) 0 0) [] rfl (by exact (newrowB (w := wh) (u := wh) (Below.refl _ _) rfl).own) AA L cA (flatR ls (r + 1)) rfl (by exact hRL.new (by repeat (first | exact Below.refl _ _ | assumption | refine Below.setCell ?_ (by first | (simp; done) | (simp; omega) | omega) _ | refine below_drewN ?_ _ | refine Below.drew ?_ | refine Below.alloc ?_ (by first | (simp; done) | (simp; omega) | omega) _))) (by simp; omega) ?_
                    intro v1 wa hv1 hg1 ha1
                    obtain ⟨A1, n1, c1, rfl, _⟩ := OwnV.rd hv1
                    have NR1 : NewRow wh wa (.slice A1 n1 c1) ([] ++ flatR ls (r + 1)) := NewRow.app (newrowB (w := wh) (u := wh) (Below.refl _ _) rfl) hv1 hg1 ha1
                    have hbw := NR1.bel
                    have HG1 := Lib.hid hg1
                    clear hv1 hg1 ha1
                    refine hK.out _ _ (HALL.out _ hbw) (fun hHeld => ?_)
                    clear hK K
                    try simp only [Act.put, List.setIfInBounds_toArray, List.set_cons_zero, List.set_cons_succ]
                    refine wpAnyH_ready (rs := [27]) (by kernel_rfl) (by simp) ?_
                    refine AllReadyH.cons (by rw [List.getElem?_toArray]; rfl) (fun K hK => ?_) ?_
                    · skip
                      go_simp
                      refine hK.out _ _ (HALL.out _ (hbw.alloc hbw.size _)) (fun hHeld => ?_)
                      clear hK K
                      try simp only [Act.put, List.setIfInBounds_toArray, List.set_cons_zero, List.set_cons_succ]
                      refine wpAnyH_ready (rs := [28]) (by kernel_rfl) (by simp) ?_
                      refine AllReadyH.cons (by rw [List.getElem?_toArray]; rfl) (fun K hK => ?_) ?_
                      · skip
                        refine step_appendVg _ (by rfl) (.tmp 114) (.tmp 116) rfl (.slice A1 n1 c1) ([] ++ flatR ls (r + 1)) rfl (by exact Own.new NR1.own (by repeat (first | exact Below.refl _ _ | assumption | refine Below.setCell ?_ (by first | (simp; done) | (simp; omega) | omega) _ | refine below_drewN ?_ _ | refine Below.drew ?_ | refine Below.alloc ?_ (by first | (simp; done) | (simp; omega) | omega) _))) (some ⟨wa.heap.size, 0, none⟩) 1 1 [x] rfl (by exact one_rdV wa x) (by simp; omega) ?_
                        intro v2 wb hv2 hg2 ha2
                        have NR2 : NewRow wh wb v2 ([] ++ flatR ls (r + 1) ++ [x]) := NewRow.app (NR1.below (by exact (by repeat (first | exact Below.refl _ _ | assumption | refine Below.setCell ?_ (by first | (simp; done) | (simp; omega) | omega) _ | refine below_drewN ?_ _ | refine Below.drew ?_ | refine Below.alloc ?_ (by first | (simp; done) | (simp; omega) | omega) _)))) hv2 hg2 ha2
                        obtain ⟨A2, n2, c2, rfl, R2, _⟩ := OwnV.rd hv2
                        have hbw2 := NR2.bel
                        clear hv2 hg2 ha2
                        refine hK.out _ _ (HALL.out _ hbw2) (fun hHeld => ?_)
                        clear hK K
                        try simp only [Act.put, List.setIfInBounds_toArray, List.set_cons_zero, List.set_cons_succ]
                        refine wpAnyH_ready (rs := [29]) (by kernel_rfl) (by simp) ?_
                        refine AllReadyH.cons (by rw [List.getElem?_toArray]; rfl) (fun K hK => ?_) ?_
                        · skip
                          go_simp
                          refine (row_same Av A2 nv n2 cv c2 _ _ wb (HRV.out.new hbw2) R2).mono ?_
                          rintro e wz ⟨rfl, qz, rfl⟩
                          rw [show rowSame (fb (flatR ls (r + 1) ++ [x]) (blkR ls r) (100 + (r : Int))).values ([] ++ flatR ls (r + 1) ++ [x]) = true from rowSame_self _]
                          go_wp2_with fail
                          refine hK.out _ _ (HALL.out _ (below_drewN hbw2 qz)) (fun hHeld => ?_)
                          clear hK K
                          try simp only [Act.put, List.setIfInBounds_toArray, List.set_cons_zero, List.set_cons_succ]
                          refine wpAnyH_take (i := 30) (v := ?_) (by rw [List.getElem?_toArray]; rfl) (by kernel_rfl) (by kernel_rfl) (by kernel_rfl) (fun _ _ _ h => h) (Or.inl ⟨by rfl, ?_⟩) (by assumption) ?_
                          rotate_left 1
                          · (intro w_ hSw; (try dsimp only at hSw); go_simp; try with_reducible rfl)
                          try simp only [Act.put, List.setIfInBounds_toArray, List.set_cons_zero, List.set_cons_succ]
                          refine wpAnyH_take (i := 31) (v := ?_) (by rw [List.getElem?_toArray]; rfl) (by kernel_rfl) (by kernel_rfl) (by kernel_rfl) (fun _ _ _ h => h) (Or.inl ⟨by rfl, ?_⟩) (by assumption) ?_
                          rotate_left 1
                          · (intro w_ hSw; (try dsimp only at hSw); go_simp; try with_reducible rfl)
                          try simp only [Act.put, List.setIfInBounds_toArray, List.set_cons_zero, List.set_cons_succ]
                          refine wpAnyH_take (i := 32) (v := ?_) (by rw [List.getElem?_toArray]; rfl) (by kernel_rfl) (by kernel_rfl) (by kernel_rfl) (fun _ _ _ h => h) (Or.inl ⟨by rfl, ?_⟩) (by assumption) ?_
                          rotate_left 1
                          · (intro w_ hSw; (try dsimp only at hSw); go_simp; try with_reducible rfl)
                          try simp only [Act.put, List.setIfInBounds_toArray, List.set_cons_zero, List.set_cons_succ]
                          refine wpAnyH_take (i := 33) (v := ?_) (by rw [List.getElem?_toArray]; rfl) (by kernel_rfl) (by kernel_rfl) (by kernel_rfl) (fun _ _ _ h => h) (Or.inl ⟨by rfl, ?_⟩) (by assumption) ?_
                          rotate_left 1
                          · (intro w_ hSw; (try dsimp only at hSw); go_simp; try with_reducible rfl)
                          try simp only [Act.put, List.setIfInBounds_toArray, List.set_cons_zero, List.set_cons_succ]
                          refine wpAnyH_take (i := 34) (v := ?_) (by rw [List.getElem?_toArray]; rfl) (by kernel_rfl) (by kernel_rfl) (by kernel_rfl) (fun _ _ _ h => h) (Or.inl ⟨by rfl, ?_⟩) (by assumption) ?_
                          rotate_left 1
                          · (intro w_ hSw; (try dsimp only at hSw); go_simp; try with_reducible rfl)
                          try simp only [Act.put, List.setIfInBounds_toArray, List.set_cons_zero, List.set_cons_succ]
                          refine wpAnyH_take (i := 35) (v := ?_) (by rw [List.getElem?_toArray]; rfl) (by kernel_rfl) (by kernel_rfl) (by kernel_rfl) (fun _ _ _ h => h) (Or.inl ⟨by rfl, ?_⟩) (by assumption) ?_
                          rotate_left 1
                          · (intro w_ hSw; (try dsimp only at hSw); go_simp; try with_reducible rfl)
                          try simp only [Act.put, List.setIfInBounds_toArray, List.set_cons_zero, List.set_cons_succ]
                          refine wpAnyH_take (i := 36) (v := ?_) (by rw [List.getElem?_toArray]; rfl) (by kernel_rfl) (by kernel_rfl) (by kernel_rfl) (fun _ _ _ h => h) (Or.inl ⟨by rfl, ?_⟩) (by assumption) ?_
                          rotate_left 1
                          · (intro w_ hSw; (try dsimp only at hSw); go_simp; try with_reducible rfl)
                          try simp only [Act.put, List.setIfInBounds_toArray, List.set_cons_zero, List.set_cons_succ]
                          refine wpAnyH_take (i := 37) (v := ?_) (by rw [List.getElem?_toArray]; rfl) (by kernel_rfl) (by kernel_rfl) (by kernel_rfl) (fun _ _ _ h => h) (Or.inl ⟨by rfl, ?_⟩) (by assumption) ?_
                          rotate_left 1
                          · (intro w_ hSw; (try dsimp only at hSw); go_simp; try with_reducible rfl)
                          try simp only [Act.put, List.setIfInBounds_toArray, List.set_cons_zero, List.set_cons_succ]
                          refine wpAnyH_take (i := 38) (v := ?_) (by rw [List.getElem?_toArray]; rfl) (by kernel_rfl) (by kernel_rfl) (by kernel_rfl) (fun _ _ _ h => h) (Or.inl ⟨by rfl, ?_⟩) (by assumption) ?_
                          rotate_left 1
                          · (intro w_ hSw; (try dsimp only at hSw); go_simp; try with_reducible rfl)
                          try simp only [Act.put, List.setIfInBounds_toArray, List.set_cons_zero, List.set_cons_succ]
                          refine wpAnyH_take (i := 39) (v := ?_) (by rw [List.getElem?_toArray]; rfl) (by kernel_rfl) (by kernel_rfl) (by kernel_rfl) (fun _ _ _ h => h) (Or.inl ⟨by rfl, ?_⟩) (by assumption) ?_
                          rotate_left 1
                          · (intro w_ hSw; (try dsimp only at hSw); go_simp; try with_reducible rfl)
                          try simp only [Act.put, List.setIfInBounds_toArray, List.set_cons_zero, List.set_cons_succ]
                          refine wpAnyH_take (i := 40) (v := ?_) (by rw [List.getElem?_toArray]; rfl) (by kernel_rfl) (by kernel_rfl) (by kernel_rfl) (fun _ _ _ h => h) (Or.inl ⟨by rfl, ?_⟩) (by assumption) ?_
                          rotate_left 1
                          · (intro w_ hSw; (try dsimp only at hSw); go_simp; try with_reducible rfl)
                          try simp only [Act.put, List.setIfInBounds_toArray, List.set_cons_zero, List.set_cons_succ]
                          refine wpAnyH_done (by kernel_rfl) ?_ _
                          refine NoPanic.normal ?_
                          go_wp2
                          go_roundw
                          case rel => exact ⟨r, Sh, by omega, rfl, flatR ls (r + 1) ++ [x], 100 + (r : Int), HS2.out.below (below_drewN hbw2 qz), (flatR_mono ls (Nat.le_succ r)).trans (List.prefix_append _ _), by rw [List.length_append]; simp; omega⟩
                          case measure => simp [intOf]
                        exact AllReadyH.nil
                      exact AllReadyH.nil
                    exact AllReadyH.nil
                  refine AllReadyH.cons (by rw [List.getElem?_toArray]; rfl) (fun K hK => ?_) ?_
                  · skip
                    go_simp
                    refine hK.out _ _ (HALL.out _ (by exact (by repeat (first | exact Below.refl _ _ | assumption | refine Below.setCell ?_ (by first | (simp; done) | (simp; omega) | omega) _ | refine below_drewN ?_ _ | refine Below.drew ?_ | refine Below.alloc ?_ (by first | (simp; done) | (simp; omega) | omega) _)))) (fun hHeld => ?_)
                    clear hK K
                    try simp only [Act.put, List.setIfInBounds_toArray, List.set_cons_zero, List.set_cons_succ]
                    refine wpAnyH_ready (rs := [25]) (by kernel_rfl) (by simp) ?_
                    refine AllReadyH.cons (by rw [List.getElem?_toArray]; rfl) (fun K hK => ?_) ?_
                    · skip
                      refine step_appendVg _ (by rfl) (.tmp 107) (.tmp 113) rfl (.slice (some ⟨wh.heap.size, 0, none⟩) 0 0) [] rfl (by exact ((newrowB (w := wh) (u := wh) (Below.refl _ _) rfl).below (by exact (by repeat (first | exact Below.refl _ _ | assumption | refine Below.setCell ?_ (by first | (simp; done) | (simp; omega) | omega) _ | refine below_drewN ?_ _ | refine Below.drew ?_ | refine Below.alloc ?_ (by first | (simp; done) | (simp; omega) | omega) _)))).own) AA L cA (flatR ls (r + 1)) rfl (by exact hRL.new (by repeat (first | exact Below.refl _ _ | assumption | refine Below.setCell ?_ (by first | (simp; done) | (simp; omega) | omega) _ | refine below_drewN ?_ _ | refine Below.drew ?_ | refine Below.alloc ?_ (by first | (simp; done) | (simp; omega) | omega) _))) (by simp; omega) ?_
                      intro v1 wa hv1 hg1 ha1
                      obtain ⟨A1, n1, c1, rfl, _⟩ := OwnV.rd hv1
                      have NR1 : NewRow wh wa (.slice A1 n1 c1) ([] ++ flatR ls (r + 1)) := NewRow.app ((newrowB (w := wh) (u := wh) (Below.refl _ _) rfl).below (by exact (by repeat (first | exact Below.refl _ _ | assumption | refine Below.setCell ?_ (by first | (simp; done) | (simp; omega) | omega) _ | refine below_drewN ?_ _ | refine Below.drew ?_ | refine Below.alloc ?_ (by first | (simp; done) | (simp; omega) | omega) _)))) hv1 hg1 ha1
                      have hbw := NR1.bel
                      have HG1 := Lib.hid hg1
                      clear hv1 hg1 ha1
                      refine hK.out _ _ (HALL.out _ hbw) (fun hHeld => ?_)
                      clear hK K
                      try simp only [Act.put, List.setIfInBounds_toArray, List.set_cons_zero, List.set_cons_succ]
                      refine wpAnyH_ready (rs := [28]) (by kernel_rfl) (by simp) ?_
                      refine AllReadyH.cons (by rw [List.getElem?_toArray]; rfl) (fun K hK => ?_) ?_
                      · skip
                        refine step_appendVg _ (by rfl) (.tmp 114) (.tmp 116) rfl (.slice A1 n1 c1) ([] ++ flatR ls (r + 1)) rfl (by exact Own.new NR1.own (by repeat (first | exact Below.refl _ _ | assumption | refine Below.setCell ?_ (by first | (simp; done) | (simp; omega) | omega) _ | refine below_drewN ?_ _ | refine Below.drew ?_ | refine Below.alloc ?_ (by first | (simp; done) | (simp; omega) | omega) _))) (some ⟨wh.heap.size + 1, 0, none⟩) 1 1 [x] rfl (by exact RdV.grown (by have := one_rdV (wh.alloc (.cells #[] 44)) x; simpa using this) HG1.out (fun b_ o_ e_ e2 => by simp [Value.ownBlock] at e2; injection e_ with e_; injection e_ with e_; omega)) (by simp; omega) ?_
                        intro v2 wb hv2 hg2 ha2
                        have NR2 : NewRow wh wb v2 ([] ++ flatR ls (r + 1) ++ [x]) := NewRow.app (NR1.below (by exact (by repeat (first | exact Below.refl _ _ | assumption | refine Below.setCell ?_ (by first | (simp; done) | (simp; omega) | omega) _ | refine below_drewN ?_ _ | refine Below.drew ?_ | refine Below.alloc ?_ (by first | (simp; done) | (simp; omega) | omega) _)))) hv2 hg2 ha2
                        obtain ⟨A2, n2, c2, rfl, R2, _⟩ := OwnV.rd hv2
                        have hbw2 := NR2.bel
                        clear hv2 hg2 ha2
                        refine hK.out _ _ (HALL.out _ hbw2) (fun hHeld => ?_)
                        clear hK K
                        try simp only [Act.put, List.setIfInBounds_toArray, List.set_cons_zero, List.set_cons_succ]
                        refine wpAnyH_ready (rs := [29]) (by kernel_rfl) (by simp) ?_
                        refine AllReadyH.cons (by rw [List.getElem?_toArray]; rfl) (fun K hK => ?_) ?_
                        · skip
                          go_simp
                          refine (row_same Av A2 nv n2 cv c2 _ _ wb (HRV.out.new hbw2) R2).mono ?_
                          rintro e wz ⟨rfl, qz, rfl⟩
                          rw [show rowSame (fb (flatR ls (r + 1) ++ [x]) (blkR ls r) (100 + (r : Int))).values ([] ++ flatR ls (r + 1) ++ [x]) = true from rowSame_self _]
                          go_wp2_with fail
                          refine hK.out _ _ (HALL.out _ (below_drewN hbw2 qz)) (fun hHeld => ?_)
                          clear hK K
                          try simp only [Act.put, List.setIfInBounds_toArray, List.set_cons_zero, List.set_cons_succ]
                          refine wpAnyH_take (i := 30) (v := ?_) (by rw [List.getElem?_toArray]; rfl) (by kernel_rfl) (by kernel_rfl) (by kernel_rfl) (fun _ _ _ h => h) (Or.inl ⟨by rfl, ?_⟩) (by assumption) ?_
                          rotate_left 1
                          · (intro w_ hSw; (try dsimp only at hSw); go_simp; try with_reducible rfl)
                          try simp only [Act.put, List.setIfInBounds_toArray, List.set_cons_zero, List.set_cons_succ]
                          refine wpAnyH_take (i := 31) (v := ?_) (by rw [List.getElem?_toArray]; rfl) (by kernel_rfl) (by kernel_rfl) (by kernel_rfl) (fun _ _ _ h => h) (Or.inl ⟨by rfl, ?_⟩) (by assumption) ?_
                          rotate_left 1
                          · (intro w_ hSw; (try dsimp only at hSw); go_simp; try with_reducible rfl)
                          try simp only [Act.put, List.setIfInBounds_toArray, List.set_cons_zero, List.set_cons_succ]
                          refine wpAnyH_take (i := 32) (v := ?_) (by rw [List.getElem?_toArray]; rfl) (by kernel_rfl) (by kernel_rfl) (by kernel_rfl) (fun _ _ _ h => h) (Or.inl ⟨by rfl, ?_⟩) (by assumption) ?_
                          rotate_left 1
                          · (intro w_ hSw; (try dsimp only at hSw); go_simp; try with_reducible rfl)
                          try simp only [Act.put, List.setIfInBounds_toArray, List.set_cons_zero, List.set_cons_succ]
                          refine wpAnyH_take (i := 33) (v := ?_) (by rw [List.getElem?_toArray]; rfl) (by kernel_rfl) (by kernel_rfl) (by kernel_rfl) (fun _ _ _ h => h) (Or.inl ⟨by rfl, ?_⟩) (by assumption) ?_
                          rotate_left 1
                          · (intro w_ hSw; (try dsimp only at hSw); go_simp; try with_reducible rfl)
                          try simp only [Act.put, List.setIfInBounds_toArray, List.set_cons_zero, List.set_cons_succ]
                          refine wpAnyH_take (i := 34) (v := ?_) (by rw [List.getElem?_toArray]; rfl) (by kernel_rfl) (by kernel_rfl) (by kernel_rfl) (fun _ _ _ h => h) (Or.inl ⟨by rfl, ?_⟩) (by assumption) ?_
                          rotate_left 1
                          · (intro w_ hSw; (try dsimp only at hSw); go_simp; try with_reducible rfl)
                          try simp only [Act.put, List.setIfInBounds_toArray, List.set_cons_zero, List.set_cons_succ]
                          refine wpAnyH_take (i := 35) (v := ?_) (by rw [List.getElem?_toArray]; rfl) (by kernel_rfl) (by kernel_rfl) (by kernel_rfl) (fun _ _ _ h => h) (Or.inl ⟨by rfl, ?_⟩) (by assumption) ?_
                          rotate_left 1
                          · (intro w_ hSw; (try dsimp only at hSw); go_simp; try with_reducible rfl)
                          try simp only [Act.put, List.setIfInBounds_toArray, List.set_cons_zero, List.set_cons_succ]
                          refine wpAnyH_take (i := 36) (v := ?_) (by rw [List.getElem?_toArray]; rfl) (by kernel_rfl) (by kernel_rfl) (by kernel_rfl) (fun _ _ _ h => h) (Or.inl ⟨by rfl, ?_⟩) (by assumption) ?_
                          rotate_left 1
                          · (intro w_ hSw; (try dsimp only at hSw); go_simp; try with_reducible rfl)
                          try simp only [Act.put, List.setIfInBounds_toArray, List.set_cons_zero, List.set_cons_succ]
                          refine wpAnyH_take (i := 37) (v := ?_) (by rw [List.getElem?_toArray]; rfl) (by kernel_rfl) (by kernel_rfl) (by kernel_rfl) (fun _ _ _ h => h) (Or.inl ⟨by rfl, ?_⟩) (by assumption) ?_
                          rotate_left 1
                          · (intro w_ hSw; (try dsimp only at hSw); go_simp; try with_reducible rfl)
                          try simp only [Act.put, List.setIfInBounds_toArray, List.set_cons_zero, List.set_cons_succ]
                          refine wpAnyH_take (i := 38) (v := ?_) (by rw [List.getElem?_toArray]; rfl) (by kernel_rfl) (by kernel_rfl) (by kernel_rfl) (fun _ _ _ h => h) (Or.inl ⟨by rfl, ?_⟩) (by assumption) ?_
                          rotate_left 1
                          · (intro w_ hSw; (try dsimp only at hSw); go_simp; try with_reducible rfl)
                          try simp only [Act.put, List.setIfInBounds_toArray, List.set_cons_zero, List.set_cons_succ]
                          refine wpAnyH_take (i := 39) (v := ?_) (by rw [List.getElem?_toArray]; rfl) (by kernel_rfl) (by kernel_rfl) (by kernel_rfl) (fun _ _ _ h => h) (Or.inl ⟨by rfl, ?_⟩) (by assumption) ?_
                          rotate_left 1
                          · (intro w_ hSw; (try dsimp only at hSw); go_simp; try with_reducible rfl)
                          try simp only [Act.put, List.setIfInBounds_toArray, List.set_cons_zero, List.set_cons_succ]
                          refine wpAnyH_take (i := 40) (v := ?_) (by rw [List.getElem?_toArray]; rfl) (by kernel_rfl) (by kernel_rfl) (by kernel_rfl) (fun _ _ _ h => h) (Or.inl ⟨by rfl, ?_⟩) (by assumption) ?_
                          rotate_left 1
                          · (intro w_ hSw; (try dsimp only at hSw); go_simp; try with_reducible rfl)
                          try simp only [Act.put, List.setIfInBounds_toArray, List.set_cons_zero, List.set_cons_succ]
                          refine wpAnyH_done (by kernel_rfl) ?_ _
                          refine NoPanic.normal ?_
                          go_wp2
                          go_roundw
                          case rel => exact ⟨r, Sh, by omega, rfl, flatR ls (r + 1) ++ [x], 100 + (r : Int), HS2.out.below (below_drewN hbw2 qz), (flatR_mono ls (Nat.le_succ r)).trans (List.prefix_append _ _), by rw [List.length_append]; simp; omega⟩
                          case measure => simp [intOf]
                        exact AllReadyH.nil
                      exact AllReadyH.nil
                    exact AllReadyH.nil
                  exact AllReadyH.nil
                refine AllReadyH.cons (by rw [List.getElem?_toArray]; rfl) (fun K hK => ?_) ?_
                · skip
                  go_simp
                  refine hK.out _ _ (HALL.out _ (by exact (by repeat (first | exact Below.refl _ _ | assumption | refine Below.setCell ?_ (by first | (simp; done) | (simp; omega) | omega) _ | refine below_drewN ?_ _ | refine Below.drew ?_ | refine Below.alloc ?_ (by first | (simp; done) | (simp; omega) | omega) _)))) (fun hHeld => ?_)
                  clear hK K
                  try simp only [Act.put, List.setIfInBounds_toArray, List.set_cons_zero, List.set_cons_succ]
                  refine wpAnyH_ready (rs := [18]) (by kernel_rfl) (by simp) ?_
                  refine AllReadyH.cons (by rw [List.getElem?_toArray]; rfl) (fun K hK => ?_) ?_
                  · skip
                    go_simp
                    refine hK.out _ _ (HALL.out _ (by exact (by repeat (first | exact Below.refl _ _ | assumption | refine Below.setCell ?_ (by first | (simp; done) | (simp; omega) | omega) _ | refine below_drewN ?_ _ | refine Below.drew ?_ | refine Below.alloc ?_ (by first | (simp; done) | (simp; omega) | omega) _)))) (fun hHeld => ?_)
                    clear hK K
                    try simp only [Act.put, List.setIfInBounds_toArray, List.set_cons_zero, List.set_cons_succ]
                    refine wpAnyH_ready (rs := [25]) (by kernel_rfl) (by simp) ?_
                    refine AllReadyH.cons (by rw [List.getElem?_toArray]; rfl) (fun K hK => ?_) ?_
                    · skip
                      refine step_appendVg _ (by rfl) (.tmp 107) (.tmp 113) rfl (.slice (some ⟨wh.heap.size + 1, 0, none⟩) 0 0) [] rfl (by exact (newrowB (w := wh) (u := wh.alloc (.cells #[.int .i64 x.k, .int .i64 x.n, .string x.s] 44)) (by exact (by repeat (first | exact Below.refl _ _ | assumption | refine Below.setCell ?_ (by first | (simp; done) | (simp; omega) | omega) _ | refine below_drewN ?_ _ | refine Below.drew ?_ | refine Below.alloc ?_ (by first | (simp; done) | (simp; omega) | omega) _))) (by simp)).own) AA L cA (flatR ls (r + 1)) rfl (by exact hRL.new (by repeat (first | exact Below.refl _ _ | assumption | refine Below.setCell ?_ (by first | (simp; done) | (simp; omega) | omega) _ | refine below_drewN ?_ _ | refine Below.drew ?_ | refine Below.alloc ?_ (by first | (simp; done) | (simp; omega) | omega) _))) (by simp; omega) ?_
                      intro v1 wa hv1 hg1 ha1
                      obtain ⟨A1, n1, c1, rfl, _⟩ := OwnV.rd hv1
                      have NR1 : NewRow wh wa (.slice A1 n1 c1) ([] ++ flatR ls (r + 1)) := NewRow.app (newrowB (w := wh) (u := wh.alloc (.cells #[.int .i64 x.k, .int .i64 x.n, .string x.s] 44)) (by exact (by repeat (first | exact Below.refl _ _ | assumption | refine Below.setCell ?_ (by first | (simp; done) | (simp; omega) | omega) _ | refine below_drewN ?_ _ | refine Below.drew ?_ | refine Below.alloc ?_ (by first | (simp; done) | (simp; omega) | omega) _))) (by simp)) hv1 hg1 ha1
                      have hbw := NR1.bel
                      have HG1 := Lib.hid hg1
                      clear hv1 hg1 ha1
                      refine hK.out _ _ (HALL.out _ hbw) (fun hHeld => ?_)
                      clear hK K
                      try simp only [Act.put, List.setIfInBounds_toArray, List.set_cons_zero, List.set_cons_succ]
                      refine wpAnyH_ready (rs := [28]) (by kernel_rfl) (by simp) ?_
                      refine AllReadyH.cons (by rw [List.getElem?_toArray]; rfl) (fun K hK => ?_) ?_
                      · skip
                        refine step_appendVg _ (by rfl) (.tmp 114) (.tmp 116) rfl (.slice A1 n1 c1) ([] ++ flatR ls (r + 1)) rfl (by exact Own.new NR1.own (by repeat (first | exact Below.refl _ _ | assumption | refine Below.setCell ?_ (by first | (simp; done) | (simp; omega) | omega) _ | refine below_drewN ?_ _ | refine Below.drew ?_ | refine Below.alloc ?_ (by first | (simp; done) | (simp; omega) | omega) _))) (some ⟨wh.heap.size, 0, none⟩) 1 1 [x] rfl (by exact RdV.grown (RdV.new (one_rdV wh x) (by exact (by repeat (first | exact Below.refl _ _ | assumption | refine Below.setCell ?_ (by first | (simp; done) | (simp; omega) | omega) _ | refine below_drewN ?_ _ | refine Below.drew ?_ | refine Below.alloc ?_ (by first | (simp; done) | (simp; omega) | omega) _)))) HG1.out (fun b_ o_ e_ e2 => by simp [Value.ownBlock] at e2; injection e_ with e_; injection e_ with e_; omega)) (by simp; omega) ?_
                        intro v2 wb hv2 hg2 ha2
                        have NR2 : NewRow wh wb v2 ([] ++ flatR ls (r + 1) ++ [x]) := NewRow.app (NR1.below (by exact (by repeat (first | exact Below.refl _ _ | assumption | refine Below.setCell ?_ (by first | (simp; done) | (simp; omega) | omega) _ | refine below_drewN ?_ _ | refine Below.drew ?_ | refine Below.alloc ?_ (by first | (simp; done) | (simp; omega) | omega) _)))) hv2 hg2 ha2
                        obtain ⟨A2, n2, c2, rfl, R2, _⟩ := OwnV.rd hv2
                        have hbw2 := NR2.bel
                        clear hv2 hg2 ha2
                        refine hK.out _ _ (HALL.out _ hbw2) (fun hHeld => ?_)
                        clear hK K
                        try simp only [Act.put, List.setIfInBounds_toArray, List.set_cons_zero, List.set_cons_succ]
                        refine wpAnyH_ready (rs := [29]) (by kernel_rfl) (by simp) ?_
                        refine AllReadyH.cons (by rw [List.getElem?_toArray]; rfl) (fun K hK => ?_) ?_
                        · skip
                          go_simp
                          refine (row_same Av A2 nv n2 cv c2 _ _ wb (HRV.out.new hbw2) R2).mono ?_
                          rintro e wz ⟨rfl, qz, rfl⟩
                          rw [show rowSame (fb (flatR ls (r + 1) ++ [x]) (blkR ls r) (100 + (r : Int))).values ([] ++ flatR ls (r + 1) ++ [x]) = true from rowSame_self _]
                          go_wp2_with fail
                          refine hK.out _ _ (HALL.out _ (below_drewN hbw2 qz)) (fun hHeld => ?_)
                          clear hK K
                          try simp only [Act.put, List.setIfInBounds_toArray, List.set_cons_zero, List.set_cons_succ]
                          refine wpAnyH_take (i := 30) (v := ?_) (by rw [List.getElem?_toArray]; rfl) (by kernel_rfl) (by kernel_rfl) (by kernel_rfl) (fun _ _ _ h => h) (Or.inl ⟨by rfl, ?_⟩) (by assumption) ?_
                          rotate_left 1
                          · (intro w_ hSw; (try dsimp only at hSw); go_simp; try with_reducible rfl)
                          try simp only [Act.put, List.setIfInBounds_toArray, List.set_cons_zero, List.set_cons_succ]
                          refine wpAnyH_take (i := 31) (v := ?_) (by rw [List.getElem?_toArray]; rfl) (by kernel_rfl) (by kernel_rfl) (by kernel_rfl) (fun _ _ _ h => h) (Or.inl ⟨by rfl, ?_⟩) (by assumption) ?_
                          rotate_left 1
                          · (intro w_ hSw; (try dsimp only at hSw); go_simp; try with_reducible rfl)
                          try simp only [Act.put, List.setIfInBounds_toArray, List.set_cons_zero, List.set_cons_succ]
                          refine wpAnyH_take (i := 32) (v := ?_) (by rw [List.getElem?_toArray]; rfl) (by kernel_rfl) (by kernel_rfl) (by kernel_rfl) (fun _ _ _ h => h) (Or.inl ⟨by rfl, ?_⟩) (by assumption) ?_
                          rotate_left 1
                          · (intro w_ hSw; (try dsimp only at hSw); go_simp; try with_reducible rfl)
                          try simp only [Act.put, List.setIfInBounds_toArray, List.set_cons_zero, List.set_cons_succ]
                          refine wpAnyH_take (i := 33) (v := ?_) (by rw [List.getElem?_toArray]; rfl) (by kernel_rfl) (by kernel_rfl) (by kernel_rfl) (fun _ _ _ h => h) (Or.inl ⟨by rfl, ?_⟩) (by assumption) ?_
                          rotate_left 1
                          · (intro w_ hSw; (try dsimp only at hSw); go_simp; try with_reducible rfl)
                          try simp only [Act.put, List.setIfInBounds_toArray, List.set_cons_zero, List.set_cons_succ]
                          refine wpAnyH_take (i := 34) (v := ?_) (by rw [List.getElem?_toArray]; rfl) (by kernel_rfl) (by kernel_rfl) (by kernel_rfl) (fun _ _ _ h => h) (Or.inl ⟨by rfl, ?_⟩) (by assumption) ?_
                          rotate_left 1
                          · (intro w_ hSw; (try dsimp only at hSw); go_simp; try with_reducible rfl)
                          try simp only [Act.put, List.setIfInBounds_toArray, List.set_cons_zero, List.set_cons_succ]
                          refine wpAnyH_take (i := 35) (v := ?_) (by rw [List.getElem?_toArray]; rfl) (by kernel_rfl) (by kernel_rfl) (by kernel_rfl) (fun _ _ _ h => h) (Or.inl ⟨by rfl, ?_⟩) (by assumption) ?_
                          rotate_left 1
                          · (intro w_ hSw; (try dsimp only at hSw); go_simp; try with_reducible rfl)
                          try simp only [Act.put, List.setIfInBounds_toArray, List.set_cons_zero, List.set_cons_succ]
                          refine wpAnyH_take (i := 36) (v := ?_) (by rw [List.getElem?_toArray]; rfl) (by kernel_rfl) (by kernel_rfl) (by kernel_rfl) (fun _ _ _ h => h) (Or.inl ⟨by rfl, ?_⟩) (by assumption) ?_
                          rotate_left 1
                          · (intro w_ hSw; (try dsimp only at hSw); go_simp; try with_reducible rfl)
                          try simp only [Act.put, List.setIfInBounds_toArray, List.set_cons_zero, List.set_cons_succ]
                          refine wpAnyH_take (i := 37) (v := ?_) (by rw [List.getElem?_toArray]; rfl) (by kernel_rfl) (by kernel_rfl) (by kernel_rfl) (fun _ _ _ h => h) (Or.inl ⟨by rfl, ?_⟩) (by assumption) ?_
                          rotate_left 1
                          · (intro w_ hSw; (try dsimp only at hSw); go_simp; try with_reducible rfl)
                          try simp only [Act.put, List.setIfInBounds_toArray, List.set_cons_zero, List.set_cons_succ]
                          refine wpAnyH_take (i := 38) (v := ?_) (by rw [List.getElem?_toArray]; rfl) (by kernel_rfl) (by kernel_rfl) (by kernel_rfl) (fun _ _ _ h => h) (Or.inl ⟨by rfl, ?_⟩) (by assumption) ?_
                          rotate_left 1
                          · (intro w_ hSw; (try dsimp only at hSw); go_simp; try with_reducible rfl)
                          try simp only [Act.put, List.setIfInBounds_toArray, List.set_cons_zero, List.set_cons_succ]
                          refine wpAnyH_take (i := 39) (v := ?_) (by rw [List.getElem?_toArray]; rfl) (by kernel_rfl) (by kernel_rfl) (by kernel_rfl) (fun _ _ _ h => h) (Or.inl ⟨by rfl, ?_⟩) (by assumption) ?_
                          rotate_left 1
                          · (intro w_ hSw; (try dsimp only at hSw); go_simp; try with_reducible rfl)
                          try simp only [Act.put, List.setIfInBounds_toArray, List.set_cons_zero, List.set_cons_succ]
                          refine wpAnyH_take (i := 40) (v := ?_) (by rw [List.getElem?_toArray]; rfl) (by kernel_rfl) (by kernel_rfl) (by kernel_rfl) (fun _ _ _ h => h) (Or.inl ⟨by rfl, ?_⟩) (by assumption) ?_
                          rotate_left 1
                          · (intro w_ hSw; (try dsimp only at hSw); go_simp; try with_reducible rfl)
                          try simp only [Act.put, List.setIfInBounds_toArray, List.set_cons_zero, List.set_cons_succ]
                          refine wpAnyH_done (by kernel_rfl) ?_ _
                          refine NoPanic.normal ?_
                          go_wp2
                          go_roundw
                          case rel => exact ⟨r, Sh, by omega, rfl, flatR ls (r + 1) ++ [x], 100 + (r : Int), HS2.out.below (below_drewN hbw2 qz), (flatR_mono ls (Nat.le_succ r)).trans (List.prefix_append _ _), by rw [List.length_append]; simp; omega⟩
                          case measure => simp [intOf]
                        exact AllReadyH.nil
                      exact AllReadyH.nil
                    exact AllReadyH.nil
                  exact AllReadyH.nil
                exact AllReadyH.nil
end Go.Proofs.Ythdkloojhenlkaa
