/- FrameOwn: the walk. -/
import Derived.Test.YthdkloojhenlkaaOwn
namespace Go.Proofs.Ythdkloojhenlkaa
open Go.RowKit
attribute [local go_sem high] guardV eqV neqV
attribute [local go_sem] V.v

theorem cells3 {w : World} {b : Nat} {T : TypeId} {x : V} (h : Blk w b T #[.int .i64 x.k, .int .i64 x.n, .string x.s]) :
    w.cell? ⟨b, 0, none⟩ = some (.int .i64 x.k) ∧ w.cell? ⟨b, 1, none⟩ = some (.int .i64 x.n) ∧ w.cell? ⟨b, 2, none⟩ = some (.string x.s) := ⟨h.cell 0, h.cell 1, h.cell 2⟩

theorem cells9 {w : World} {S : Nat → Prop} {bT oT cT bU oU cU : Nat} (RT : RowR w S (some ⟨bT, oT, none⟩) 2 cT [numV 1, numV 2]) (RU : RowR w S (some ⟨bU, oU, none⟩) 2 cU [numV 3, numV 4]) :
    w.cell? ⟨bT, oT, none⟩ = some (.int .i64 2) ∧ w.cell? ⟨bT, oT + 1, none⟩ = some (.int .i64 1) ∧ w.cell? ⟨bT, oT + 2, none⟩ = some (.string ⟨#[]⟩) ∧ w.cell? ⟨bT, oT + 3, none⟩ = some (.int .i64 2) ∧ w.cell? ⟨bT, oT + 3 + 1, none⟩ = some (.int .i64 2) ∧ w.cell? ⟨bT, oT + 3 + 2, none⟩ = some (.string ⟨#[]⟩) ∧ w.cell? ⟨bU, oU, none⟩ = some (.int .i64 2) ∧ w.cell? ⟨bU, oU + 1, none⟩ = some (.int .i64 3) ∧ w.cell? ⟨bU, oU + 2, none⟩ = some (.string ⟨#[]⟩) := by
  obtain ⟨_, _, e, _, t0, t1, t2⟩ := RT.at_ (i := 0) (by decide)
  cases e
  obtain ⟨_, _, e, _, t3, t4, t5⟩ := RT.at_ (i := 1) (by decide)
  cases e
  obtain ⟨_, _, e, _, u0, u1, u2⟩ := RU.at_ (i := 0) (by decide)
  cases e
  exact ⟨t0, t1, t2, t3, t4, t5, u0, u1, u2⟩
theorem take2 (F : Fr) (p q : V) : ({ F with values := F.values ++ [p, q] } : Fr).takeOk 2 = true ∧ ({ F with values := F.values ++ [p, q] } : Fr).taken 2 = [p, q] ∧ ({ F with values := F.values ++ [p, q] } : Fr).took 2 = F := by
  have e : ({ F with values := F.values ++ [p, q] } : Fr).takeOk 2 = true := decide_eq_true (p := 0 ≤ (2 : Int) ∧ (2 : Int) ≤ ((F.values ++ [p, q]).length : Int)) ⟨by omega, by simp; omega⟩
  have e2 : (F.values ++ [p, q]).length - 2 = F.values.length := by simp
  refine ⟨e, ?_, ?_⟩
  · simp only [Fr.taken, e, if_true]
    show (F.values ++ [p, q]).drop ((F.values ++ [p, q]).length - 2) = _
    rw [e2, List.drop_left]
  · simp only [Fr.took, e, if_true]
    show ({ F with values := (F.values ++ [p, q]).take ((F.values ++ [p, q]).length - 2) } : Fr) = F
    rw [e2, List.take_left]

set_option maxRecDepth 100000 in
set_option maxHeartbeats 4000000 in
theorem own_walk (A : Option Addr) (na ca : Nat) (xa : List V) (x : V) (w : World) (hA : RdV w A na ca xa) :
    Calls Try.prog 6 #[.slice A na ca, .agg #[.int .i64 x.k, .int .i64 x.n, .string x.s]] w fun e w' => e = .returned (.bool true) ∧ Below w.heap.size w w' := by
  have hbx : Below w.heap.size w (w.alloc (.cells #[.int .i64 x.k, .int .i64 x.n, .string x.s] 44)) := (by repeat (first | exact Below.refl _ _ | assumption | refine Below.setCell ?_ (by first | (simp; done) | (simp; omega) | omega) _ | refine below_drewN ?_ _ | refine Below.drew ?_ | refine Below.alloc ?_ (by first | (simp; done) | (simp; omega) | omega) _))
  have BX := Blk.new w 44 #[.int .i64 x.k, .int .i64 x.n, .string x.s]
  have hA := hA.new hbx
  go_enter Try.func6, Try.ntmps6
  go_wp2_with fail
  refine (shown_any _).mono ?_
  rintro e w1 ⟨rfl, hb1⟩
  have HB := hbx.trans (hb1.mono (by simp))
  have BX := BX.below hb1 BX.lt
  have hA := hA.new hb1
  have z1 : w.heap.size < w1.heap.size := BX.lt
  clear hb1 hbx
  have hX := cutRow_length xa
  go_wp2_with fail
  refine (row_wr hA).mono ?_
  rintro e w2 ⟨A2, c2, rfl, O2, D2, hb2⟩
  have HB := HB.trans (hb2.mono HB.size)
  have BX := BX.below hb2 BX.lt
  have hA := hA.new hb2
  have z2 := hb2.size
  clear hb2
  go_wp2_with fail
  refine (row_wr hA).mono ?_
  rintro e w3 ⟨A3, c3, rfl, O3, D3, hb3⟩
  have O2 := Own.new O2 hb3
  have HB := HB.trans (hb3.mono HB.size)
  have BX := BX.below hb3 BX.lt
  have hA := hA.new hb3
  have z3 := hb3.size
  clear hb3
  have mS := make_S (cutRow xa).length (by omega)
  generalize hXX : cutRow xa = X at *
  have HXX := Lib.hid hXX
  clear hXX
  go_wp2_with fail
  have hbW : Below w3.heap.size w3 ((w3.alloc (Obj.cells (zS X.length) 9)).alloc (Obj.cells #[Value.string { data := #[] }, Value.int IntKind.i64 0, Value.int IntKind.i64 (X.length : Int), Value.int IntKind.i64 0,
          Value.bool false, Value.slice (some { block := w3.heap.size, off := 0 }) X.length X.length, Value.slice none 0 0,
          Value.slice (some { block := w3.heap.size, off := 0 }) X.length X.length, Value.slice none 0 0, Value.slice none 0 0, Value.slice none 0 0] 31)) := (by repeat (first | exact Below.refl _ _ | assumption | refine Below.setCell ?_ (by first | (simp; done) | (simp; omega) | omega) _ | refine below_drewN ?_ _ | refine Below.drew ?_ | refine Below.alloc ?_ (by first | (simp; done) | (simp; omega) | omega) _))
  have hnm : Blk ((w3.alloc (Obj.cells (zS X.length) 9)).alloc (Obj.cells #[Value.string { data := #[] }, Value.int IntKind.i64 0, Value.int IntKind.i64 (X.length : Int), Value.int IntKind.i64 0,
          Value.bool false, Value.slice (some { block := w3.heap.size, off := 0 }) X.length X.length, Value.slice none 0 0,
          Value.slice (some { block := w3.heap.size, off := 0 }) X.length X.length, Value.slice none 0 0, Value.slice none 0 0, Value.slice none 0 0] 31)) w3.heap.size 9 (scs (List.replicate X.length ⟨#[]⟩)).toArray := (Blk.new w3 9 _).alloc _
  have hpr := Blk.newAt (w := w3.alloc (Obj.cells (zS X.length) 9)) (t := 31) (g := w3.heap.size + 1) (cs := #[Value.string { data := #[] }, Value.int IntKind.i64 0, Value.int IntKind.i64 (X.length : Int), Value.int IntKind.i64 0,
          Value.bool false, Value.slice (some { block := w3.heap.size, off := 0 }) X.length X.length, Value.slice none 0 0,
          Value.slice (some { block := w3.heap.size, off := 0 }) X.length X.length, Value.slice none 0 0, Value.slice none 0 0, Value.slice none 0 0]) (by simp)
  obtain ⟨_, _, _, e2, R2, _⟩ := OwnV.rd (OwnV.new' O2 hbW)
  cases e2
  obtain ⟨_, _, _, e3, R3, _⟩ := OwnV.rd (OwnV.new' O3 hbW)
  cases e3
  have hnmr := blk_rdS hnm (List.length_replicate) (by omega)
  refine (new_env _ 1 1 0 (List.replicate X.length ⟨#[]⟩) [] X.length A2 X.length c2 X A3 X.length c3 X _ (by omega) (by omega) (blk_code hpr hnmr (nil_rdS _)) R2 R3 (by simp) (by simp) (by simp; omega) (by simp; omega)).mono ?_
  rintro e w5 ⟨S5, g, rfl, E5⟩
  have hS5 : ∀ i, S5 i → w3.heap.size ≤ i := fun i hi => by have := E5.own i hi; simp at this; omega
  have HB4 := HB.trans (hbW.mono HB.size)
  have O2 := OwnV.new' (OwnV.new' O2 hbW) E5.bel
  have O3 := OwnV.new' (OwnV.new' O3 hbW) E5.bel
  have hA := (hA.new hbW).new E5.bel
  have BX' := (BX.below hbW BX.lt)
  have BX := BX'.below E5.bel BX'.lt
  have NX : ¬ S5 w.heap.size := fun h => by have := hS5 _ h; omega
  have z5 : w3.heap.size ≤ w5.heap.size := by have := E5.bel.size; simp at this; omega
  have E5 := E5.rebase HB4
  have WA : Wr w5 S5 (.slice A2 X.length c2) X.length := ⟨X, rfl, O2, fun b e hs => by have := D2 b e; have := hS5 b hs; omega⟩
  have WC : Wr w5 S5 (.slice A3 X.length c3) X.length := ⟨X, rfl, O3, fun b e hs => by have := D3 b e; have := hS5 b hs; omega⟩
  obtain ⟨F, hF⟩ : ∃ F, F = Fr.new 0 (List.replicate X.length ⟨#[]⟩) [] X X := ⟨_, rfl⟩
  rw [← hF] at E5
  have hFl : F.locals.length + F.cells.length ≤ 24 := by rw [hF]; simp [Fr.new, Fr.at_, locTo]; omega
  have hFv : F.values.length ≤ 0 := by rw [hF]; simp [Fr.new, Fr.at_]
  clear hF hpr hnm hnmr R2 R3 O2 O3 BX' hbW mS HB4
  have hrw := row_wr hA
  rw [HXX.out] at hrw
  go_wp2_with fail
  refine hrw.mono ?_
  rintro e w6 ⟨A6, c6, rfl, O6, D6, hb6⟩
  have E6 := E5.new hb6
  have BX := BX.below hb6 BX.lt
  have WA := WA.below hb6
  have WC := WC.below hb6
  have z6 := hb6.size
  have WV : Wr w6 S5 (.slice A6 X.length c6) X.length := ⟨X, rfl, O6, fun b e hs => by have := D6 b e; have := E5.lt hs; omega⟩
  obtain ⟨_, _, _, e6, R6, _⟩ := OwnV.rd O6
  cases e6
  clear E5 hb6 hrw hA
  go_wp2_with fail
  refine (push_env E6 _ _ _ _ R6 (by omega)).mono ?_
  rintro e w7 ⟨S7, rfl, E7, K7⟩
  have WA := WA.kept K7
  have WC := WC.kept K7
  have WV := WV.kept K7
  have BX := K7.blk BX NX
  have z7 := K7.size
  obtain ⟨G, hG⟩ : ∃ G, G = ({ F with values := F.values ++ X } : Fr) := ⟨_, rfl⟩
  rw [← hG] at E7
  have hGl : G.locals.length + G.cells.length + G.values.length ≤ 36 := by rw [hG]; simp; omega
  clear E6 K7 R6 O6 hG hFl hFv NX
  go_wp2_with fail
  refine (held_wr E7 (by omega)).mono ?_
  rintro e w8 ⟨A8, n8, c8, rfl, O8, L8, D8, E8, hb8⟩
  have BX := BX.below hb8 BX.lt
  have WA := WA.below hb8
  have WC := WC.below hb8
  have WV := WV.below hb8
  have z8 := hb8.size
  obtain ⟨_, _, _, e8, RW⟩ := RowR.of_ownN (S := S7) O8 (fun b e hs => by have := D8 b e; have := E7.lt hs; omega)
  cases e8
  clear E7 hb8 O8 L8
  go_wp2_with fail
  refine (held_wr E8 (by omega)).mono ?_
  rintro e w9 ⟨A9, n9, c9, rfl, O9, L9, D9, E9, hb9⟩
  have BX := BX.below hb9 BX.lt
  have WA := WA.below hb9
  have WC := WC.below hb9
  have WV := WV.below hb9
  have RW := RW.below hb9
  have WH : Wr w9 S7 (.slice A9 n9 c9) n9 := ⟨G.held, L9, O9, fun b e hs => by have := D9 b e; have := E8.lt hs; omega⟩
  clear E8 hb9 O9
  have d : OwnNe w (.slice A2 X.length c2) (.slice A3 X.length c3) (.slice A6 X.length c6) (.slice A9 n9 c9) A8 n8 := by
    have hw8 : ∀ b o, A8 = some ⟨b, o, none⟩ → (Value.slice A8 n8 c8).ownBlock = some b := fun b o e => by rw [e]; rfl
    refine ⟨fun b e e' => ?_, fun b e e' => ?_, fun b e e' => ?_, fun b e e' => ?_, fun b e e' => ?_, fun b e e' => ?_, fun b o e _ e' => ?_, fun b o e _ e' => ?_, fun b o e _ e' => ?_, fun b o e _ e' => ?_, fun b e => ?_⟩
    · have := D2 b e; have := D3 b e'; omega
    · have := D2 b e; have := D6 b e'; omega
    · have := D2 b e; have := D9 b e'; omega
    · have := D3 b e; have := D6 b e'; omega
    · have := D3 b e; have := D9 b e'; omega
    · have := D6 b e; have := D9 b e'; omega
    · have := D8 b (hw8 b o e); have := D2 b e'; omega
    · have := D8 b (hw8 b o e); have := D3 b e'; omega
    · have := D8 b (hw8 b o e); have := D6 b e'; omega
    · have := D8 b (hw8 b o e); have := D9 b e'; omega
    · rcases e with e | e | e | e
      · have := D2 b e; omega
      · have := D3 b e; omega
      · have := D6 b e; omega
      · have := D9 b e; omega
  have s : OwnSt w x S7 g G (.slice A2 X.length c2) (.slice A3 X.length c3) (.slice A6 X.length c6) (.slice A9 n9 c9) X.length n9 A8 n8 c8 G.held w9 := ⟨E9, WA, WC, WV, WH, RW, BX⟩
  have hLG : n9 ≤ 40 := by rw [← L9]; unfold Fr.held; have := boundTo_le G G.locals.length; simp; omega
  have HD := Lib.hid d
  clear d D2 D3 D6 D8 D9 E9 WA WC WV WH RW BX L9 z1 z2 z3 z5 z6 z7 z8 hS5 HB
  generalize X.length = n at *
  go_wp2
  go_loopw [14] (fun i wr => ∃ k : Nat, k ≤ n ∧ i = .int .i64 k ∧ OwnSt w x S7 g G (.slice A2 n c2) (.slice A3 n c3) (.slice A6 n c6) (.slice A9 n9 c9) n n9 A8 n8 c8 G.held wr) (fun i _ => n - (intOf i).toNat)
  case atStart => exact ⟨0, by omega, rfl, s⟩
  case round =>
    clear s
    obtain ⟨k, hk, rfl, s⟩ := hrel
    by_cases hlt : k < n
    · obtain ⟨bA, _, eA, lA, sA, ⟨xA, a0, a1, a2⟩, fA⟩ := s.a.at_ hlt
      obtain ⟨bC, _, eC, lC, sC, ⟨xC, b0, b1, b2⟩, fC⟩ := s.c.at_ hlt
      obtain ⟨bV, _, eV, lV, sV, ⟨xV, d0, d1, d2⟩, fV⟩ := s.v.at_ hlt
      injection eA with eA _ eA'
      injection eC with eC _ eC'
      injection eV with eV _ eV'
      subst eA eA' eC eC' eV eV'
      have nAC : bA ≠ bC := fun e => HD.out.ac bA rfl (by rw [e]; rfl)
      have nAV : bA ≠ bV := fun e => HD.out.av bA rfl (by rw [e]; rfl)
      have nCV : bC ≠ bV := fun e => HD.out.cv bC rfl (by rw [e]; rfl)
      have nCA := Ne.symm nAC
      have nVA := Ne.symm nAV
      have nVC := Ne.symm nCV
      have nAx : w.heap.size ≠ bA := fun e => by have := HD.out.lo bA (.inl rfl); omega
      have nCx : w.heap.size ≠ bC := fun e => by have := HD.out.lo bC (.inr (.inl rfl)); omega
      have nVx : w.heap.size ≠ bV := fun e => by have := HD.out.lo bV (.inr (.inr (.inl rfl))); omega
      have nxA := Ne.symm nAx
      have nxC := Ne.symm nCx
      have nxV := Ne.symm nVx
      obtain ⟨x0, x1, x2⟩ := cells3 s.bx
      have s2 := ((s.storeA HD.out sA hlt x).storeC HD.out sC hlt x).storeV HD.out sV hlt x
      have HS2 := Lib.hid s2
      clear s s2
      go_wp2
      go_roundw
      case rel => exact ⟨k + 1, by omega, by go_num, HS2.out⟩
      case measure => simp [intOf]; omega
    · go_wp2
      clear hlt hk
      go_loopw [15] (fun i wr => ∃ k : Nat, k ≤ n9 ∧ i = .int .i64 k ∧ OwnSt w x S7 g G (.slice A2 n c2) (.slice A3 n c3) (.slice A6 n c6) (.slice A9 n9 c9) n n9 A8 n8 c8 G.held wr) (fun i _ => n9 - (intOf i).toNat)
      case atStart => exact ⟨0, by omega, rfl, s⟩
      case round =>
        clear s
        obtain ⟨k, hk, rfl, s⟩ := hrel
        by_cases hlt : k < n9
        · obtain ⟨bH, _, eH, lH, sH, ⟨xH, a0, a1, a2⟩, fH⟩ := s.h.at_ hlt
          injection eH with eH _ eH'
          subst eH eH'
          have nHx : w.heap.size ≠ bH := fun e => by have := HD.out.lo bH (.inr (.inr (.inr rfl))); omega
          have nxH := Ne.symm nHx
          obtain ⟨x0, x1, x2⟩ := cells3 s.bx
          have s2 := s.storeH HD.out sH hlt x
          have HS2 := Lib.hid s2
          clear s s2
          go_wp2
          go_roundw
          case rel => exact ⟨k + 1, by omega, by go_num, HS2.out⟩
          case measure => simp [intOf]; omega
        · have E := s.env
          have RW := s.wnt
          clear s HD
          go_wp2_with fail
          clear hlt hk
          refine (num_any 1 _).mono ?_
          rintro e p1 ⟨rfl, hp1⟩
          have E := E.new hp1
          have RW := RW.below hp1
          clear hp1
          go_wp2_with fail
          refine (num_any 2 _).mono ?_
          rintro e p2 ⟨rfl, hp2⟩
          have hp2' : Below p2.heap.size p2 (p2.alloc (.cells #[.int .i64 2, .int .i64 1, .string ⟨#[]⟩, .int .i64 2, .int .i64 2, .string ⟨#[]⟩] 44)) := (by repeat (first | exact Below.refl _ _ | assumption | refine Below.setCell ?_ (by first | (simp; done) | (simp; omega) | omega) _ | refine below_drewN ?_ _ | refine Below.drew ?_ | refine Below.alloc ?_ (by first | (simp; done) | (simp; omega) | omega) _))
          have E := (E.new hp2).new hp2'
          have RW := (RW.below hp2).below hp2'
          clear hp2 hp2'
          go_wp2_with fail
          refine (push_env E _ 2 2 [numV 1, numV 2] (two_rdV p2 (numV 1) (numV 2)) (by omega)).mono ?_
          rintro e p3 ⟨S3, rfl, E3, K3⟩
          have RW := RW.kept K3
          clear E K3
          go_wp2_with fail
          refine (take_env E3 2 (by simp; omega)).mono ?_
          rintro e p4 ⟨S4, v4, rfl, O4, N4, E4, K4⟩
          rw [(take2 G (numV 1) (numV 2)).1]
          rw [(take2 G (numV 1) (numV 2)).2.1] at O4
          rw [(take2 G (numV 1) (numV 2)).2.2] at E4
          have RW := RW.kept K4
          obtain ⟨AT, cT, rfl, RT⟩ := RowR.of_own (S := S4) O4 (fun b e => (N4 b e).2)
          clear E3 K4 O4 N4
          go_wp2_with fail
          refine (num_any 3 _).mono ?_
          rintro e p5 ⟨rfl, hp5⟩
          have E := E4.new hp5
          have RW := RW.below hp5
          have RT := RT.below hp5
          clear hp5 E4
          go_wp2_with fail
          refine (num_any 4 _).mono ?_
          rintro e p6 ⟨rfl, hp6⟩
          have hp6' : Below p6.heap.size p6 (p6.alloc (.cells #[.int .i64 2, .int .i64 3, .string ⟨#[]⟩, .int .i64 2, .int .i64 4, .string ⟨#[]⟩] 44)) := (by repeat (first | exact Below.refl _ _ | assumption | refine Below.setCell ?_ (by first | (simp; done) | (simp; omega) | omega) _ | refine below_drewN ?_ _ | refine Below.drew ?_ | refine Below.alloc ?_ (by first | (simp; done) | (simp; omega) | omega) _))
          have E := (E.new hp6).new hp6'
          have RW := (RW.below hp6).below hp6'
          have RT := (RT.below hp6).below hp6'
          clear hp6 hp6'
          go_wp2_with fail
          refine (push_env E _ 2 2 [numV 3, numV 4] (two_rdV p6 (numV 3) (numV 4)) (by omega)).mono ?_
          rintro e p7 ⟨S7', rfl, E7, K7⟩
          have RW := RW.kept K7
          have RT := RT.kept K7
          clear E K7
          go_wp2_with fail
          refine (take_env E7 2 (by simp; omega)).mono ?_
          rintro e p8 ⟨S8, v8, rfl, O8, N8, E8, K8⟩
          rw [(take2 G (numV 3) (numV 4)).1]
          rw [(take2 G (numV 3) (numV 4)).2.1] at O8
          rw [(take2 G (numV 3) (numV 4)).2.2] at E8
          have RW := RW.kept K8
          have RT := RT.kept K8
          obtain ⟨AU, cU, rfl, RU⟩ := RowR.of_own (S := S8) O8 (fun b e => (N8 b e).2)
          clear E7 K8 O8 N8
          obtain ⟨bT, oT, rfl⟩ : ∃ b o, AT = some ⟨b, o, none⟩ := by obtain ⟨b, o, e, _⟩ := RT.at_ (i := 0) (by decide); exact ⟨b, o, e⟩
          obtain ⟨bU, oU, rfl⟩ : ∃ b o, AU = some ⟨b, o, none⟩ := by obtain ⟨b, o, e, _⟩ := RU.at_ (i := 0) (by decide); exact ⟨b, o, e⟩
          have RT0 : RowR p8 S8 (some ⟨bT, oT, none⟩) 2 cT [numV 1, numV 2] := RT
          have RU0 : RowR p8 S8 (some ⟨bU, oU, none⟩) 2 cU [numV 3, numV 4] := RU
          clear RT RU
          have hc9 := cells9 RT0 RU0
          have HC9 := Lib.hid hc9
          clear hc9
          have hE := E8.bel
          go_wp2_with fail
          go_region_held3 (fun w' => w'.cell? ⟨bT, oT, none⟩ = some (.int .i64 2) ∧ w'.cell? ⟨bT, oT + 1, none⟩ = some (.int .i64 1) ∧ w'.cell? ⟨bT, oT + 2, none⟩ = some (.string ⟨#[]⟩) ∧ w'.cell? ⟨bT, oT + 3, none⟩ = some (.int .i64 2) ∧ w'.cell? ⟨bT, oT + 3 + 1, none⟩ = some (.int .i64 2) ∧ w'.cell? ⟨bT, oT + 3 + 2, none⟩ = some (.string ⟨#[]⟩) ∧ w'.cell? ⟨bU, oU, none⟩ = some (.int .i64 2) ∧ w'.cell? ⟨bU, oU + 1, none⟩ = some (.int .i64 3) ∧ w'.cell? ⟨bU, oU + 2, none⟩ = some (.string ⟨#[]⟩))
            (first | exact HC9.out | exact cells9 RT1 RU1 | exact cells9 RT2 RU2 | exact cells9 RT3 RU3 | exact cells9 RT4 RU4 | exact cells9 RT5 RU5)
            (first
              | (go_at_call_of 25 (Value.int IntKind.i64 1); refine (num_any 1 _).mono ?_; rintro e y1 ⟨rfl, hy1⟩; have RT1 := RowR.below (w := p8.drew) (RT0.below (by repeat (first | exact Below.refl _ _ | assumption | refine Below.setCell ?_ (by first | (simp; done) | (simp; omega) | omega) _ | refine below_drewN ?_ _ | refine Below.drew ?_ | refine Below.alloc ?_ (by first | (simp; done) | (simp; omega) | omega) _))) hy1; have RU1 := RowR.below (w := p8.drew) (RU0.below (by repeat (first | exact Below.refl _ _ | assumption | refine Below.setCell ?_ (by first | (simp; done) | (simp; omega) | omega) _ | refine below_drewN ?_ _ | refine Below.drew ?_ | refine Below.alloc ?_ (by first | (simp; done) | (simp; omega) | omega) _))) hy1; have RW1 := RowR.below (w := p8.drew) (RW.below (by repeat (first | exact Below.refl _ _ | assumption | refine Below.setCell ?_ (by first | (simp; done) | (simp; omega) | omega) _ | refine below_drewN ?_ _ | refine Below.drew ?_ | refine Below.alloc ?_ (by first | (simp; done) | (simp; omega) | omega) _))) hy1; have E1 := Env.new (w := p8.drew) (E8.new (by repeat (first | exact Below.refl _ _ | assumption | refine Below.setCell ?_ (by first | (simp; done) | (simp; omega) | omega) _ | refine below_drewN ?_ _ | refine Below.drew ?_ | refine Below.alloc ?_ (by first | (simp; done) | (simp; omega) | omega) _))) hy1; clear hy1)
              | (go_at_call_of 25 (Value.int IntKind.i64 2); refine (num_any 2 _).mono ?_; rintro e y2 ⟨rfl, hy2⟩; have RT2 := RT1.below hy2; have RU2 := RU1.below hy2; have RW2 := RW1.below hy2; have E2 := E1.new hy2; clear hy2)
              | (go_at_call_of 25 (Value.int IntKind.i64 3); refine (num_any 3 _).mono ?_; rintro e y3 ⟨rfl, hy3⟩; have RT3 := RT2.below hy3; have RU3 := RU2.below hy3; have RW3 := RW2.below hy3; have E3 := E2.new hy3; clear hy3)
              | (go_at_call 27; refine (held_env E3 (by omega)).mono ?_; rintro e y4 ⟨A4, n4, c4, rfl, RH, E4, hy4⟩; have RT4 := RT3.below hy4; have RU4 := RU3.below hy4; have RW4 := RW3.below hy4; clear hy4)
              | (go_at_call 24; refine (row_same _ _ _ _ _ _ _ _ _ RH.rd RW4.rd).mono ?_; rintro e y5 ⟨rfl, q5, rfl⟩; rw [rowSame_self]; have RT5 := RT4.below (below_drewN (Below.refl _ _) q5); have RU5 := RU4.below (below_drewN (Below.refl _ _) q5)))
          all_goals
            go_wp2
            go_ret
            exact ⟨rfl, below_drewN E4.bel q5⟩
end Go.Proofs.Ythdkloojhenlkaa
