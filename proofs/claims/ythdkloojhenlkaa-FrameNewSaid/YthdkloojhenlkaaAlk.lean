/- alike: a frame and the reference's, of the same contents. -/
import Derived.Test.YthdkloojhenlkaaRfI
import Derived.Test.YthdkloojhenlkaaRowW
import Derived.Test.YthdkloojhenlkaaBig
namespace Go.Proofs.Ythdkloojhenlkaa
open Go.RowKit
attribute [local go_sem high] guardV eqV neqV
attribute [local go_sem] V.v

/-- a frame's cells, told at whatever lies behind -/
theorem FrAt.cells {T TB : TypeId} {w : World} {g : Nat} {F : Fr} {L B C X K : Value} (h : FrAt T TB w g F L B C X K) :
    w.cell? ⟨g, 0, none⟩ = some (.int .i64 F.code) ∧ w.cell? ⟨g, 1, none⟩ = some (.int .i64 F.pc) ∧ w.cell? ⟨g, 2, none⟩ = some L ∧ w.cell? ⟨g, 3, none⟩ = some B ∧ w.cell? ⟨g, 4, none⟩ = some C ∧
    w.cell? ⟨g, 5, none⟩ = some (.int .i64 F.space.k) ∧ w.cell? ⟨g, 6, none⟩ = some (.int .i64 F.space.n) ∧ w.cell? ⟨g, 7, none⟩ = some (.string F.space.s) ∧ w.cell? ⟨g, 8, none⟩ = some X ∧ w.cell? ⟨g, 9, none⟩ = some K ∧
    w.cell? ⟨g, 10, none⟩ = some (.int .i64 F.after) ∧ w.cell? ⟨g, 11, none⟩ = some (.int .i64 F.keep.k) ∧ w.cell? ⟨g, 12, none⟩ = some (.int .i64 F.keep.n) ∧ w.cell? ⟨g, 13, none⟩ = some (.string F.keep.s) ∧ w.cell? ⟨g, 14, none⟩ = some (.int .i64 F.gen) :=
  ⟨h.blk.cell 0, h.blk.cell 1, h.blk.cell 2, h.blk.cell 3, h.blk.cell 4, h.blk.cell 5, h.blk.cell 6, h.blk.cell 7, h.blk.cell 8, h.blk.cell 9, h.blk.cell 10, h.blk.cell 11, h.blk.cell 12, h.blk.cell 13, h.blk.cell 14⟩

theorem row_drewN {A B : Option Addr} {n m c d : Nat} {xs : List V} (w : World) (hA : RdV w A n c xs) (hB : RdV w B m d xs) (q : Nat) :
    Calls Try.prog 24 #[.slice A n c, .slice B m d] (w.drewN q) fun e w' => e = .returned (.bool true) ∧ ∃ q, w' = w.drewN q :=
  (row_same A B n m c d xs xs (w.drewN q) (hA.new (below_drewN (Below.refl _ _) q)) (hB.new (below_drewN (Below.refl _ _) q))).mono fun e w' ⟨h1, q', h2⟩ => ⟨by rw [h1, rowSame_self], q + q', by rw [h2]; simp [World.drewN, Nat.add_assoc]⟩

set_option maxRecDepth 100000 in
set_option maxHeartbeats 2000000 in
theorem alike_any (g y : Nat) (F : Fr) (S S' : Nat → Prop) (w : World) (hF : IsFr 53 85 w S g F) (hY : IsFr 82 86 w S' y F) :
    Calls Try.prog 18 #[.pointer (some ⟨g, 0, none⟩), .pointer (some ⟨y, 0, none⟩)] w fun e w' => e = .returned (.bool true) ∧ ∃ q, w' = w.drewN q := by
  obtain ⟨L, B, C, X, K, h, _, _⟩ := hF
  obtain ⟨L', B', C', X', K', h', _, _⟩ := hY
  obtain ⟨c0, c1, c2, c3, c4, c5, c6, c7, c8, c9, c10, c11, c12, c13, c14⟩ := h.cells
  obtain ⟨d0, d1, d2, d3, d4, d5, d6, d7, d8, d9, d10, d11, d12, d13, d14⟩ := h'.cells
  obtain ⟨A2, n2, k2, rfl, r2, _⟩ := h.l.rd
  obtain ⟨A3, n3, k3, rfl, r3, _⟩ := h.b.rd
  obtain ⟨A4, n4, k4, rfl, r4, _⟩ := h.c.rd
  obtain ⟨A8, n8, k8, rfl, r8, _⟩ := h.x.rd
  obtain ⟨A9, n9, k9, rfl, r9, _⟩ := h.k.rd
  obtain ⟨B2, m2, j2, rfl, s2, _⟩ := h'.l.rd
  obtain ⟨B3, m3, j3, rfl, s3, _⟩ := h'.b.rd
  obtain ⟨B4, m4, j4, rfl, s4, _⟩ := h'.c.rd
  obtain ⟨B8, m8, j8, rfl, s8, _⟩ := h'.x.rd
  obtain ⟨B9, m9, j9, rfl, s9, _⟩ := h'.k.rd
  obtain rfl : n3 = m3 := r3.1.symm.trans s3.1
  obtain rfl : n9 = m9 := r9.1.symm.trans s9.1
  have HL := Lib.hid (fun q => row_drewN w r2 s2 q)
  have HC := Lib.hid (fun q => row_drewN w r4 s4 q)
  have HX := Lib.hid (fun q => row_drewN w r8 s8 q)
  have e1 : V.same ⟨F.space.k, F.space.n, F.space.s⟩ ⟨F.space.k, F.space.n, F.space.s⟩ = true := by simp [V.same]
  have e2 : V.same ⟨F.keep.k, F.keep.n, F.keep.s⟩ ⟨F.keep.k, F.keep.n, F.keep.s⟩ = true := by simp [V.same]
  have l3 := r3.2.le
  have l9 := r9.2.le
  clear r2 r4 r8 s2 s4 s8 h h'
  go_enter Try.func18, Try.ntmps18
  go_wp2_with fail
  simp only [List.append]
  refine wp_region_quiet_big (by as_aux_lemma => kernel_rfl) (by as_aux_lemma => kernel_rfl) (by repeat (first | exact Lex.nil | refine Lex.cons (by as_aux_lemma => kernel_rfl) ?_)) ?_
  repeat (go_big_quiet_step ((go_at_call 24; first | with_reducible exact HL.out _ | with_reducible exact HC.out _ | with_reducible exact HX.out _)))
  refine wpQuiet_nil ?_
  intro _ hw'
  obtain ⟨nq, hw''⟩ := hw'
  subst hw''
  clear d0 d1 d5 d6 d7 d10 d11 d12 d13 d14 c0 c1 c5 c6 c7 c10 c11 c12 c13 c14 c2 d2 c4 d4 c8 d8 HL HC HX e1 e2
  go_wp2_with fail
  go_loopw [5] (fun i wr => ∃ k q : Nat, k ≤ n3 ∧ i = .int .i64 k ∧ wr = w.drewN q) (fun i _ => n3 - (intOf i).toNat)
  case atStart => exact ⟨0, _, Nat.zero_le _, rfl, rfl⟩
  case round =>
    obtain ⟨k, q, hk, rfl, rfl⟩ := hrel
    by_cases hlt : k < n3
    · obtain ⟨b, o, rfl, hb, z0⟩ := r3.at_ hlt
      obtain ⟨b', o', rfl, hb', y0⟩ := s3.at_ hlt
      go_wp2
      go_region
      all_goals
        go_wp2
        go_roundw
        case rel => exact ⟨k + 1, q + 1, by omega, by go_num, rfl⟩
        case measure => simp [intOf]; omega
    · go_wp2
      obtain ⟨wo, hwo⟩ : ∃ wo : World, wo = w.drewN q := ⟨_, rfl⟩
      go_loopw [6] (fun i wr => ∃ k q : Nat, k ≤ n9 ∧ i = .int .i64 k ∧ wr = w.drewN q) (fun i _ => n9 - (intOf i).toNat)
      case atStart => exact ⟨0, _, Nat.zero_le _, rfl, rfl⟩
      case round =>
        obtain ⟨j, q2, hj, rfl, rfl⟩ := hrel
        by_cases hlj : j < n9
        · obtain ⟨b, o, rfl, hb, z0, z1⟩ := r9.at_ hlj
          obtain ⟨b', o', rfl, hb', y0, y1⟩ := s9.at_ hlj
          go_wp2
          go_quiet (fail)
          go_wp2
          go_roundw
          case rel => exact ⟨j + 1, _, by omega, by go_num, rfl⟩
          case measure => simp [intOf]; omega
        · go_wp2
          go_ret
          exact ⟨rfl, _, rfl⟩
end Go.Proofs.Ythdkloojhenlkaa
