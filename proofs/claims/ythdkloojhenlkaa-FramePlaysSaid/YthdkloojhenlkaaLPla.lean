/- FramePlays: the walk. -/
import Derived.Test.YthdkloojhenlkaaPly
namespace Go.Proofs.Ythdkloojhenlkaa
open Go.RowKit
attribute [local go_sem high] guardV eqV neqV
attribute [local go_sem] V.v

set_option maxRecDepth 100000 in
set_option maxHeartbeats 4000000 in
theorem plays_walk (A : Option Addr) (n c : Nat) (cs : List CallV) (w : World) (hA : RdC w A n c cs) :
    Calls Try.prog 10 #[.slice A n c] w fun e w' => e = .returned (.bool true) ∧ Below w.heap.size w w' := by
  have hn : n ≤ 9223372036854775807 := by have := hA.1; have := hA.2.1; omega
  go_enter Try.func10, Try.ntmps10
  go_wp2_with fail
  refine (shown_any _).mono ?_
  rintro e w1 ⟨rfl, hb1⟩
  go_wp2_with fail
  refine (empty_env _).mono ?_
  rintro e w2 ⟨S, g, rfl, E2⟩
  go_wp2_with fail
  refine (num_any 7 _).mono ?_
  rintro e w3 ⟨rfl, hb3⟩
  have HB := Lib.hid hb3
  clear hb3
  go_wp2_with fail
  have hb4 : Below w3.heap.size w3 (w3.alloc (Obj.cells #[Value.int IntKind.i64 2, Value.int IntKind.i64 7, Value.string { data := #[] }] 44)) := (by repeat (first | exact Below.refl _ _ | assumption | refine Below.setCell ?_ (by first | (simp; done) | (simp; omega) | omega) _ | refine below_drewN ?_ _ | refine Below.drew ?_ | refine Below.alloc ?_ (by first | (simp; done) | (simp; omega) | omega) _))
  have hs1 := HB.out.size
  simp at hs1
  have hnm : Blk (w3.alloc (Obj.cells #[Value.int IntKind.i64 2, Value.int IntKind.i64 7, Value.string { data := #[] }] 44)) w2.heap.size 9 (scs names3).toArray := (((Blk.new w2 9 _).alloc _).below HB.out (by simp; omega)).alloc _
  have hp := ((Blk.newAt (w := w2.alloc (Obj.cells #[Value.string { data := #[97] }, Value.string { data := #[98] }, Value.string { data := #[99] }] 9)) (t := 31) (g := w2.heap.size + 1) (cs := #[Value.string { data := #[] }, Value.int IntKind.i64 0, Value.int IntKind.i64 1, Value.int IntKind.i64 0,
          Value.bool false, Value.slice (some { block := w2.heap.size, off := 0 }) 3 3, Value.slice none 0 0, Value.slice none 0 0, Value.slice none 0 0, Value.slice none 0 0, Value.slice none 0 0]) (by simp)).below HB.out (by simp)).alloc (Obj.cells #[Value.int IntKind.i64 2, Value.int IntKind.i64 7, Value.string { data := #[] }] 44)
  refine (rnew_yes _ 1 1 0 names3 [] 0 _ 1 1 [numV 7] _ 0 0 [] _ (by omega) (by omega) (blk_code hp (blk_rdS hnm rfl (by omega)) (nil_rdS _)) (one_rdV w3 (numV 7)) (nil_rdV _) (by decide) rfl (by decide) (by decide)).mono ?_
  rintro e w4 ⟨y, rfl, hF, hb5⟩
  have hmid : Below w2.heap.size w2 (w3.alloc (Obj.cells #[Value.int IntKind.i64 2, Value.int IntKind.i64 7, Value.string { data := #[] }] 44)) := (Below.trans (by exact (by repeat (first | exact Below.refl _ _ | assumption | refine Below.setCell ?_ (by first | (simp; done) | (simp; omega) | omega) _ | refine below_drewN ?_ _ | refine Below.drew ?_ | refine Below.alloc ?_ (by first | (simp; done) | (simp; omega) | omega) _))) (HB.out.mono (by simp; omega))).trans (hb4.mono (by omega))
  obtain ⟨S', T1⟩ := two_of E2 hmid hF hb5
  have T4 : Two w w4 S S' g y Fr.empty Fr.empty := ⟨T1.f, T1.r, T1.far, fun i hi => Nat.le_trans hb1.size (T1.own i hi), fun i hi => Nat.le_trans hb1.size (T1.own' i hi), hb1.trans (T1.bel.mono hb1.size)⟩
  clear hF hb5 hmid hb4 hnm hp HB hs1 E2 hb1 T1
  go_wp2_with fail
  refine (alike_any g y Fr.empty S S' w4 T4.f T4.r).mono ?_
  rintro e w5 ⟨rfl, q, rfl⟩
  have T5 := T4.new (below_drewN (Below.refl _ _) q)
  clear T4
  go_wp2_with fail
  go_loopw [7] (fun i wr => ∃ (k : Nat) (S S' : Nat → Prop) (F : Fr), k ≤ n ∧ k ≤ 40 ∧ i = .int .i64 k ∧ Two w wr S S' g y F F ∧ F.Fits (12 * k) k 3) (fun i _ => 40 - (intOf i).toNat)
  case atStart => exact ⟨0, S, S', Fr.empty, Nat.zero_le _, Nat.zero_le _, rfl, T5, Fr.empty_fits⟩
  case round =>
    clear T5
    obtain ⟨k, S, S', F, hk, hk40, rfl, T, hf⟩ := hrel
    by_cases hlt : k < n ∧ k < 40
    · obtain ⟨hlt, hl40⟩ := hlt
      obtain ⟨b, o, A', n', c', rfl, hb, q0, q1, q2, hr, hn1, hn2⟩ := (hA.new T.bel).2.2.2 k (by rw [hA.2.2.1]; exact hlt)
      generalize cs[k]'_ = C at *
      have hff := hf.mono (v' := 900000) (b' := 900000) (l' := 1000) (by omega) (by omega) (by omega)
      have hf2 := Fr.did_fits hf (C.d.tmod 11 % 11) C.n C.l
      have HF2 := Lib.hid hf2
      clear hf2 hf
      go_wp2_with fail
      refine (both_any w wr S S' g y F C.d C.n A' n' c' C.l T hr hff ⟨hn1, hn2⟩).mono ?_
      rintro e w6 ⟨rfl, U, U', T6, _⟩
      clear T q0 q1 q2 hr hff
      go_wp2_with fail
      refine (alike_any g y _ U U' w6 T6.f T6.r).mono ?_
      rintro e w7 ⟨rfl, q, rfl⟩
      have T7 := T6.new (below_drewN (Below.refl _ _) q)
      have HT7 := Lib.hid T7
      clear T6 T7
      go_wp2
      go_roundw
      case rel => exact ⟨k + 1, U, U', _, by omega, by omega, by go_num, HT7.out, HF2.out⟩
      case measure => simp [intOf]; omega
    · have HT := Lib.hid T
      clear T hf
      by_cases hkn : k < n
      · have hk2 : ¬ k < 40 := by omega
        go_wp2
        go_ret
        exact ⟨rfl, HT.out.bel⟩
      · go_wp2
        go_ret
        exact ⟨rfl, HT.out.bel⟩
end Go.Proofs.Ythdkloojhenlkaa
