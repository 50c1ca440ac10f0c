/- shown: the document's example holds. -/
import Derived.Test.YthdkloojhenlkaaEnv
namespace Go.Proofs.Ythdkloojhenlkaa
open Go.RowKit
attribute [local go_sem high] guardV eqV neqV
attribute [local go_sem] V.v

set_option maxRecDepth 100000 in
set_option maxHeartbeats 1000000 in
theorem shown_any (w : World) : Calls Try.prog 12 #[] w fun e w' => e = .returned (.bool true) ∧ Below w.heap.size w w' := by
  go_enter Try.func12, Try.ntmps12
  go_wp2_with fail
  refine (empty_env w).mono ?_
  rintro e w1 ⟨S1, g, rfl, E1⟩
  go_wp2_with fail
  refine (num_any 1 _).mono ?_
  rintro e w2 ⟨rfl, hb2⟩
  have E2 := (E1.new hb2).new (w' := w2.alloc (.cells #[.int .i64 2, .int .i64 1, .string ⟨#[]⟩] 44)) (by repeat (first | exact Below.refl _ _ | assumption | refine Below.setCell ?_ (by first | (simp; done) | (simp; omega) | omega) _ | refine below_drewN ?_ _ | refine Below.drew ?_ | refine Below.alloc ?_ (by first | (simp; done) | (simp; omega) | omega) _))
  clear E1 hb2
  go_wp2_with fail
  refine (push_env E2 _ 1 1 [numV 1] (one_rdV w2 (numV 1)) (by decide)).mono ?_
  rintro e w3 ⟨S3, rfl, E3, K3⟩
  clear E2 K3
  go_wp2_with fail
  refine (enter_env E3 9 (by decide)).mono ?_
  rintro e w4 ⟨S4, rfl, E4, K4⟩
  clear E3 K4
  go_wp2_with fail
  refine (num_any 2 _).mono ?_
  rintro e w5 ⟨rfl, hb5⟩
  have E5 := E4.new hb5
  clear E4 hb5
  go_wp2_with fail
  refine (num_any 3 _).mono ?_
  rintro e w6 ⟨rfl, hb6⟩
  have E6 := (E5.new hb6).new (w' := w6.alloc (.cells #[.int .i64 2, .int .i64 2, .string ⟨#[]⟩, .int .i64 2, .int .i64 3, .string ⟨#[]⟩] 44)) (by repeat (first | exact Below.refl _ _ | assumption | refine Below.setCell ?_ (by first | (simp; done) | (simp; omega) | omega) _ | refine below_drewN ?_ _ | refine Below.drew ?_ | refine Below.alloc ?_ (by first | (simp; done) | (simp; omega) | omega) _))
  clear E5 hb6
  go_wp2_with fail
  refine (push_env E6 _ 2 2 [numV 2, numV 3] (two_rdV w6 (numV 2) (numV 3)) (by decide)).mono ?_
  rintro e w7 ⟨S7, rfl, E7, K7⟩
  clear E6 K7
  go_wp2_with fail
  refine (num_any 4 _).mono ?_
  rintro e w8 ⟨rfl, hb8⟩
  have E8 := E7.new hb8
  clear E7 hb8
  go_wp2_with fail
  have hE : Calls Try.prog 23 #[.pointer (some ⟨g, 0, none⟩), (numV 4).v] w8 fun e w' => ∃ S', e = .returned (.bool true) ∧ Env w w' S' g { Fr.empty with values := [numV 1, numV 4], pc := 9, blocks := [] } ∧ Kept S7 w8 S' w' := handle_env E8 (numV 4) (by decide)
  refine hE.mono ?_
  rintro e w9 ⟨S9, rfl, E9, K9⟩
  clear E8 K9 hE
  obtain ⟨A, n, c, v8, hv, _⟩ := E9.values
  obtain ⟨A', n', c', v9, hk⟩ := E9.blocks
  have v1 := E9.pc
  obtain rfl : 0 = n' := hk.1
  have hg := E9.lt E9.gin
  have HB9 := Lib.hid E9.bel
  have hvR := hv
  simp only at v1 hvR
  clear E9 hk hv
  go_wp2_with fail
  go_region_held3 (fun w' => w'.cell? ⟨g, 8, none⟩ = some (.slice A n c) ∧ w'.cell? ⟨g, 1, none⟩ = some (.int .i64 9) ∧ w'.cell? ⟨g, 9, none⟩ = some (.slice A' 0 c'))
    (first | exact ⟨v8, v1, v9⟩ | exact HKA.out | exact HKB.out | exact HKC.out _ | go_keep)
    (first
      | (go_at_call_of 25 (Value.int IntKind.i64 1); refine (num_any 1 _).mono ?_; rintro e wa ⟨rfl, hba⟩; have HKA := Lib.hid (show wa.cell? ⟨g, 8, none⟩ = some (.slice A n c) ∧ wa.cell? ⟨g, 1, none⟩ = some (.int .i64 9) ∧ wa.cell? ⟨g, 9, none⟩ = some (.slice A' 0 c') from ⟨(hba.cell (p := ⟨g, 8, none⟩) hg).trans v8, (hba.cell (p := ⟨g, 1, none⟩) hg).trans v1, (hba.cell (p := ⟨g, 9, none⟩) hg).trans v9⟩); have HBA := Lib.hid hba; clear hba)
      | (go_at_call_of 25 (Value.int IntKind.i64 4); refine (num_any 4 _).mono ?_; rintro e wb ⟨rfl, hbb⟩; have hga : g < wa.heap.size := Nat.lt_of_lt_of_le hg HBA.out.size; have HKB := Lib.hid (show wb.cell? ⟨g, 8, none⟩ = some (.slice A n c) ∧ wb.cell? ⟨g, 1, none⟩ = some (.int .i64 9) ∧ wb.cell? ⟨g, 9, none⟩ = some (.slice A' 0 c') from ⟨(hbb.cell (p := ⟨g, 8, none⟩) hga).trans HKA.out.1, (hbb.cell (p := ⟨g, 1, none⟩) hga).trans HKA.out.2.1, (hbb.cell (p := ⟨g, 9, none⟩) hga).trans HKA.out.2.2⟩); have HBB := Lib.hid hbb; have hgb : g < wb.heap.size := Nat.lt_of_lt_of_le hga hbb.size; have HKC := Lib.hid (fun (o : Obj) => show (wb.alloc o).cell? ⟨g, 8, none⟩ = some (.slice A n c) ∧ (wb.alloc o).cell? ⟨g, 1, none⟩ = some (.int .i64 9) ∧ (wb.alloc o).cell? ⟨g, 9, none⟩ = some (.slice A' 0 c') from ⟨(World.cell?_alloc_lt wb o ⟨g, 8, none⟩ hgb).trans HKB.out.1, (World.cell?_alloc_lt wb o ⟨g, 1, none⟩ hgb).trans HKB.out.2.1, (World.cell?_alloc_lt wb o ⟨g, 9, none⟩ hgb).trans HKB.out.2.2⟩); clear hbb)
      | (go_at_call 24; refine (row_same A _ n 2 c 2 [numV 1, numV 4] [numV 1, numV 4] _ (by exact ((RdV.new (w := w9.drew) hvR HBA.out).new HBB.out).new (by repeat (first | exact Below.refl _ _ | assumption | refine Below.setCell ?_ (by first | (simp; done) | (simp; omega) | omega) _ | refine below_drewN ?_ _ | refine Below.drew ?_ | refine Below.alloc ?_ (by first | (simp; done) | (simp; omega) | omega) _))) (by exact two_rdV wb (numV 1) (numV 4))).mono ?_; rintro e wc ⟨rfl, q, rfl⟩; rw [rowSame_self]))
  all_goals
    go_wp2
    go_ret
    have z9 := HB9.out.size
    have za := HBA.out.size
    have zb := HBB.out.size
    have hA : Below w.heap.size w wa := Below.trans (b := w9.drew) HB9.out.drew (HBA.out.mono z9)
    have hB : Below w.heap.size w wb := hA.trans (HBB.out.mono (Nat.le_trans z9 za))
    exact ⟨rfl, below_drewN (hB.alloc (Nat.le_trans z9 (Nat.le_trans za zb)) _) _⟩
end Go.Proofs.Ythdkloojhenlkaa
