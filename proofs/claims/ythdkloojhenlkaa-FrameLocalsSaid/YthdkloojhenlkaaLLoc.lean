/- FrameLocals: the walk. -/
import Derived.Test.YthdkloojhenlkaaShown
namespace Go.Proofs.Ythdkloojhenlkaa
open Go.RowKit
attribute [local go_sem high] guardV eqV neqV
attribute [local go_sem] V.v

def vcells (x : V) : Array Value := #[.int .i64 x.k, .int .i64 x.n, .string x.s]

set_option maxRecDepth 100000 in
set_option maxHeartbeats 20000000 in
theorem locals_walk (iv k : Nat) (hiv : iv < 256) (hk : iv % 3 = k) (n : Int) (x y v0 : V) (b0 : Bool) (hk0 : ((k : Int) == 0) = b0)
    (hl0 : Fr.empty.load k = v0) (hv0 : b0 = true → v0 = numV 7) (hb0 : Fr.empty.isBound k = b0) (F1 F2 F3 F5 : Fr) (h1 : Fr.empty.stored k x = F1) (h1s : Fr.empty.has k = true) (h1l : F1.load k = x) (h1b : F1.isBound k = true)
    (h2 : F1.stored k y = F2) (h2s : F1.has k = true) (h2l : F2.load k = y) (h2b : F2.isBound k = true) (h3 : F2.cleared k = F3) (h3l : F3.load k = V.zero) (h3b : F3.isBound k = false) (h4 : F3.cleared k = F3)
    (h5 : F3.stored k x = F5) (h5s : F3.has k = true) (h5l : F5.load k = x) (h5b : F5.isBound k = true) (hf5j : ∀ j : Nat, j < 3 → ¬ j = k → F5.isBound j = decide (j = 0) ∧ (j = 0 → F5.load j = numV 7)) (hf5n : ¬ (0 ≤ n ∧ n < 3) → F5.has n = false ∧ F5.isBound n = false) (hf5l : F5.locals.length = 3) (w : World) :
    Calls Try.prog 8 #[.int .u8 iv, .int .i64 n, .agg #[.int .i64 x.k, .int .i64 x.n, .string x.s, .int .i64 y.k, .int .i64 y.n, .string y.s]] w fun e w' => e = .returned (.bool true) ∧ Below w.heap.size w w' := by
  have HL0 := Lib.hid hl0
  have HB0 := Lib.hid hb0
  have HV0 := Lib.hid hv0
  have H1 := Lib.hid h1
  have H1S := Lib.hid h1s
  have H1L := Lib.hid h1l
  have H1B := Lib.hid h1b
  have H2 := Lib.hid h2
  have H2S := Lib.hid h2s
  have H2L := Lib.hid h2l
  have H2B := Lib.hid h2b
  have H3 := Lib.hid h3
  have H3L := Lib.hid h3l
  have H3B := Lib.hid h3b
  have H4 := Lib.hid h4
  have H5 := Lib.hid h5
  have H5S := Lib.hid h5s
  have H5L := Lib.hid h5l
  have H5B := Lib.hid h5b
  have HF5J := Lib.hid hf5j
  have HF5N := Lib.hid hf5n
  have HF5L := Lib.hid hf5l
  clear hl0 hb0 hv0 h1 h1s h1l h1b h2 h2s h2l h2b h3 h3l h3b h4 h5 h5s h5l h5b hf5j hf5n hf5l
  go_enter Try.func8, Try.ntmps8
  go_wp2_with fail
  refine (shown_any _).mono ?_
  rintro e w1 ⟨rfl, hb1⟩
  have hz1 := hb1.size
  simp at hz1
  have Bx : Blk w1 w.heap.size 68 #[.int .i64 x.k, .int .i64 x.n, .string x.s, .int .i64 y.k, .int .i64 y.n, .string y.s] := (Blk.new w 68 _).below hb1 (by simp)
  have HB1 : Below w.heap.size w w1 := Below.trans (by exact (by repeat (first | exact Below.refl _ _ | assumption | refine Below.setCell ?_ (by first | (simp; done) | (simp; omega) | omega) _ | refine below_drewN ?_ _ | refine Below.drew ?_ | refine Below.alloc ?_ (by first | (simp; done) | (simp; omega) | omega) _))) (hb1.mono (by simp))
  have hz2 : w.heap.size ≤ w1.heap.size := by omega
  clear hb1
  go_wp2_with fail
  refine (empty_env _).mono ?_
  rintro e w2 ⟨S2, g, rfl, E2⟩
  have Nx : ¬ S2 w.heap.size := fun h => by have := E2.own _ h; omega
  have Bx := Bx.below E2.bel Bx.lt
  go_wp2_with fail
  rw [show ((iv : Int) % 3) = (k : Int) from by omega]
  refine (load_env E2 k).mono ?_
  rintro e w3 ⟨rfl, E3, hb3⟩
  rw [HL0.out, HB0.out]
  have Bx := Bx.below hb3 Bx.lt
  clear E2 hb3
  have hbn4 : Below w3.heap.size w3 (w3.alloc (.cells #[.int .i64 v0.k, .int .i64 v0.n, .string v0.s] 44)) := (by repeat (first | exact Below.refl _ _ | assumption | refine Below.setCell ?_ (by first | (simp; done) | (simp; omega) | omega) _ | refine below_drewN ?_ _ | refine Below.drew ?_ | refine Below.alloc ?_ (by first | (simp; done) | (simp; omega) | omega) _))
  have Ba := Blk.new w3 44 #[.int .i64 v0.k, .int .i64 v0.n, .string v0.s]
  have Na : ¬ S2 w3.heap.size := fun h => by have := E3.lt h; omega
  have Bx := Bx.below hbn4 Bx.lt
  have E4 := E3.new hbn4
  clear E3 hbn4
  have q0 : World.cell? (w3.alloc (.cells #[.int .i64 v0.k, .int .i64 v0.n, .string v0.s] 44)) ⟨w.heap.size, 0, none⟩ = _ := Bx.cell 0
  have q1 : World.cell? (w3.alloc (.cells #[.int .i64 v0.k, .int .i64 v0.n, .string v0.s] 44)) ⟨w.heap.size, 1, none⟩ = _ := Bx.cell 1
  have q2 : World.cell? (w3.alloc (.cells #[.int .i64 v0.k, .int .i64 v0.n, .string v0.s] 44)) ⟨w.heap.size, 2, none⟩ = _ := Bx.cell 2
  have q3 : World.cell? (w3.alloc (.cells #[.int .i64 v0.k, .int .i64 v0.n, .string v0.s] 44)) ⟨w.heap.size, 3, none⟩ = _ := Bx.cell 3
  have q4 : World.cell? (w3.alloc (.cells #[.int .i64 v0.k, .int .i64 v0.n, .string v0.s] 44)) ⟨w.heap.size, 4, none⟩ = _ := Bx.cell 4
  have q5 : World.cell? (w3.alloc (.cells #[.int .i64 v0.k, .int .i64 v0.n, .string v0.s] 44)) ⟨w.heap.size, 5, none⟩ = _ := Bx.cell 5
  go_wp2_with fail
  clear q0 q1 q2 q3 q4 q5
  refine (store_env E4 k x).mono ?_
  rintro e w5 ⟨S5, rfl, E5, K5⟩
  rw [H1S.out]
  rw [H1.out] at E5
  have Bx' := K5.blk Bx Nx
  have Nx := K5.out Bx.lt Nx
  have Bx := Bx'
  clear Bx'
  have Ba' := K5.blk Ba Na
  have Na := K5.out Ba.lt Na
  have Ba := Ba'
  clear Ba'
  clear E4 K5
  have q0 : World.cell? w5 ⟨w.heap.size, 0, none⟩ = _ := Bx.cell 0
  have q1 : World.cell? w5 ⟨w.heap.size, 1, none⟩ = _ := Bx.cell 1
  have q2 : World.cell? w5 ⟨w.heap.size, 2, none⟩ = _ := Bx.cell 2
  have q3 : World.cell? w5 ⟨w.heap.size, 3, none⟩ = _ := Bx.cell 3
  have q4 : World.cell? w5 ⟨w.heap.size, 4, none⟩ = _ := Bx.cell 4
  have q5 : World.cell? w5 ⟨w.heap.size, 5, none⟩ = _ := Bx.cell 5
  go_wp2_with fail
  clear q0 q1 q2 q3 q4 q5
  refine (load_env E5 k).mono ?_
  rintro e w6 ⟨rfl, E6, hb6⟩
  rw [H1L.out, H1B.out]
  have Bx := Bx.below hb6 Bx.lt
  have Ba := Ba.below hb6 Ba.lt
  clear E5 hb6
  have hbn7 : Below w6.heap.size w6 (w6.alloc (.cells #[.int .i64 x.k, .int .i64 x.n, .string x.s] 44)) := (by repeat (first | exact Below.refl _ _ | assumption | refine Below.setCell ?_ (by first | (simp; done) | (simp; omega) | omega) _ | refine below_drewN ?_ _ | refine Below.drew ?_ | refine Below.alloc ?_ (by first | (simp; done) | (simp; omega) | omega) _))
  have Bb := Blk.new w6 44 #[.int .i64 x.k, .int .i64 x.n, .string x.s]
  have Nb : ¬ S5 w6.heap.size := fun h => by have := E6.lt h; omega
  have Bx := Bx.below hbn7 Bx.lt
  have Ba := Ba.below hbn7 Ba.lt
  have E7 := E6.new hbn7
  clear E6 hbn7
  have q0 : World.cell? (w6.alloc (.cells #[.int .i64 x.k, .int .i64 x.n, .string x.s] 44)) ⟨w.heap.size, 0, none⟩ = _ := Bx.cell 0
  have q1 : World.cell? (w6.alloc (.cells #[.int .i64 x.k, .int .i64 x.n, .string x.s] 44)) ⟨w.heap.size, 1, none⟩ = _ := Bx.cell 1
  have q2 : World.cell? (w6.alloc (.cells #[.int .i64 x.k, .int .i64 x.n, .string x.s] 44)) ⟨w.heap.size, 2, none⟩ = _ := Bx.cell 2
  have q3 : World.cell? (w6.alloc (.cells #[.int .i64 x.k, .int .i64 x.n, .string x.s] 44)) ⟨w.heap.size, 3, none⟩ = _ := Bx.cell 3
  have q4 : World.cell? (w6.alloc (.cells #[.int .i64 x.k, .int .i64 x.n, .string x.s] 44)) ⟨w.heap.size, 4, none⟩ = _ := Bx.cell 4
  have q5 : World.cell? (w6.alloc (.cells #[.int .i64 x.k, .int .i64 x.n, .string x.s] 44)) ⟨w.heap.size, 5, none⟩ = _ := Bx.cell 5
  go_wp2_with fail
  clear q0 q1 q2 q3 q4 q5
  refine (store_env E7 k y).mono ?_
  rintro e w8 ⟨S8, rfl, E8, K8⟩
  rw [H2S.out]
  rw [H2.out] at E8
  have Bx' := K8.blk Bx Nx
  have Nx := K8.out Bx.lt Nx
  have Bx := Bx'
  clear Bx'
  have Ba' := K8.blk Ba Na
  have Na := K8.out Ba.lt Na
  have Ba := Ba'
  clear Ba'
  have Bb' := K8.blk Bb Nb
  have Nb := K8.out Bb.lt Nb
  have Bb := Bb'
  clear Bb'
  clear E7 K8
  have q0 : World.cell? w8 ⟨w.heap.size, 0, none⟩ = _ := Bx.cell 0
  have q1 : World.cell? w8 ⟨w.heap.size, 1, none⟩ = _ := Bx.cell 1
  have q2 : World.cell? w8 ⟨w.heap.size, 2, none⟩ = _ := Bx.cell 2
  have q3 : World.cell? w8 ⟨w.heap.size, 3, none⟩ = _ := Bx.cell 3
  have q4 : World.cell? w8 ⟨w.heap.size, 4, none⟩ = _ := Bx.cell 4
  have q5 : World.cell? w8 ⟨w.heap.size, 5, none⟩ = _ := Bx.cell 5
  go_wp2_with fail
  clear q0 q1 q2 q3 q4 q5
  refine (load_env E8 k).mono ?_
  rintro e w9 ⟨rfl, E9, hb9⟩
  rw [H2L.out, H2B.out]
  have Bx := Bx.below hb9 Bx.lt
  have Ba := Ba.below hb9 Ba.lt
  have Bb := Bb.below hb9 Bb.lt
  clear E8 hb9
  have hbn10 : Below w9.heap.size w9 (w9.alloc (.cells #[.int .i64 y.k, .int .i64 y.n, .string y.s] 44)) := (by repeat (first | exact Below.refl _ _ | assumption | refine Below.setCell ?_ (by first | (simp; done) | (simp; omega) | omega) _ | refine below_drewN ?_ _ | refine Below.drew ?_ | refine Below.alloc ?_ (by first | (simp; done) | (simp; omega) | omega) _))
  have Bc := Blk.new w9 44 #[.int .i64 y.k, .int .i64 y.n, .string y.s]
  have Nc : ¬ S8 w9.heap.size := fun h => by have := E9.lt h; omega
  have Bx := Bx.below hbn10 Bx.lt
  have Ba := Ba.below hbn10 Ba.lt
  have Bb := Bb.below hbn10 Bb.lt
  have E10 := E9.new hbn10
  clear E9 hbn10
  have q0 : World.cell? (w9.alloc (.cells #[.int .i64 y.k, .int .i64 y.n, .string y.s] 44)) ⟨w.heap.size, 0, none⟩ = _ := Bx.cell 0
  have q1 : World.cell? (w9.alloc (.cells #[.int .i64 y.k, .int .i64 y.n, .string y.s] 44)) ⟨w.heap.size, 1, none⟩ = _ := Bx.cell 1
  have q2 : World.cell? (w9.alloc (.cells #[.int .i64 y.k, .int .i64 y.n, .string y.s] 44)) ⟨w.heap.size, 2, none⟩ = _ := Bx.cell 2
  have q3 : World.cell? (w9.alloc (.cells #[.int .i64 y.k, .int .i64 y.n, .string y.s] 44)) ⟨w.heap.size, 3, none⟩ = _ := Bx.cell 3
  have q4 : World.cell? (w9.alloc (.cells #[.int .i64 y.k, .int .i64 y.n, .string y.s] 44)) ⟨w.heap.size, 4, none⟩ = _ := Bx.cell 4
  have q5 : World.cell? (w9.alloc (.cells #[.int .i64 y.k, .int .i64 y.n, .string y.s] 44)) ⟨w.heap.size, 5, none⟩ = _ := Bx.cell 5
  go_wp2_with fail
  clear q0 q1 q2 q3 q4 q5
  refine (clear_env E10 k).mono ?_
  rintro e w11 ⟨S11, rfl, E11, K11⟩
  rw [H2B.out]
  rw [H3.out] at E11
  have Bx' := K11.blk Bx Nx
  have Nx := K11.out Bx.lt Nx
  have Bx := Bx'
  clear Bx'
  have Ba' := K11.blk Ba Na
  have Na := K11.out Ba.lt Na
  have Ba := Ba'
  clear Ba'
  have Bb' := K11.blk Bb Nb
  have Nb := K11.out Bb.lt Nb
  have Bb := Bb'
  clear Bb'
  have Bc' := K11.blk Bc Nc
  have Nc := K11.out Bc.lt Nc
  have Bc := Bc'
  clear Bc'
  clear E10 K11
  have q0 : World.cell? w11 ⟨w.heap.size, 0, none⟩ = _ := Bx.cell 0
  have q1 : World.cell? w11 ⟨w.heap.size, 1, none⟩ = _ := Bx.cell 1
  have q2 : World.cell? w11 ⟨w.heap.size, 2, none⟩ = _ := Bx.cell 2
  have q3 : World.cell? w11 ⟨w.heap.size, 3, none⟩ = _ := Bx.cell 3
  have q4 : World.cell? w11 ⟨w.heap.size, 4, none⟩ = _ := Bx.cell 4
  have q5 : World.cell? w11 ⟨w.heap.size, 5, none⟩ = _ := Bx.cell 5
  go_wp2_with fail
  clear q0 q1 q2 q3 q4 q5
  refine (load_env E11 k).mono ?_
  rintro e w12 ⟨rfl, E12, hb12⟩
  rw [H3L.out, H3B.out]
  have Bx := Bx.below hb12 Bx.lt
  have Ba := Ba.below hb12 Ba.lt
  have Bb := Bb.below hb12 Bb.lt
  have Bc := Bc.below hb12 Bc.lt
  clear E11 hb12
  have hbn13 : Below w12.heap.size w12 (w12.alloc (.cells #[.int .i64 V.zero.k, .int .i64 V.zero.n, .string V.zero.s] 44)) := (by repeat (first | exact Below.refl _ _ | assumption | refine Below.setCell ?_ (by first | (simp; done) | (simp; omega) | omega) _ | refine below_drewN ?_ _ | refine Below.drew ?_ | refine Below.alloc ?_ (by first | (simp; done) | (simp; omega) | omega) _))
  have Bd := Blk.new w12 44 #[.int .i64 V.zero.k, .int .i64 V.zero.n, .string V.zero.s]
  have Nd : ¬ S11 w12.heap.size := fun h => by have := E12.lt h; omega
  have Bx := Bx.below hbn13 Bx.lt
  have Ba := Ba.below hbn13 Ba.lt
  have Bb := Bb.below hbn13 Bb.lt
  have Bc := Bc.below hbn13 Bc.lt
  have E13 := E12.new hbn13
  clear E12 hbn13
  have q0 : World.cell? (w12.alloc (.cells #[.int .i64 V.zero.k, .int .i64 V.zero.n, .string V.zero.s] 44)) ⟨w.heap.size, 0, none⟩ = _ := Bx.cell 0
  have q1 : World.cell? (w12.alloc (.cells #[.int .i64 V.zero.k, .int .i64 V.zero.n, .string V.zero.s] 44)) ⟨w.heap.size, 1, none⟩ = _ := Bx.cell 1
  have q2 : World.cell? (w12.alloc (.cells #[.int .i64 V.zero.k, .int .i64 V.zero.n, .string V.zero.s] 44)) ⟨w.heap.size, 2, none⟩ = _ := Bx.cell 2
  have q3 : World.cell? (w12.alloc (.cells #[.int .i64 V.zero.k, .int .i64 V.zero.n, .string V.zero.s] 44)) ⟨w.heap.size, 3, none⟩ = _ := Bx.cell 3
  have q4 : World.cell? (w12.alloc (.cells #[.int .i64 V.zero.k, .int .i64 V.zero.n, .string V.zero.s] 44)) ⟨w.heap.size, 4, none⟩ = _ := Bx.cell 4
  have q5 : World.cell? (w12.alloc (.cells #[.int .i64 V.zero.k, .int .i64 V.zero.n, .string V.zero.s] 44)) ⟨w.heap.size, 5, none⟩ = _ := Bx.cell 5
  go_wp2_with fail
  clear q0 q1 q2 q3 q4 q5
  refine (clear_env E13 k).mono ?_
  rintro e w14 ⟨S14, rfl, E14, K14⟩
  rw [H3B.out]
  rw [H4.out] at E14
  have Bx' := K14.blk Bx Nx
  have Nx := K14.out Bx.lt Nx
  have Bx := Bx'
  clear Bx'
  have Ba' := K14.blk Ba Na
  have Na := K14.out Ba.lt Na
  have Ba := Ba'
  clear Ba'
  have Bb' := K14.blk Bb Nb
  have Nb := K14.out Bb.lt Nb
  have Bb := Bb'
  clear Bb'
  have Bc' := K14.blk Bc Nc
  have Nc := K14.out Bc.lt Nc
  have Bc := Bc'
  clear Bc'
  have Bd' := K14.blk Bd Nd
  have Nd := K14.out Bd.lt Nd
  have Bd := Bd'
  clear Bd'
  clear E13 K14
  have q0 : World.cell? w14 ⟨w.heap.size, 0, none⟩ = _ := Bx.cell 0
  have q1 : World.cell? w14 ⟨w.heap.size, 1, none⟩ = _ := Bx.cell 1
  have q2 : World.cell? w14 ⟨w.heap.size, 2, none⟩ = _ := Bx.cell 2
  have q3 : World.cell? w14 ⟨w.heap.size, 3, none⟩ = _ := Bx.cell 3
  have q4 : World.cell? w14 ⟨w.heap.size, 4, none⟩ = _ := Bx.cell 4
  have q5 : World.cell? w14 ⟨w.heap.size, 5, none⟩ = _ := Bx.cell 5
  go_wp2_with fail
  clear q0 q1 q2 q3 q4 q5
  refine (store_env E14 k x).mono ?_
  rintro e w15 ⟨S15, rfl, E15, K15⟩
  rw [H5S.out]
  rw [H5.out] at E15
  have Bx' := K15.blk Bx Nx
  have Nx := K15.out Bx.lt Nx
  have Bx := Bx'
  clear Bx'
  have Ba' := K15.blk Ba Na
  have Na := K15.out Ba.lt Na
  have Ba := Ba'
  clear Ba'
  have Bb' := K15.blk Bb Nb
  have Nb := K15.out Bb.lt Nb
  have Bb := Bb'
  clear Bb'
  have Bc' := K15.blk Bc Nc
  have Nc := K15.out Bc.lt Nc
  have Bc := Bc'
  clear Bc'
  have Bd' := K15.blk Bd Nd
  have Nd := K15.out Bd.lt Nd
  have Bd := Bd'
  clear Bd'
  clear E14 K15
  have q0 : World.cell? w15 ⟨w.heap.size, 0, none⟩ = _ := Bx.cell 0
  have q1 : World.cell? w15 ⟨w.heap.size, 1, none⟩ = _ := Bx.cell 1
  have q2 : World.cell? w15 ⟨w.heap.size, 2, none⟩ = _ := Bx.cell 2
  have q3 : World.cell? w15 ⟨w.heap.size, 3, none⟩ = _ := Bx.cell 3
  have q4 : World.cell? w15 ⟨w.heap.size, 4, none⟩ = _ := Bx.cell 4
  have q5 : World.cell? w15 ⟨w.heap.size, 5, none⟩ = _ := Bx.cell 5
  go_wp2_with fail
  clear q0 q1 q2 q3 q4 q5
  refine (load_env E15 k).mono ?_
  rintro e w16 ⟨rfl, E16, hb16⟩
  rw [H5L.out, H5B.out]
  have Bx := Bx.below hb16 Bx.lt
  have Ba := Ba.below hb16 Ba.lt
  have Bb := Bb.below hb16 Bb.lt
  have Bc := Bc.below hb16 Bc.lt
  have Bd := Bd.below hb16 Bd.lt
  clear E15 hb16
  have hbn17 : Below w16.heap.size w16 (w16.alloc (.cells #[.int .i64 x.k, .int .i64 x.n, .string x.s] 44)) := (by repeat (first | exact Below.refl _ _ | assumption | refine Below.setCell ?_ (by first | (simp; done) | (simp; omega) | omega) _ | refine below_drewN ?_ _ | refine Below.drew ?_ | refine Below.alloc ?_ (by first | (simp; done) | (simp; omega) | omega) _))
  have Be := Blk.new w16 44 #[.int .i64 x.k, .int .i64 x.n, .string x.s]
  have Ne : ¬ S15 w16.heap.size := fun h => by have := E16.lt h; omega
  have Bx := Bx.below hbn17 Bx.lt
  have Ba := Ba.below hbn17 Ba.lt
  have Bb := Bb.below hbn17 Bb.lt
  have Bc := Bc.below hbn17 Bc.lt
  have Bd := Bd.below hbn17 Bd.lt
  have E17 := E16.new hbn17
  clear E16 hbn17
  have q0 : World.cell? (w16.alloc (.cells #[.int .i64 x.k, .int .i64 x.n, .string x.s] 44)) ⟨w.heap.size, 0, none⟩ = _ := Bx.cell 0
  have q1 : World.cell? (w16.alloc (.cells #[.int .i64 x.k, .int .i64 x.n, .string x.s] 44)) ⟨w.heap.size, 1, none⟩ = _ := Bx.cell 1
  have q2 : World.cell? (w16.alloc (.cells #[.int .i64 x.k, .int .i64 x.n, .string x.s] 44)) ⟨w.heap.size, 2, none⟩ = _ := Bx.cell 2
  have q3 : World.cell? (w16.alloc (.cells #[.int .i64 x.k, .int .i64 x.n, .string x.s] 44)) ⟨w.heap.size, 3, none⟩ = _ := Bx.cell 3
  have q4 : World.cell? (w16.alloc (.cells #[.int .i64 x.k, .int .i64 x.n, .string x.s] 44)) ⟨w.heap.size, 4, none⟩ = _ := Bx.cell 4
  have q5 : World.cell? (w16.alloc (.cells #[.int .i64 x.k, .int .i64 x.n, .string x.s] 44)) ⟨w.heap.size, 5, none⟩ = _ := Bx.cell 5
  go_wp2_with fail
  clear q0 q1 q2 q3 q4 q5
  have ca0 : World.cell? (w16.alloc (.cells #[.int .i64 x.k, .int .i64 x.n, .string x.s] 44)) ⟨w3.heap.size, 0, none⟩ = some (.int .i64 v0.k) := Ba.cell 0
  have ca1 : World.cell? (w16.alloc (.cells #[.int .i64 x.k, .int .i64 x.n, .string x.s] 44)) ⟨w3.heap.size, 1, none⟩ = some (.int .i64 v0.n) := Ba.cell 1
  have ca2 : World.cell? (w16.alloc (.cells #[.int .i64 x.k, .int .i64 x.n, .string x.s] 44)) ⟨w3.heap.size, 2, none⟩ = some (.string v0.s) := Ba.cell 2
  have cb0 : World.cell? (w16.alloc (.cells #[.int .i64 x.k, .int .i64 x.n, .string x.s] 44)) ⟨w6.heap.size, 0, none⟩ = some (.int .i64 x.k) := Bb.cell 0
  have cb1 : World.cell? (w16.alloc (.cells #[.int .i64 x.k, .int .i64 x.n, .string x.s] 44)) ⟨w6.heap.size, 1, none⟩ = some (.int .i64 x.n) := Bb.cell 1
  have cb2 : World.cell? (w16.alloc (.cells #[.int .i64 x.k, .int .i64 x.n, .string x.s] 44)) ⟨w6.heap.size, 2, none⟩ = some (.string x.s) := Bb.cell 2
  have cc0 : World.cell? (w16.alloc (.cells #[.int .i64 x.k, .int .i64 x.n, .string x.s] 44)) ⟨w9.heap.size, 0, none⟩ = some (.int .i64 y.k) := Bc.cell 0
  have cc1 : World.cell? (w16.alloc (.cells #[.int .i64 x.k, .int .i64 x.n, .string x.s] 44)) ⟨w9.heap.size, 1, none⟩ = some (.int .i64 y.n) := Bc.cell 1
  have cc2 : World.cell? (w16.alloc (.cells #[.int .i64 x.k, .int .i64 x.n, .string x.s] 44)) ⟨w9.heap.size, 2, none⟩ = some (.string y.s) := Bc.cell 2
  have cd0 : World.cell? (w16.alloc (.cells #[.int .i64 x.k, .int .i64 x.n, .string x.s] 44)) ⟨w12.heap.size, 0, none⟩ = some (.int .i64 V.zero.k) := Bd.cell 0
  have cd1 : World.cell? (w16.alloc (.cells #[.int .i64 x.k, .int .i64 x.n, .string x.s] 44)) ⟨w12.heap.size, 1, none⟩ = some (.int .i64 V.zero.n) := Bd.cell 1
  have cd2 : World.cell? (w16.alloc (.cells #[.int .i64 x.k, .int .i64 x.n, .string x.s] 44)) ⟨w12.heap.size, 2, none⟩ = some (.string V.zero.s) := Bd.cell 2
  have ce0 : World.cell? (w16.alloc (.cells #[.int .i64 x.k, .int .i64 x.n, .string x.s] 44)) ⟨w16.heap.size, 0, none⟩ = some (.int .i64 x.k) := Be.cell 0
  have ce1 : World.cell? (w16.alloc (.cells #[.int .i64 x.k, .int .i64 x.n, .string x.s] 44)) ⟨w16.heap.size, 1, none⟩ = some (.int .i64 x.n) := Be.cell 1
  have ce2 : World.cell? (w16.alloc (.cells #[.int .i64 x.k, .int .i64 x.n, .string x.s] 44)) ⟨w16.heap.size, 2, none⟩ = some (.string x.s) := Be.cell 2
  have q0 : World.cell? (w16.alloc (.cells #[.int .i64 x.k, .int .i64 x.n, .string x.s] 44)) ⟨w.heap.size, 0, none⟩ = _ := Bx.cell 0
  have q1 : World.cell? (w16.alloc (.cells #[.int .i64 x.k, .int .i64 x.n, .string x.s] 44)) ⟨w.heap.size, 1, none⟩ = _ := Bx.cell 1
  have q2 : World.cell? (w16.alloc (.cells #[.int .i64 x.k, .int .i64 x.n, .string x.s] 44)) ⟨w.heap.size, 2, none⟩ = _ := Bx.cell 2
  have q3 : World.cell? (w16.alloc (.cells #[.int .i64 x.k, .int .i64 x.n, .string x.s] 44)) ⟨w.heap.size, 3, none⟩ = _ := Bx.cell 3
  have q4 : World.cell? (w16.alloc (.cells #[.int .i64 x.k, .int .i64 x.n, .string x.s] 44)) ⟨w.heap.size, 4, none⟩ = _ := Bx.cell 4
  have q5 : World.cell? (w16.alloc (.cells #[.int .i64 x.k, .int .i64 x.n, .string x.s] 44)) ⟨w.heap.size, 5, none⟩ = _ := Bx.cell 5
  generalize hWW : (w16.alloc (.cells #[.int .i64 x.k, .int .i64 x.n, .string x.s] 44)) = W at *
  clear hWW
  have sxx : V.same x x = true := V.same_iff.2 rfl
  have syy : V.same y y = true := V.same_iff.2 rfl
  have szz : V.same V.zero V.zero = true := V.same_iff.2 rfl
  have s77 : V.same (numV 7) (numV 7) = true := V.same_iff.2 rfl
  go_cut [160] (fun s160 wx => s160 = .bool false ∧ Below W.heap.size W wx)
  case first =>
    clear E17
    have la := Ba.lt
    have lb := Bb.lt
    have lc := Bc.lt
    have ld := Bd.lt
    have le := Be.lt
    have lx := Bx.lt
    clear Ba Bb Bc Bd Be Bx
    cases b0
    · as_aux_lemma =>
      go_quiet (fail)
      go_wp2_with fail
      go_meet
      exact ⟨by first | rfl | simp [V.zero, V.same], (by repeat (first | exact Below.refl _ _ | assumption | refine Below.setCell ?_ (by first | (simp; done) | (simp; omega) | omega) _ | refine below_drewN ?_ _ | refine Below.drew ?_ | refine Below.alloc ?_ (by first | (simp; done) | (simp; omega) | omega) _))⟩
    · as_aux_lemma =>
      obtain rfl : numV 7 = v0 := (HV0.out rfl).symm
      simp only [List.append]
      go_region_held3 (fun w' => w'.cell? ⟨w.heap.size, 0, none⟩ = some (.int .i64 x.k) ∧ w'.cell? ⟨w.heap.size, 1, none⟩ = some (.int .i64 x.n) ∧ w'.cell? ⟨w.heap.size, 2, none⟩ = some (.string x.s) ∧ w'.cell? ⟨w.heap.size, 3, none⟩ = some (.int .i64 y.k) ∧ w'.cell? ⟨w.heap.size, 4, none⟩ = some (.int .i64 y.n) ∧ w'.cell? ⟨w.heap.size, 5, none⟩ = some (.string y.s) ∧ w'.cell? ⟨w3.heap.size, 0, none⟩ = some (.int .i64 (numV 7).k) ∧ w'.cell? ⟨w3.heap.size, 1, none⟩ = some (.int .i64 (numV 7).n) ∧ w'.cell? ⟨w3.heap.size, 2, none⟩ = some (.string (numV 7).s) ∧ w'.cell? ⟨w6.heap.size, 0, none⟩ = some (.int .i64 x.k) ∧ w'.cell? ⟨w6.heap.size, 1, none⟩ = some (.int .i64 x.n) ∧ w'.cell? ⟨w6.heap.size, 2, none⟩ = some (.string x.s) ∧ w'.cell? ⟨w9.heap.size, 0, none⟩ = some (.int .i64 y.k) ∧ w'.cell? ⟨w9.heap.size, 1, none⟩ = some (.int .i64 y.n) ∧ w'.cell? ⟨w9.heap.size, 2, none⟩ = some (.string y.s) ∧ w'.cell? ⟨w12.heap.size, 0, none⟩ = some (.int .i64 V.zero.k) ∧ w'.cell? ⟨w12.heap.size, 1, none⟩ = some (.int .i64 V.zero.n) ∧ w'.cell? ⟨w12.heap.size, 2, none⟩ = some (.string V.zero.s) ∧ w'.cell? ⟨w16.heap.size, 0, none⟩ = some (.int .i64 x.k) ∧ w'.cell? ⟨w16.heap.size, 1, none⟩ = some (.int .i64 x.n) ∧ w'.cell? ⟨w16.heap.size, 2, none⟩ = some (.string x.s)) (first | exact ⟨q0, q1, q2, q3, q4, q5, ca0, ca1, ca2, cb0, cb1, cb2, cc0, cc1, cc2, cd0, cd1, cd2, ce0, ce1, ce2⟩ | exact HKA.out | go_keep)
        ((go_at_call 25; refine (num_any 7 _).mono ?_; rintro e wa ⟨rfl, hba⟩; have HKA := Lib.hid (show wa.cell? ⟨w.heap.size, 0, none⟩ = some (.int .i64 x.k) ∧ wa.cell? ⟨w.heap.size, 1, none⟩ = some (.int .i64 x.n) ∧ wa.cell? ⟨w.heap.size, 2, none⟩ = some (.string x.s) ∧ wa.cell? ⟨w.heap.size, 3, none⟩ = some (.int .i64 y.k) ∧ wa.cell? ⟨w.heap.size, 4, none⟩ = some (.int .i64 y.n) ∧ wa.cell? ⟨w.heap.size, 5, none⟩ = some (.string y.s) ∧ wa.cell? ⟨w3.heap.size, 0, none⟩ = some (.int .i64 (numV 7).k) ∧ wa.cell? ⟨w3.heap.size, 1, none⟩ = some (.int .i64 (numV 7).n) ∧ wa.cell? ⟨w3.heap.size, 2, none⟩ = some (.string (numV 7).s) ∧ wa.cell? ⟨w6.heap.size, 0, none⟩ = some (.int .i64 x.k) ∧ wa.cell? ⟨w6.heap.size, 1, none⟩ = some (.int .i64 x.n) ∧ wa.cell? ⟨w6.heap.size, 2, none⟩ = some (.string x.s) ∧ wa.cell? ⟨w9.heap.size, 0, none⟩ = some (.int .i64 y.k) ∧ wa.cell? ⟨w9.heap.size, 1, none⟩ = some (.int .i64 y.n) ∧ wa.cell? ⟨w9.heap.size, 2, none⟩ = some (.string y.s) ∧ wa.cell? ⟨w12.heap.size, 0, none⟩ = some (.int .i64 V.zero.k) ∧ wa.cell? ⟨w12.heap.size, 1, none⟩ = some (.int .i64 V.zero.n) ∧ wa.cell? ⟨w12.heap.size, 2, none⟩ = some (.string V.zero.s) ∧ wa.cell? ⟨w16.heap.size, 0, none⟩ = some (.int .i64 x.k) ∧ wa.cell? ⟨w16.heap.size, 1, none⟩ = some (.int .i64 x.n) ∧ wa.cell? ⟨w16.heap.size, 2, none⟩ = some (.string x.s) from ⟨(hba.cell (p := ⟨w.heap.size, 0, none⟩) lx).trans q0, (hba.cell (p := ⟨w.heap.size, 1, none⟩) lx).trans q1, (hba.cell (p := ⟨w.heap.size, 2, none⟩) lx).trans q2, (hba.cell (p := ⟨w.heap.size, 3, none⟩) lx).trans q3, (hba.cell (p := ⟨w.heap.size, 4, none⟩) lx).trans q4, (hba.cell (p := ⟨w.heap.size, 5, none⟩) lx).trans q5, (hba.cell (p := ⟨w3.heap.size, 0, none⟩) la).trans ca0, (hba.cell (p := ⟨w3.heap.size, 1, none⟩) la).trans ca1, (hba.cell (p := ⟨w3.heap.size, 2, none⟩) la).trans ca2, (hba.cell (p := ⟨w6.heap.size, 0, none⟩) lb).trans cb0, (hba.cell (p := ⟨w6.heap.size, 1, none⟩) lb).trans cb1, (hba.cell (p := ⟨w6.heap.size, 2, none⟩) lb).trans cb2, (hba.cell (p := ⟨w9.heap.size, 0, none⟩) lc).trans cc0, (hba.cell (p := ⟨w9.heap.size, 1, none⟩) lc).trans cc1, (hba.cell (p := ⟨w9.heap.size, 2, none⟩) lc).trans cc2, (hba.cell (p := ⟨w12.heap.size, 0, none⟩) ld).trans cd0, (hba.cell (p := ⟨w12.heap.size, 1, none⟩) ld).trans cd1, (hba.cell (p := ⟨w12.heap.size, 2, none⟩) ld).trans cd2, (hba.cell (p := ⟨w16.heap.size, 0, none⟩) le).trans ce0, (hba.cell (p := ⟨w16.heap.size, 1, none⟩) le).trans ce1, (hba.cell (p := ⟨w16.heap.size, 2, none⟩) le).trans ce2⟩); have HBA := Lib.hid hba; clear hba))
      all_goals
        go_wp2_with fail
        go_meet
        exact ⟨by first | rfl | simp [numV, V.zero, V.same], Below.trans (b := W.drew) (by repeat (first | exact Below.refl _ _ | assumption | refine Below.setCell ?_ (by first | (simp; done) | (simp; omega) | omega) _ | refine below_drewN ?_ _ | refine Below.drew ?_ | refine Below.alloc ?_ (by first | (simp; done) | (simp; omega) | omega) _)) HBA.out⟩
  case rest =>
    as_aux_lemma =>
    obtain ⟨rfl, hbc⟩ := hcut
    have E := E17.new hbc
    have BX := Bx.below hbc Bx.lt
    clear E17 hbc Ba Bb Bc Bd Be Bx q0 q1 q2 q3 q4 q5 ca0 ca1 ca2 cb0 cb1 cb2 cc0 cc1 cc2 cd0 cd1 cd2 ce0 ce1 ce2 sxx syy szz
    go_wp2
    go_loopw [25] (fun i wr => ∃ j : Nat, j ≤ 3 ∧ i = .int .i64 j ∧ Env w1 wr S15 g F5 ∧ Blk wr w.heap.size 68 #[.int .i64 x.k, .int .i64 x.n, .string x.s, .int .i64 y.k, .int .i64 y.n, .string y.s]) (fun i _ => 3 - (intOf i).toNat)
    case atStart => exact ⟨0, by omega, rfl, E, BX⟩
    case round =>
      clear E BX
      obtain ⟨j, hj, rfl, E, BX⟩ := hrel
      by_cases hlt : j < 3
      · have hlt' : (j : Int) < 3 := by omega
        go_wp2_with fail
        refine (load_env E j).mono ?_
        rintro e wv ⟨rfl, Ev, hbv⟩
        have BXv := BX.below hbv BX.lt
        clear E BX hbv
        by_cases hjk : j = k
        · have hbn : ((j : Int) != (k : Int)) = false := by rw [bne_eq_false_iff_eq]; omega
          have hHk := Lib.hid hjk
          clear hjk
          generalize F5.load j = lv at *
          generalize F5.isBound j = lb at *
          have En := Ev.new (w' := wv.alloc (.cells #[.int .i64 lv.k, .int .i64 lv.n, .string lv.s] 44)) (by repeat (first | exact Below.refl _ _ | assumption | refine Below.setCell ?_ (by first | (simp; done) | (simp; omega) | omega) _ | refine below_drewN ?_ _ | refine Below.drew ?_ | refine Below.alloc ?_ (by first | (simp; done) | (simp; omega) | omega) _))
          have BXn := BXv.alloc (.cells #[.int .i64 lv.k, .int .i64 lv.n, .string lv.s] 44)
          clear Ev BXv
          go_wp2_with fail
          go_quiet (fail)
          go_wp2
          go_roundw
          case rel => exact ⟨j + 1, by omega, by go_num, En.new (by repeat (first | exact Below.refl _ _ | assumption | refine Below.setCell ?_ (by first | (simp; done) | (simp; omega) | omega) _ | refine below_drewN ?_ _ | refine Below.drew ?_ | refine Below.alloc ?_ (by first | (simp; done) | (simp; omega) | omega) _)), BXn⟩
          case measure => simp [intOf]; omega
        · have hbn : ((j : Int) != (k : Int)) = true := by rw [bne_iff_ne]; omega
          obtain ⟨fb, fl⟩ := HF5J.out j hlt hjk
          rw [fb]
          by_cases hj0 : j = 0
          · rw [fl hj0]
            have hHk := Lib.hid hjk
            have hHf := Lib.hid fb
            have hHg := Lib.hid fl
            have hd : decide (j = 0) = true := by simp [hj0]
            rw [hd]
            clear hjk fb fl hd
            subst hj0
            have hbn0 : ((0 : Int) != (k : Int)) = true := hbn
            clear hbn
            have En := Ev.new (w' := wv.alloc (.cells #[.int .i64 (numV 7).k, .int .i64 (numV 7).n, .string (numV 7).s] 44)) (by repeat (first | exact Below.refl _ _ | assumption | refine Below.setCell ?_ (by first | (simp; done) | (simp; omega) | omega) _ | refine below_drewN ?_ _ | refine Below.drew ?_ | refine Below.alloc ?_ (by first | (simp; done) | (simp; omega) | omega) _))
            have BXn := BXv.alloc (.cells #[.int .i64 (numV 7).k, .int .i64 (numV 7).n, .string (numV 7).s] 44)
            have BV := Blk.new wv 44 #[.int .i64 (numV 7).k, .int .i64 (numV 7).n, .string (numV 7).s]
            clear Ev BXv
            go_wp2_with fail
            have z0 := BV.cell 0
            have z1 := BV.cell 1
            have z2 := BV.cell 2
            have zl := BV.lt
            generalize hWv : wv.alloc (.cells #[.int .i64 (numV 7).k, .int .i64 (numV 7).n, .string (numV 7).s] 44) = Wv at *
            clear hWv BV
            go_cut [187] (fun s187 wx => s187 = .bool false ∧ Below Wv.heap.size Wv wx)
            case first =>
              go_region_held3 (fun w' => w'.cell? ⟨wv.heap.size, 0, none⟩ = some (.int .i64 (numV 7).k) ∧ w'.cell? ⟨wv.heap.size, 1, none⟩ = some (.int .i64 (numV 7).n) ∧ w'.cell? ⟨wv.heap.size, 2, none⟩ = some (.string (numV 7).s)) (first | exact ⟨z0, z1, z2⟩ | exact HKA.out | go_keep)
                ((go_at_call 25; refine (num_any 7 _).mono ?_; rintro e wa ⟨rfl, hba⟩; have HKA := Lib.hid (show wa.cell? ⟨wv.heap.size, 0, none⟩ = some (.int .i64 (numV 7).k) ∧ wa.cell? ⟨wv.heap.size, 1, none⟩ = some (.int .i64 (numV 7).n) ∧ wa.cell? ⟨wv.heap.size, 2, none⟩ = some (.string (numV 7).s) from ⟨(hba.cell (p := ⟨wv.heap.size, 0, none⟩) zl).trans z0, (hba.cell (p := ⟨wv.heap.size, 1, none⟩) zl).trans z1, (hba.cell (p := ⟨wv.heap.size, 2, none⟩) zl).trans z2⟩); have HBA := Lib.hid hba; clear hba))
              all_goals
                go_wp2_with fail
                go_meet
                exact ⟨rfl, Below.trans (b := Wv.drew) (by repeat (first | exact Below.refl _ _ | assumption | refine Below.setCell ?_ (by first | (simp; done) | (simp; omega) | omega) _ | refine below_drewN ?_ _ | refine Below.drew ?_ | refine Below.alloc ?_ (by first | (simp; done) | (simp; omega) | omega) _)) HBA.out⟩
            case rest =>
              obtain ⟨rfl, hbw⟩ := hcut
              go_wp2
              go_roundw
              case rel => exact ⟨1, by omega, by first | rfl | go_num, En.new hbw, BXn.below hbw BXn.lt⟩
              case measure => simp [intOf]
          · have hd : decide (j = 0) = false := by simp [hj0]
            have hd2 : ((j : Int) == 0) = false := by rw [beq_eq_false_iff_ne]; omega
            rw [hd]
            have hHk := Lib.hid hjk
            clear hjk fb fl hd hj0
            generalize F5.load j = lv at *
            have En := Ev.new (w' := wv.alloc (.cells #[.int .i64 lv.k, .int .i64 lv.n, .string lv.s] 44)) (by repeat (first | exact Below.refl _ _ | assumption | refine Below.setCell ?_ (by first | (simp; done) | (simp; omega) | omega) _ | refine below_drewN ?_ _ | refine Below.drew ?_ | refine Below.alloc ?_ (by first | (simp; done) | (simp; omega) | omega) _))
            have BXn := BXv.alloc (.cells #[.int .i64 lv.k, .int .i64 lv.n, .string lv.s] 44)
            clear Ev BXv
            go_wp2_with fail
            go_quiet (fail)
            go_wp2
            go_roundw
            case rel => exact ⟨j + 1, by omega, by go_num, En.new (by repeat (first | exact Below.refl _ _ | assumption | refine Below.setCell ?_ (by first | (simp; done) | (simp; omega) | omega) _ | refine below_drewN ?_ _ | refine Below.drew ?_ | refine Below.alloc ?_ (by first | (simp; done) | (simp; omega) | omega) _)), BXn⟩
            case measure => simp [intOf]; omega
      · obtain rfl : j = 3 := by omega
        by_cases hn0 : 0 ≤ n ∧ n < 3
        · obtain ⟨hn1, hn2⟩ := hn0
          have hd : decide (0 ≤ n) = true := by simpa using hn1
          go_wp2
          go_ret
          exact ⟨rfl, HB1.trans (E.bel.mono hz2)⟩
        · obtain ⟨fh, fb⟩ := HF5N.out hn0
          have H5H := Lib.hid fh
          have H5N := Lib.hid fb
          clear fh fb
          have hl := HF5L.out
          obtain ⟨A, nl, c, _, hr, _⟩ := E.locals
          obtain rfl : F5.locals.length = nl := hr.1
          have es : F5.stored n x = F5 := by simp [Fr.stored, H5H.out]
          have ec : F5.cleared n = F5 := by simp [Fr.cleared, H5N.out]
          have HES := Lib.hid es
          have HEC := Lib.hid ec
          clear es ec hr hl
          by_cases hn1 : 0 ≤ n
          all_goals
            first
              | (have hd : decide (0 ≤ n) = false := by simpa using hn1)
              | (have hd : ¬ n < 3 := fun h => hn0 ⟨hn1, h⟩)
            go_wp2_with fail
            refine (load_env E n).mono ?_
            rintro e wv ⟨rfl, Ev, hbv⟩
            have BXv := BX.below hbv BX.lt
            clear E BX hbv
            rw [H5N.out]
            generalize F5.load n = lv at *
            have En := Ev.new (w' := wv.alloc (.cells #[.int .i64 lv.k, .int .i64 lv.n, .string lv.s] 44)) (by repeat (first | exact Below.refl _ _ | assumption | refine Below.setCell ?_ (by first | (simp; done) | (simp; omega) | omega) _ | refine below_drewN ?_ _ | refine Below.drew ?_ | refine Below.alloc ?_ (by first | (simp; done) | (simp; omega) | omega) _))
            have BXn := BXv.alloc (.cells #[.int .i64 lv.k, .int .i64 lv.n, .string lv.s] 44)
            have NX : ¬ S15 w.heap.size := fun h => by have := En.own _ h; omega
            clear Ev BXv
            have q0 := BXn.cell 0
            have q1 := BXn.cell 1
            have q2 := BXn.cell 2
            go_wp2_with fail
            refine (store_env En n x).mono ?_
            rintro e wq ⟨Sq, rfl, Eq, Kq⟩
            rw [H5H.out]
            rw [HES.out] at Eq
            clear En Kq q0 q1 q2 BXn
            go_wp2_with fail
            refine (clear_env Eq n).mono ?_
            rintro e wp ⟨Sp, rfl, Ep, Kp⟩
            rw [H5N.out]
            rw [HEC.out] at Ep
            clear Eq Kp
            obtain ⟨A1, n1, c1, hc1, hr1, _⟩ := Ep.locals
            obtain rfl : 3 = n1 := by rw [← hr1.1]; exact HF5L.out.symm
            have HEp := Lib.hid Ep
            clear Ep hr1
            go_wp2
            go_ret
            exact ⟨rfl, HB1.trans (HEp.out.bel.mono hz2)⟩
end Go.Proofs.Ythdkloojhenlkaa
