/- The reference's Del and Clone. -/
import Derived.Test.YtfdihmbmlhlkgaaRpn
import Derived.IntWalk
namespace Go.Proofs.Ytfdihmbmlhlkgaa
open Go.RowKit
attribute [local go_sem high] guardV eqV neqV
attribute [local go_sem] V.v

theorem pcs_take (L : List (V × V)) (k : Nat) : (pcs L).take (k * 6) = pcs (L.take k) := by
  induction L generalizing k with
  | nil => simp [pcs]
  | cons x xs ih =>
    cases k with
    | zero => simp [pcs]
    | succ k =>
      rw [pcs_cons, List.take_succ_cons, pcs_cons, List.take_append, pairCs_length, List.take_of_length_le (by rw [pairCs_length]; omega), ← ih k]
      congr 2; omega
theorem pcs_drop (L : List (V × V)) (k : Nat) : (pcs L).drop (k * 6) = pcs (L.drop k) := by
  induction L generalizing k with
  | nil => simp [pcs]
  | cons x xs ih =>
    cases k with
    | zero => simp
    | succ k =>
      rw [pcs_cons, List.drop_succ_cons, List.drop_append, pairCs_length, List.drop_of_length_le (by rw [pairCs_length]; omega), List.nil_append, ← ih k]
      congr 1; omega
theorem rdel_end {w W Wd : World} {S : Nat → Prop} {y b c i : Nat} {L : List (V × V)} {x : V} (hS : S y ∧ (∀ b', (Value.slice (some ⟨b, 0, none⟩) L.length c).ownBlock = some b' → S b') ∧ (∀ i, S i → i < w.heap.size))
    (hB : Blk W y 53 #[.slice (some ⟨b, 0, none⟩) L.length c]) (hM : Below w.heap.size w W) (hd : Wd = W.drew) (hL : delL L x = L.take i ++ L.drop (i + 1)) (hf : (findL L x).isSome = true) :
    ∀ (v9 : Value) (n9 : Nat) (w9 : World), NewO 42 6 Wd w9 v9 n9 ([] ++ pcs (L.take i) ++ pcs (L.drop (i + 1))) →
      Ending.returned (.bool true) = .returned (.bool (findL L x).isSome) ∧ IsRef (w9.setCell ⟨y, 0, none⟩ v9) (Grew S w (w9.setCell ⟨y, 0, none⟩ v9)) y (delL L x) ∧ Mod S w (w9.setCell ⟨y, 0, none⟩ v9) := by
  intro v9 n9 w9 h9
  subst hd
  obtain ⟨s1, s2, s3⟩ := hS
  have hb9 : Below W.heap.size W w9 := Below.trans (by exact (by repeat (first | exact Below.refl _ _ | assumption | refine Below.setCell ?_ (by first | (simp; done) | (simp; omega) | omega) _ | refine below_drewN ?_ _ | refine Below.drew ?_ | refine Below.alloc ?_ (by first | (simp; done) | (simp; omega) | omega) _))) h9.bel
  have k9 := hB.new' hb9
  have mf : Mod (fun i => i = y) w9 (w9.setCell ⟨y, 0, none⟩ v9) := (Mod.refl (fun i => i = y) w9).setCell (p := ⟨y, 0, none⟩) (fun _ => rfl) _
  have hv9y : v9.ownBlock ≠ some y := own_blk_ne h9.own k9 (by decide)
  have hz : W.heap.size ≤ w9.heap.size := hb9.size
  have hzf : w9.heap.size ≤ (w9.setCell ⟨y, 0, none⟩ v9).heap.size := mf.size
  have hww : w.heap.size ≤ W.heap.size := hM.size
  have hlen : n9 = (delL L x).length := by
    have h1 := h9.own.1
    rw [List.nil_append, List.length_append, pcs_length, pcs_length] at h1
    rw [hL, List.length_append]
    omega
  refine ⟨by rw [hf], ⟨v9, k9.set_ 0 v9, ?_, .inl s1, fun b e => ?_, fun i hi => ?_⟩, ((Mod.new (S := S) hM).trans (Mod.new (S := S) hb9) fun _ _ h => h).trans mf (fun i _ e => by subst e; exact s1)⟩
  · have h1 := h9.own.mod mf (fun b e e' => hv9y (by rw [e, e']))
    rw [hlen, List.nil_append, ← pcs_append, ← hL] at h1
    exact h1
  · have h1 := Own.lt h9.own e
    have h2 : W.heap.size ≤ b := h9.new b e
    exact .inr ⟨by omega, by omega⟩
  · rcases hi with h | h
    · have := s3 i h
      omega
    · exact h.2

set_option maxRecDepth 100000 in
set_option maxHeartbeats 4000000 in
theorem rdel_any {w : World} {S : Nat → Prop} {y : Nat} {L : List (V × V)} (h : IsRef w S y L) (x : V) (hK : Keyed L) (hlen : L.length ≤ 4096) :
    Calls Try.prog 34 #[.pointer (some ⟨y, 0, none⟩), .agg #[.int .i64 x.k, .int .i64 x.n, .string x.s]] w fun e w' => e = .returned (.bool (findL L x).isSome) ∧ IsRef w' (Grew S w w') y (delL L x) ∧ Mod S w w' := by
  have HR := Lib.hid h
  obtain ⟨v, hb, ho, hS1, hS2, hS3⟩ := h
  have hy := hb.lt
  have c0 := hb.cell 0
  simp only [List.getElem?_toArray, List.getElem?_cons_zero] at c0
  have HB := Lib.hid hb
  have HO := Lib.hid ho
  have HS := Lib.hid (And.intro hS1 (And.intro hS2 hS3))
  clear hb ho hS1 hS2 hS3
  obtain ⟨k, n, s⟩ := x
  have HK := Lib.hid hK
  clear hK
  go_enter Try.func34, Try.ntmps34
  go_wp2_with fail
  refine (rat_any (HR.out.new (by exact (by repeat (first | exact Below.refl _ _ | assumption | refine Below.setCell ?_ (by first | (simp; done) | (simp; omega) | omega) _ | refine below_drewN ?_ _ | refine Below.drew ?_ | refine Below.alloc ?_ (by first | (simp; done) | (simp; omega) | omega) _)))) ⟨k, n, s⟩ (by omega)).mono ?_
  rintro e W ⟨z, rfl, hz, hb1⟩
  have hbw : Below w.heap.size w W := Below.trans (by exact (by repeat (first | exact Below.refl _ _ | assumption | refine Below.setCell ?_ (by first | (simp; done) | (simp; omega) | omega) _ | refine below_drewN ?_ _ | refine Below.drew ?_ | refine Below.alloc ?_ (by first | (simp; done) | (simp; omega) | omega) _))) (hb1.mono (by simp))
  have HBW := Lib.hid hbw
  rcases hz.cases with ⟨rfl, hf⟩ | ⟨i, p, rfl, hil, hp, hpx, hf⟩
  · have HF := Lib.hid hf
    clear hz hb1 hbw hf
    go_wp2_with fail
    go_ret
    refine ⟨by rw [HF.out]; rfl, ?_, Mod.new HBW.out⟩
    rw [delL_of_none HF.out]
    exact (HR.out.new HBW.out).grew
  · obtain ⟨b, c, rfl, hbl, -⟩ := ownP_at HO.out hp
    obtain ⟨A', c', e', hrd', -⟩ := Own.rd (Own.new HO.out hbw)
    simp only [Value.slice.injEq] at e'
    obtain ⟨rfl, _, rfl⟩ := e'
    have hcn : L.length ≤ c := hrd'.1
    have hc63 : c ≤ 9223372036854775807 := hrd'.2.1
    have HRD := Lib.hid hrd'
    have HD0 := Lib.hid (HB.out.new' hbw)
    have HR1 : Hid (Rd W.drew (some ⟨b, 0, none⟩) i c 6 (pcs (L.take i))) := Lib.hid (by
      have h := (hrd'.new (w' := W.drew) (by repeat (first | exact Below.refl _ _ | assumption | refine Below.setCell ?_ (by first | (simp; done) | (simp; omega) | omega) _ | refine below_drewN ?_ _ | refine Below.drew ?_ | refine Below.alloc ?_ (by first | (simp; done) | (simp; omega) | omega) _))).lo (k := i) (by omega)
      rw [pcs_take] at h
      exact h)
    have hdl : delL L ⟨k, n, s⟩ = L.take i ++ L.drop (i + 1) := by
      have := HK.out.delL hp
      rw [hpx] at this
      exact this
    have HEND : Hid (∀ (v9 : Value) (n9 : Nat) (w9 : World), NewO 42 6 W.drew w9 v9 n9 ([] ++ pcs (L.take i) ++ pcs (L.drop (i + 1))) →
      Ending.returned (.bool true) = .returned (.bool (findL L ⟨k, n, s⟩).isSome) ∧ IsRef (w9.setCell ⟨y, 0, none⟩ v9) (Grew S w (w9.setCell ⟨y, 0, none⟩ v9)) y (delL L ⟨k, n, s⟩) ∧ Mod S w (w9.setCell ⟨y, 0, none⟩ v9)) :=
      Lib.hid (rdel_end HS.out HD0.out hbw rfl hdl (by rw [hf]; rfl))
    have cg := HD0.out.cell 0
    simp only [List.getElem?_toArray, List.getElem?_cons_zero] at cg
    clear hz hb1 hbw hf hp hpx hrd' hdl hbl HR HB HO HS HK HBW c0
    by_cases hc1 : c = i + 1
    · skip
      have HR2 : Hid (Rd W.drew (some ⟨b, 0, none⟩) 0 0 6 (pcs (L.drop (i + 1)))) := Lib.hid (by
        have h := (HRD.out.new (w' := W.drew) (by repeat (first | exact Below.refl _ _ | assumption | refine Below.setCell ?_ (by first | (simp; done) | (simp; omega) | omega) _ | refine below_drewN ?_ _ | refine Below.drew ?_ | refine Below.alloc ?_ (by first | (simp; done) | (simp; omega) | omega) _))).hi (k := i + 1) (by omega) (A' := (some ⟨b, 0, none⟩)) (fun h => by omega)
        rw [pcs_drop] at h
        have e1 : L.length - (i + 1) = 0 := by omega
        have e2 : c - (i + 1) = 0 := by omega
        rw [e1, e2] at h
        exact h)
      subst hc1
      have hg0 : i ≤ (i + 1) := by omega
      have hg1 : (0 : Int) ≤ (i : Int) + 1 := by omega
      have hg3 : (i : Int) ≤ (i : Int) + 1 := by omega
      have hg2 : (i : Int) + 1 ≤ (L.length : Int) := by omega
      have hwr : IntKind.i64.wrap ((i : Int) + 1) = (i : Int) + 1 := IntWalk.i64_in _ (by omega)
      go_wp2_with fail
      refine wp_region_noPanic ?_
      obtain ⟨i0, hi, hz0, hz1, hz2⟩ := info_parts info_P
      refine AnyBut.start (S := fun w' => w'.cell? ⟨y, 0, none⟩ = some (.slice (some ⟨b, 0, none⟩) L.length (i + 1))) 19 (by kernel_rfl) (HD0.out.new' (by exact (by repeat (first | exact Below.refl _ _ | assumption | refine Below.setCell ?_ (by first | (simp; done) | (simp; omega) | omega) _ | refine below_drewN ?_ _ | refine Below.drew ?_ | refine Below.alloc ?_ (by first | (simp; done) | (simp; omega) | omega) _))) |>.cell 0) (fun hHeld => ?_)
      have HB9 := Lib.hid (HD0.out.new' (w' := W.drew) (by exact (by repeat (first | exact Below.refl _ _ | assumption | refine Below.setCell ?_ (by first | (simp; done) | (simp; omega) | omega) _ | refine below_drewN ?_ _ | refine Below.drew ?_ | refine Below.alloc ?_ (by first | (simp; done) | (simp; omega) | omega) _))))
      have HALL : Hid (∀ w', Below W.drew.heap.size W.drew w' → (fun w' => w'.cell? ⟨y, 0, none⟩ = some (.slice (some ⟨b, 0, none⟩) L.length (i + 1))) w') := Lib.hid fun w' hb => (HB9.out.new' hb).cell 0
      clear HD0 HRD
      generalize W.drew = Wd at *
      refine AnyBut.take (i := 0) (v := ?_) (by rw [List.getElem?_toArray]; rfl) (by kernel_rfl) (by kernel_rfl) (by kernel_rfl) (by kernel_rfl) (fun _ _ _ h => h) (Or.inl ⟨by rfl, ?_⟩) (by assumption) ?_
      rotate_left 1
      · (intro w_ hSw; (try dsimp only at hSw); go_simp; try with_reducible rfl)
      try simp only [Act.put, List.setIfInBounds_toArray, List.set_cons_zero, List.set_cons_succ]
      refine AnyBut.take (i := 2) (v := ?_) (by rw [List.getElem?_toArray]; rfl) (by kernel_rfl) (by kernel_rfl) (by kernel_rfl) (by kernel_rfl) (fun _ _ _ h => h) (Or.inl ⟨by rfl, ?_⟩) (by assumption) ?_
      rotate_left 1
      · (intro w_ hSw; (try dsimp only at hSw); go_simp; try with_reducible rfl)
      try simp only [Act.put, List.setIfInBounds_toArray, List.set_cons_zero, List.set_cons_succ]
      refine AnyBut.take (i := 3) (v := ?_) (by rw [List.getElem?_toArray]; rfl) (by kernel_rfl) (by kernel_rfl) (by kernel_rfl) (by kernel_rfl) (fun _ _ _ h => h) (Or.inl ⟨by rfl, ?_⟩) (by assumption) ?_
      rotate_left 1
      · (intro w_ hSw; (try dsimp only at hSw); go_simp; try with_reducible rfl)
      try simp only [Act.put, List.setIfInBounds_toArray, List.set_cons_zero, List.set_cons_succ]
      refine AnyBut.take (i := 4) (v := ?_) (by rw [List.getElem?_toArray]; rfl) (by kernel_rfl) (by kernel_rfl) (by kernel_rfl) (by kernel_rfl) (fun _ _ _ h => h) (Or.inl ⟨by rfl, ?_⟩) (by assumption) ?_
      rotate_left 1
      · (intro w_ hSw; (try dsimp only at hSw); go_simp; try with_reducible rfl)
      try simp only [Act.put, List.setIfInBounds_toArray, List.set_cons_zero, List.set_cons_succ]
      refine AnyBut.take (i := 5) (v := ?_) (by rw [List.getElem?_toArray]; rfl) (by kernel_rfl) (by kernel_rfl) (by kernel_rfl) (by kernel_rfl) (fun _ _ _ h => h) (Or.inl ⟨by rfl, ?_⟩) (by assumption) ?_
      rotate_left 1
      · (intro w_ hSw; (try dsimp only at hSw); go_simp; try with_reducible rfl)
      try simp only [Act.put, List.setIfInBounds_toArray, List.set_cons_zero, List.set_cons_succ]
      refine AnyBut.take (i := 6) (v := ?_) (by rw [List.getElem?_toArray]; rfl) (by kernel_rfl) (by kernel_rfl) (by kernel_rfl) (by kernel_rfl) (fun _ _ _ h => h) (Or.inl ⟨by rfl, ?_⟩) (by assumption) ?_
      rotate_left 1
      · (intro w_ hSw; (try dsimp only at hSw); go_simp; try with_reducible rfl)
      try simp only [Act.put, List.setIfInBounds_toArray, List.set_cons_zero, List.set_cons_succ]
      refine AnyBut.take (i := 7) (v := ?_) (by rw [List.getElem?_toArray]; rfl) (by kernel_rfl) (by kernel_rfl) (by kernel_rfl) (by kernel_rfl) (fun _ _ _ h => h) (Or.inl ⟨by rfl, ?_⟩) (by assumption) ?_
      rotate_left 1
      · (intro w_ hSw; (try dsimp only at hSw); go_simp; try with_reducible rfl)
      try simp only [Act.put, List.setIfInBounds_toArray, List.set_cons_zero, List.set_cons_succ]
      refine AnyBut.take (i := 9) (v := ?_) (by rw [List.getElem?_toArray]; rfl) (by kernel_rfl) (by kernel_rfl) (by kernel_rfl) (by kernel_rfl) (fun _ _ _ h => h) (Or.inl ⟨by rfl, ?_⟩) (by assumption) ?_
      rotate_left 1
      · (intro w_ hSw; (try dsimp only at hSw); go_simp; try with_reducible rfl)
      try simp only [Act.put, List.setIfInBounds_toArray, List.set_cons_zero, List.set_cons_succ]
      refine AnyBut.take (i := 10) (v := ?_) (by rw [List.getElem?_toArray]; rfl) (by kernel_rfl) (by kernel_rfl) (by kernel_rfl) (by kernel_rfl) (fun _ _ _ h => h) (Or.inl ⟨by rfl, ?_⟩) (by assumption) ?_
      rotate_left 1
      · (intro w_ hSw; (try dsimp only at hSw); go_simp; try with_reducible rfl)
      try simp only [Act.put, List.setIfInBounds_toArray, List.set_cons_zero, List.set_cons_succ]
      refine AnyBut.take (i := 11) (v := ?_) (by rw [List.getElem?_toArray]; rfl) (by kernel_rfl) (by kernel_rfl) (by kernel_rfl) (by kernel_rfl) (fun _ _ _ h => h) (Or.inl ⟨by rfl, ?_⟩) (by assumption) ?_
      rotate_left 1
      · (intro w_ hSw; (try dsimp only at hSw); go_simp; try with_reducible rfl)
      try simp only [Act.put, List.setIfInBounds_toArray, List.set_cons_zero, List.set_cons_succ]
      refine AnyBut.take (i := 12) (v := ?_) (by rw [List.getElem?_toArray]; rfl) (by kernel_rfl) (by kernel_rfl) (by kernel_rfl) (by kernel_rfl) (fun _ _ _ h => h) (Or.inl ⟨by rfl, ?_⟩) (by assumption) ?_
      rotate_left 1
      · (intro w_ hSw; (try dsimp only at hSw); go_simp; try with_reducible rfl)
      try simp only [Act.put, List.setIfInBounds_toArray, List.set_cons_zero, List.set_cons_succ]
      refine AnyBut.take (i := 13) (v := ?_) (by rw [List.getElem?_toArray]; rfl) (by kernel_rfl) (by kernel_rfl) (by kernel_rfl) (by kernel_rfl) (fun _ _ _ h => h) (Or.inl ⟨by rfl, ?_⟩) (by assumption) ?_
      rotate_left 1
      · (intro w_ hSw; (try dsimp only at hSw); go_simp; try with_reducible rfl)
      try simp only [Act.put, List.setIfInBounds_toArray, List.set_cons_zero, List.set_cons_succ]
      refine AnyBut.take (i := 14) (v := ?_) (by rw [List.getElem?_toArray]; rfl) (by kernel_rfl) (by kernel_rfl) (by kernel_rfl) (by kernel_rfl) (fun _ _ _ h => h) (Or.inl ⟨by rfl, ?_⟩) (by assumption) ?_
      rotate_left 1
      · (intro w_ hSw; (try dsimp only at hSw); go_simp; try with_reducible rfl)
      try simp only [Act.put, List.setIfInBounds_toArray, List.set_cons_zero, List.set_cons_succ]
      refine AnyBut.take (i := 15) (v := ?_) (by rw [List.getElem?_toArray]; rfl) (by kernel_rfl) (by kernel_rfl) (by kernel_rfl) (by kernel_rfl) (fun _ _ _ h => h) (Or.inl ⟨by rfl, ?_⟩) (by assumption) ?_
      rotate_left 1
      · (intro w_ hSw; (try dsimp only at hSw); go_simp; try with_reducible rfl)
      try simp only [Act.put, List.setIfInBounds_toArray, List.set_cons_zero, List.set_cons_succ]
      refine AnyBut.ready (rs := [1]) (by kernel_rfl) (by simp) ?_
      refine ReadyBut.cons (by rw [List.getElem?_toArray]; rfl) (fun K hK => ?_) ReadyBut.nil
      go_simp
      refine hK.out _ _ (HALL.out _ (by exact (by repeat (first | exact Below.refl _ _ | assumption | refine Below.setCell ?_ (by first | (simp; done) | (simp; omega) | omega) _ | refine below_drewN ?_ _ | refine Below.drew ?_ | refine Below.alloc ?_ (by first | (simp; done) | (simp; omega) | omega) _)))) (fun hHeld => ?_)
      clear hK K
      try simp only [Act.put, List.setIfInBounds_toArray, List.set_cons_zero, List.set_cons_succ]
      refine AnyBut.ready (rs := [8]) (by kernel_rfl) (by simp) ?_
      refine ReadyBut.cons (by rw [List.getElem?_toArray]; rfl) (fun K hK => ?_) ReadyBut.nil
      refine step_append_Own _ rfl (.tmp 12) (.tmp 18) 39 rfl 42 i0 _ 6 64 Try.underlying39 hi hz0 hz1 hz2 rfl (.slice (some ⟨Wd.heap.size, 0, none⟩) 0 0) 0 [] rfl (by exact (NewO.empty 42 6 Wd).own) (some ⟨b, 0, none⟩) i (i + 1) (pcs (L.take i)) rfl (by exact HR1.out.new (by exact (by repeat (first | exact Below.refl _ _ | assumption | refine Below.setCell ?_ (by first | (simp; done) | (simp; omega) | omega) _ | refine below_drewN ?_ _ | refine Below.drew ?_ | refine Below.alloc ?_ (by first | (simp; done) | (simp; omega) | omega) _)))) (by exact pcs_oneCell _) (by omega) (by omega) ?_
      intro v8 w8 own8 grow8 at8
      obtain ⟨A8, k8, rfl, -, -⟩ := Own.rd own8
      have N8 := Lib.hid ((NewO.empty 42 6 Wd).app own8 grow8 at8)
      clear own8 grow8 at8
      refine hK.out _ _ (HALL.out _ N8.out.bel) (fun hHeld => ?_)
      clear hK K
      try simp only [Act.put, List.setIfInBounds_toArray, List.set_cons_zero, List.set_cons_succ]
      refine AnyBut.ready (rs := [16]) (by kernel_rfl) (by simp) ?_
      refine ReadyBut.cons (by rw [List.getElem?_toArray]; rfl) (fun K hK => ?_) ReadyBut.nil
      refine step_append_Own _ rfl (.tmp 19) (.tmp 26) 39 rfl 42 i0 _ 6 64 Try.underlying39 hi hz0 hz1 hz2 rfl (.slice A8 (0 + i) k8) (0 + i) ([] ++ pcs (L.take i)) rfl (by exact N8.out.own) (some ⟨b, 0, none⟩) 0 0 (pcs (L.drop (i + 1))) rfl (by exact HR2.out.new N8.out.bel) (by exact pcs_oneCell _) (by omega) (by omega) ?_
      intro v9 w9 own9 grow9 at9
      obtain ⟨A9, k9, rfl, -, -⟩ := Own.rd own9
      have N9 := Lib.hid (N8.out.app own9 grow9 at9)
      clear own9 grow9 at9
      have f9 := (HB9.out.new' N9.out.bel).frozen 0
      refine hK.out _ _ (HALL.out _ N9.out.bel) (fun hHeld => ?_)
      clear hK K
      try simp only [Act.put, List.setIfInBounds_toArray, List.set_cons_zero, List.set_cons_succ]
      refine AnyBut.ready (rs := [17]) (by kernel_rfl) (by simp) ?_
      refine ReadyBut.cons (by rw [List.getElem?_toArray]; rfl) (fun K hK => ?_) ReadyBut.nil
      go_simp
      refine hK.out _ _ hHeld (fun hHeld => ?_)
      clear hK K
      try simp only [Act.put, List.setIfInBounds_toArray, List.set_cons_zero, List.set_cons_succ]
      refine AnyBut.take (i := 18) (v := ?_) (by rw [List.getElem?_toArray]; rfl) (by kernel_rfl) (by kernel_rfl) (by kernel_rfl) (by kernel_rfl) (fun _ _ _ h => h) (Or.inl ⟨by rfl, ?_⟩) (by assumption) ?_
      rotate_left 1
      · (intro w_ hSw; (try dsimp only at hSw); go_simp; try with_reducible rfl)
      try simp only [Act.put, List.setIfInBounds_toArray, List.set_cons_zero, List.set_cons_succ]
      refine AnyBut.ready (rs := [19]) (by kernel_rfl) (by simp) ?_
      refine ReadyBut.last (by rw [List.getElem?_toArray]; rfl) (fun K hK => ?_)
      have c9 : _ = _ := hHeld
      go_simp
      refine hK.out _ _ ?_
      clear hK K
      try simp only [Act.put, List.setIfInBounds_toArray, List.set_cons_zero, List.set_cons_succ]
      refine AnyBut.done (by kernel_rfl) ?_ _
      refine NoPanic.normal ?_
      go_wp2_with fail
      go_ret
      have hN := N9.out
      rw [Nat.zero_add] at hN
      exact HEND.out _ _ w9 hN
    · skip
      have HR2 : Hid (Rd W.drew (some ⟨b, (i + 1) * 6, none⟩) (L.length - (i + 1)) (c - (i + 1)) 6 (pcs (L.drop (i + 1)))) := Lib.hid (by
        have h := (HRD.out.new (w' := W.drew) (by repeat (first | exact Below.refl _ _ | assumption | refine Below.setCell ?_ (by first | (simp; done) | (simp; omega) | omega) _ | refine below_drewN ?_ _ | refine Below.drew ?_ | refine Below.alloc ?_ (by first | (simp; done) | (simp; omega) | omega) _))).hi (k := i + 1) (by omega) (A' := (some ⟨b, (i + 1) * 6, none⟩)) (fun h => by simp only [Option.map_some, Addr.add, Nat.zero_add]; split <;> simp_all)
        rw [pcs_drop] at h
        skip
        skip
        skip
        exact h)
      have hc2 : ¬ c = i + 1 := hc1
      have hg0 : i ≤ c := by omega
      have hg1 : (0 : Int) ≤ (i : Int) + 1 := by omega
      have hg3 : (i : Int) ≤ (i : Int) + 1 := by omega
      have hg2 : (i : Int) + 1 ≤ (L.length : Int) := by omega
      have hwr : IntKind.i64.wrap ((i : Int) + 1) = (i : Int) + 1 := IntWalk.i64_in _ (by omega)
      go_wp2_with fail
      refine wp_region_noPanic ?_
      obtain ⟨i0, hi, hz0, hz1, hz2⟩ := info_parts info_P
      refine AnyBut.start (S := fun w' => w'.cell? ⟨y, 0, none⟩ = some (.slice (some ⟨b, 0, none⟩) L.length c)) 19 (by kernel_rfl) (HD0.out.new' (by exact (by repeat (first | exact Below.refl _ _ | assumption | refine Below.setCell ?_ (by first | (simp; done) | (simp; omega) | omega) _ | refine below_drewN ?_ _ | refine Below.drew ?_ | refine Below.alloc ?_ (by first | (simp; done) | (simp; omega) | omega) _))) |>.cell 0) (fun hHeld => ?_)
      have HB9 := Lib.hid (HD0.out.new' (w' := W.drew) (by exact (by repeat (first | exact Below.refl _ _ | assumption | refine Below.setCell ?_ (by first | (simp; done) | (simp; omega) | omega) _ | refine below_drewN ?_ _ | refine Below.drew ?_ | refine Below.alloc ?_ (by first | (simp; done) | (simp; omega) | omega) _))))
      have HALL : Hid (∀ w', Below W.drew.heap.size W.drew w' → (fun w' => w'.cell? ⟨y, 0, none⟩ = some (.slice (some ⟨b, 0, none⟩) L.length c)) w') := Lib.hid fun w' hb => (HB9.out.new' hb).cell 0
      clear HD0 HRD
      generalize W.drew = Wd at *
      refine AnyBut.take (i := 0) (v := ?_) (by rw [List.getElem?_toArray]; rfl) (by kernel_rfl) (by kernel_rfl) (by kernel_rfl) (by kernel_rfl) (fun _ _ _ h => h) (Or.inl ⟨by rfl, ?_⟩) (by assumption) ?_
      rotate_left 1
      · (intro w_ hSw; (try dsimp only at hSw); go_simp; try with_reducible rfl)
      try simp only [Act.put, List.setIfInBounds_toArray, List.set_cons_zero, List.set_cons_succ]
      refine AnyBut.take (i := 2) (v := ?_) (by rw [List.getElem?_toArray]; rfl) (by kernel_rfl) (by kernel_rfl) (by kernel_rfl) (by kernel_rfl) (fun _ _ _ h => h) (Or.inl ⟨by rfl, ?_⟩) (by assumption) ?_
      rotate_left 1
      · (intro w_ hSw; (try dsimp only at hSw); go_simp; try with_reducible rfl)
      try simp only [Act.put, List.setIfInBounds_toArray, List.set_cons_zero, List.set_cons_succ]
      refine AnyBut.take (i := 3) (v := ?_) (by rw [List.getElem?_toArray]; rfl) (by kernel_rfl) (by kernel_rfl) (by kernel_rfl) (by kernel_rfl) (fun _ _ _ h => h) (Or.inl ⟨by rfl, ?_⟩) (by assumption) ?_
      rotate_left 1
      · (intro w_ hSw; (try dsimp only at hSw); go_simp; try with_reducible rfl)
      try simp only [Act.put, List.setIfInBounds_toArray, List.set_cons_zero, List.set_cons_succ]
      refine AnyBut.take (i := 4) (v := ?_) (by rw [List.getElem?_toArray]; rfl) (by kernel_rfl) (by kernel_rfl) (by kernel_rfl) (by kernel_rfl) (fun _ _ _ h => h) (Or.inl ⟨by rfl, ?_⟩) (by assumption) ?_
      rotate_left 1
      · (intro w_ hSw; (try dsimp only at hSw); go_simp; try with_reducible rfl)
      try simp only [Act.put, List.setIfInBounds_toArray, List.set_cons_zero, List.set_cons_succ]
      refine AnyBut.take (i := 5) (v := ?_) (by rw [List.getElem?_toArray]; rfl) (by kernel_rfl) (by kernel_rfl) (by kernel_rfl) (by kernel_rfl) (fun _ _ _ h => h) (Or.inl ⟨by rfl, ?_⟩) (by assumption) ?_
      rotate_left 1
      · (intro w_ hSw; (try dsimp only at hSw); go_simp; try with_reducible rfl)
      try simp only [Act.put, List.setIfInBounds_toArray, List.set_cons_zero, List.set_cons_succ]
      refine AnyBut.take (i := 6) (v := ?_) (by rw [List.getElem?_toArray]; rfl) (by kernel_rfl) (by kernel_rfl) (by kernel_rfl) (by kernel_rfl) (fun _ _ _ h => h) (Or.inl ⟨by rfl, ?_⟩) (by assumption) ?_
      rotate_left 1
      · (intro w_ hSw; (try dsimp only at hSw); go_simp; try with_reducible rfl)
      try simp only [Act.put, List.setIfInBounds_toArray, List.set_cons_zero, List.set_cons_succ]
      refine AnyBut.take (i := 7) (v := ?_) (by rw [List.getElem?_toArray]; rfl) (by kernel_rfl) (by kernel_rfl) (by kernel_rfl) (by kernel_rfl) (fun _ _ _ h => h) (Or.inl ⟨by rfl, ?_⟩) (by assumption) ?_
      rotate_left 1
      · (intro w_ hSw; (try dsimp only at hSw); go_simp; try with_reducible rfl)
      try simp only [Act.put, List.setIfInBounds_toArray, List.set_cons_zero, List.set_cons_succ]
      refine AnyBut.take (i := 9) (v := ?_) (by rw [List.getElem?_toArray]; rfl) (by kernel_rfl) (by kernel_rfl) (by kernel_rfl) (by kernel_rfl) (fun _ _ _ h => h) (Or.inl ⟨by rfl, ?_⟩) (by assumption) ?_
      rotate_left 1
      · (intro w_ hSw; (try dsimp only at hSw); go_simp; try with_reducible rfl)
      try simp only [Act.put, List.setIfInBounds_toArray, List.set_cons_zero, List.set_cons_succ]
      refine AnyBut.take (i := 10) (v := ?_) (by rw [List.getElem?_toArray]; rfl) (by kernel_rfl) (by kernel_rfl) (by kernel_rfl) (by kernel_rfl) (fun _ _ _ h => h) (Or.inl ⟨by rfl, ?_⟩) (by assumption) ?_
      rotate_left 1
      · (intro w_ hSw; (try dsimp only at hSw); go_simp; try with_reducible rfl)
      try simp only [Act.put, List.setIfInBounds_toArray, List.set_cons_zero, List.set_cons_succ]
      refine AnyBut.take (i := 11) (v := ?_) (by rw [List.getElem?_toArray]; rfl) (by kernel_rfl) (by kernel_rfl) (by kernel_rfl) (by kernel_rfl) (fun _ _ _ h => h) (Or.inl ⟨by rfl, ?_⟩) (by assumption) ?_
      rotate_left 1
      · (intro w_ hSw; (try dsimp only at hSw); go_simp; try with_reducible rfl)
      try simp only [Act.put, List.setIfInBounds_toArray, List.set_cons_zero, List.set_cons_succ]
      refine AnyBut.take (i := 12) (v := ?_) (by rw [List.getElem?_toArray]; rfl) (by kernel_rfl) (by kernel_rfl) (by kernel_rfl) (by kernel_rfl) (fun _ _ _ h => h) (Or.inl ⟨by rfl, ?_⟩) (by assumption) ?_
      rotate_left 1
      · (intro w_ hSw; (try dsimp only at hSw); go_simp; try with_reducible rfl)
      try simp only [Act.put, List.setIfInBounds_toArray, List.set_cons_zero, List.set_cons_succ]
      refine AnyBut.take (i := 13) (v := ?_) (by rw [List.getElem?_toArray]; rfl) (by kernel_rfl) (by kernel_rfl) (by kernel_rfl) (by kernel_rfl) (fun _ _ _ h => h) (Or.inl ⟨by rfl, ?_⟩) (by assumption) ?_
      rotate_left 1
      · (intro w_ hSw; (try dsimp only at hSw); go_simp; try with_reducible rfl)
      try simp only [Act.put, List.setIfInBounds_toArray, List.set_cons_zero, List.set_cons_succ]
      refine AnyBut.take (i := 14) (v := ?_) (by rw [List.getElem?_toArray]; rfl) (by kernel_rfl) (by kernel_rfl) (by kernel_rfl) (by kernel_rfl) (fun _ _ _ h => h) (Or.inl ⟨by rfl, ?_⟩) (by assumption) ?_
      rotate_left 1
      · (intro w_ hSw; (try dsimp only at hSw); go_simp; try with_reducible rfl)
      try simp only [Act.put, List.setIfInBounds_toArray, List.set_cons_zero, List.set_cons_succ]
      refine AnyBut.take (i := 15) (v := ?_) (by rw [List.getElem?_toArray]; rfl) (by kernel_rfl) (by kernel_rfl) (by kernel_rfl) (by kernel_rfl) (fun _ _ _ h => h) (Or.inl ⟨by rfl, ?_⟩) (by assumption) ?_
      rotate_left 1
      · (intro w_ hSw; (try dsimp only at hSw); go_simp; try with_reducible rfl)
      try simp only [Act.put, List.setIfInBounds_toArray, List.set_cons_zero, List.set_cons_succ]
      refine AnyBut.ready (rs := [1]) (by kernel_rfl) (by simp) ?_
      refine ReadyBut.cons (by rw [List.getElem?_toArray]; rfl) (fun K hK => ?_) ReadyBut.nil
      go_simp
      refine hK.out _ _ (HALL.out _ (by exact (by repeat (first | exact Below.refl _ _ | assumption | refine Below.setCell ?_ (by first | (simp; done) | (simp; omega) | omega) _ | refine below_drewN ?_ _ | refine Below.drew ?_ | refine Below.alloc ?_ (by first | (simp; done) | (simp; omega) | omega) _)))) (fun hHeld => ?_)
      clear hK K
      try simp only [Act.put, List.setIfInBounds_toArray, List.set_cons_zero, List.set_cons_succ]
      refine AnyBut.ready (rs := [8]) (by kernel_rfl) (by simp) ?_
      refine ReadyBut.cons (by rw [List.getElem?_toArray]; rfl) (fun K hK => ?_) ReadyBut.nil
      refine step_append_Own _ rfl (.tmp 12) (.tmp 18) 39 rfl 42 i0 _ 6 64 Try.underlying39 hi hz0 hz1 hz2 rfl (.slice (some ⟨Wd.heap.size, 0, none⟩) 0 0) 0 [] rfl (by exact (NewO.empty 42 6 Wd).own) (some ⟨b, 0, none⟩) i c (pcs (L.take i)) rfl (by exact HR1.out.new (by exact (by repeat (first | exact Below.refl _ _ | assumption | refine Below.setCell ?_ (by first | (simp; done) | (simp; omega) | omega) _ | refine below_drewN ?_ _ | refine Below.drew ?_ | refine Below.alloc ?_ (by first | (simp; done) | (simp; omega) | omega) _)))) (by exact pcs_oneCell _) (by omega) (by omega) ?_
      intro v8 w8 own8 grow8 at8
      obtain ⟨A8, k8, rfl, -, -⟩ := Own.rd own8
      have N8 := Lib.hid ((NewO.empty 42 6 Wd).app own8 grow8 at8)
      clear own8 grow8 at8
      refine hK.out _ _ (HALL.out _ N8.out.bel) (fun hHeld => ?_)
      clear hK K
      try simp only [Act.put, List.setIfInBounds_toArray, List.set_cons_zero, List.set_cons_succ]
      refine AnyBut.ready (rs := [16]) (by kernel_rfl) (by simp) ?_
      refine ReadyBut.cons (by rw [List.getElem?_toArray]; rfl) (fun K hK => ?_) ReadyBut.nil
      refine step_append_Own _ rfl (.tmp 19) (.tmp 26) 39 rfl 42 i0 _ 6 64 Try.underlying39 hi hz0 hz1 hz2 rfl (.slice A8 (0 + i) k8) (0 + i) ([] ++ pcs (L.take i)) rfl (by exact N8.out.own) (some ⟨b, (i + 1) * 6, none⟩) (L.length - (i + 1)) (c - (i + 1)) (pcs (L.drop (i + 1))) rfl (by exact HR2.out.new N8.out.bel) (by exact pcs_oneCell _) (by omega) (by omega) ?_
      intro v9 w9 own9 grow9 at9
      obtain ⟨A9, k9, rfl, -, -⟩ := Own.rd own9
      have N9 := Lib.hid (N8.out.app own9 grow9 at9)
      clear own9 grow9 at9
      have f9 := (HB9.out.new' N9.out.bel).frozen 0
      refine hK.out _ _ (HALL.out _ N9.out.bel) (fun hHeld => ?_)
      clear hK K
      try simp only [Act.put, List.setIfInBounds_toArray, List.set_cons_zero, List.set_cons_succ]
      refine AnyBut.ready (rs := [17]) (by kernel_rfl) (by simp) ?_
      refine ReadyBut.cons (by rw [List.getElem?_toArray]; rfl) (fun K hK => ?_) ReadyBut.nil
      go_simp
      refine hK.out _ _ hHeld (fun hHeld => ?_)
      clear hK K
      try simp only [Act.put, List.setIfInBounds_toArray, List.set_cons_zero, List.set_cons_succ]
      refine AnyBut.take (i := 18) (v := ?_) (by rw [List.getElem?_toArray]; rfl) (by kernel_rfl) (by kernel_rfl) (by kernel_rfl) (by kernel_rfl) (fun _ _ _ h => h) (Or.inl ⟨by rfl, ?_⟩) (by assumption) ?_
      rotate_left 1
      · (intro w_ hSw; (try dsimp only at hSw); go_simp; try with_reducible rfl)
      try simp only [Act.put, List.setIfInBounds_toArray, List.set_cons_zero, List.set_cons_succ]
      refine AnyBut.ready (rs := [19]) (by kernel_rfl) (by simp) ?_
      refine ReadyBut.last (by rw [List.getElem?_toArray]; rfl) (fun K hK => ?_)
      have c9 : _ = _ := hHeld
      go_simp
      refine hK.out _ _ ?_
      clear hK K
      try simp only [Act.put, List.setIfInBounds_toArray, List.set_cons_zero, List.set_cons_succ]
      refine AnyBut.done (by kernel_rfl) ?_ _
      refine NoPanic.normal ?_
      go_wp2_with fail
      go_ret
      have hN := N9.out
      rw [Nat.zero_add] at hN
      exact HEND.out _ _ w9 hN

set_option maxRecDepth 100000 in
set_option maxHeartbeats 400000 in
theorem rclone_any {w : World} {S : Nat → Prop} {y : Nat} {L : List (V × V)} (h : IsRef w S y L) (hlen : L.length ≤ 4096) :
    Calls Try.prog 33 #[.pointer (some ⟨y, 0, none⟩)] w fun e w' => ∃ y2, e = .returned (.pointer (some ⟨y2, 0, none⟩)) ∧ IsRef w' (Grew (fun _ => False) w w') y2 L ∧ Below w.heap.size w w' := by
  obtain ⟨v, hb, ho, -⟩ := h
  have hy := hb.lt
  have c0 := hb.cell 0
  simp only [List.getElem?_toArray, List.getElem?_cons_zero] at c0
  obtain ⟨A, c, rfl, hr, -⟩ := Own.rd ho
  have HRD := Lib.hid hr
  clear hb ho hr
  have hmk : ∀ W : World, (Instr.buildSlice 39 0 #[]).run Try.prog W = .ok (.slice (some ⟨W.heap.size, 0, none⟩) 0 0) (W.alloc (.cells #[] 42)) := fun W => by kernel_rfl
  obtain ⟨i0, hi, hz0, hz1, hz2⟩ := info_parts info_P
  have HI := Lib.hid (And.intro hi (And.intro hz0 (And.intro hz1 hz2)))
  clear hi hz0 hz1 hz2
  go_enter Try.func33, Try.ntmps33
  go_wp2_with (at_builtin; refine wpList_append_Own _ rfl (.tmp 3) (.tmp 7) 39 rfl 42 i0 _ 6 64 Try.underlying39 HI.out.1 HI.out.2.1 HI.out.2.2.1 HI.out.2.2.2 rfl (.slice (some ⟨w.heap.size, 0, none⟩) 0 0) 0 [] rfl (NewO.empty 42 6 w).own A L.length c (pcs L) rfl (HRD.out.new (by exact (by repeat (first | exact Below.refl _ _ | assumption | refine Below.setCell ?_ (by first | (simp; done) | (simp; omega) | omega) _ | refine below_drewN ?_ _ | refine Below.drew ?_ | refine Below.alloc ?_ (by first | (simp; done) | (simp; omega) | omega) _)))) (pcs_oneCell L) (by omega) (by omega) ?_; intro v1 w1 hv hg ha; obtain ⟨A1, k1, rfl, -, -⟩ := Own.rd hv; have HN := Lib.hid ((NewO.empty 42 6 w).app hv hg ha); clear hv hg ha)
  go_ret
  have hN := HN.out
  rw [Nat.zero_add, List.nil_append] at hN
  have hz := hN.bel.size
  have hb : Below w1.heap.size w1 (w1.alloc (.cells #[.slice A1 L.length k1] 53)) := (by repeat (first | exact Below.refl _ _ | assumption | refine Below.setCell ?_ (by first | (simp; done) | (simp; omega) | omega) _ | refine below_drewN ?_ _ | refine Below.drew ?_ | refine Below.alloc ?_ (by first | (simp; done) | (simp; omega) | omega) _))
  refine ⟨w1.heap.size, rfl, ⟨_, Blk.new w1 53 _, Own.new hN.own hb, .inr ⟨hz, by simp⟩, fun b e => .inr ⟨hN.new b e, ?_⟩, fun i hi => ?_⟩, hN.bel.trans (hb.mono hz)⟩
  · have := Own.lt hN.own e
    simp; omega
  · rcases hi with h | h
    · exact h.elim
    · exact h.2
end Go.Proofs.Ytfdihmbmlhlkgaa
