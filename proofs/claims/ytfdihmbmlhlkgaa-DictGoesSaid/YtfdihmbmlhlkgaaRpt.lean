/- The reference's Put, where the key may not be put, and where it is there. -/
import Derived.Test.YtfdihmbmlhlkgaaRge
namespace Go.Proofs.Ytfdihmbmlhlkgaa
open Go.RowKit
attribute [local go_sem high] guardV eqV neqV
attribute [local go_sem] V.v

theorem pcs_set3 (L : List (V × V)) (i : Nat) (k y z : V) (h : L[i]? = some (k, y)) :
    ((((pcs L).set (i * 6 + 3) (.int .i64 z.k)).set (i * 6 + 4) (.int .i64 z.n)).set (i * 6 + 5) (.string z.s)) = pcs (L.set i (k, z)) := by
  induction L generalizing i with
  | nil => simp at h
  | cons r rs ih =>
    cases i with
    | zero =>
      simp only [List.getElem?_cons_zero, Option.some.injEq] at h
      subst h
      simp [pcs_cons, pairCs]
    | succ i =>
      have := ih i (by simpa using h)
      have e3 : (i + 1) * 6 + 3 = i * 6 + 3 + 1 + 1 + 1 + 1 + 1 + 1 := by omega
      have e4 : (i + 1) * 6 + 4 = i * 6 + 4 + 1 + 1 + 1 + 1 + 1 + 1 := by omega
      have e5 : (i + 1) * 6 + 5 = i * 6 + 5 + 1 + 1 + 1 + 1 + 1 + 1 := by omega
      rw [List.set_cons_succ, pcs_cons, pcs_cons, e3, e4, e5, ← this]
      simp [pairCs]
theorem OwnP.frozen {w : World} {t : TypeId} {sz n m c b : Nat} {cs : List Value} (h : Own w t sz (.slice (some ⟨b, 0, none⟩) m c) n cs) (j : Nat) : w.frozen? ⟨b, j, none⟩ = false := by
  rcases h.2 with ⟨e, _⟩ | ⟨b', c', cur, e, hb, _⟩
  · cases e
  · simp only [Value.slice.injEq, Option.some.injEq, Addr.mk.injEq] at e
    obtain ⟨⟨rfl, _⟩, _⟩ := e
    simp [World.frozen?, hb]
theorem IsRef.lt {w : World} {S : Nat → Prop} {y : Nat} {L : List (V × V)} (h : IsRef w S y L) : ∀ i, S i → i < w.heap.size := by
  obtain ⟨_, _, _, _, _, h⟩ := h
  exact h
theorem IsRef.mono {w : World} {S T : Nat → Prop} {y : Nat} {L : List (V × V)} (h : IsRef w S y L) (hST : ∀ i, S i → T i) (hT : ∀ i, T i → i < w.heap.size) : IsRef w T y L := by
  obtain ⟨v, h1, h2, h3, h4, _⟩ := h
  exact ⟨v, h1, h2, hST _ h3, fun b e => hST _ (h4 b e), hT⟩
theorem IsRef.grew {w w' : World} {S : Nat → Prop} {y : Nat} {L : List (V × V)} (h : IsRef w' S y L) : IsRef w' (Grew S w w') y L := h.mono (fun _ hi => .inl hi) (fun _ hi => hi.elim (fun h' => h.lt _ h') (fun h' => h'.2))
theorem box2 (w : World) (xs ys : Array Value) : Blk ((w.alloc (.cells xs 24)).alloc (.cells ys 24)) w.heap.size 24 xs ∧ Blk ((w.alloc (.cells xs 24)).alloc (.cells ys 24)) (w.heap.size + 1) 24 ys := by
  refine ⟨(Blk.new w 24 xs).alloc _, ?_⟩
  have hh := Blk.new (w.alloc (.cells xs 24)) 24 ys
  rw [World.size_alloc] at hh
  exact hh

set_option maxRecDepth 100000 in
set_option maxHeartbeats 1000000 in
theorem rput_no {w : World} {S : Nat → Prop} {y : Nat} {L : List (V × V)} (h : IsRef w S y L) (x z : V) (hn : L.length ≤ 100000) (hno : findL L x = none) (hk : isKey x = false ∨ 4096 ≤ L.length) :
    Calls Try.prog 28 #[.pointer (some ⟨y, 0, none⟩), .agg #[.int .i64 x.k, .int .i64 x.n, .string x.s], .agg #[.int .i64 z.k, .int .i64 z.n, .string z.s]] w fun e w' => e = .returned (.bool false) ∧ Below w.heap.size w w' := by
  have HR := Lib.hid h
  obtain ⟨v, hb, ho, -⟩ := h
  have hy := hb.lt
  have c0 := hb.cell 0
  simp only [List.getElem?_toArray, List.getElem?_cons_zero] at c0
  obtain ⟨A, c, rfl, -, -⟩ := Own.rd ho
  clear hb ho
  obtain ⟨k, n, s⟩ := x
  obtain ⟨k', n', s'⟩ := z
  have HX := Lib.hid (box2 w #[.int .i64 k, .int .i64 n, .string s] #[.int .i64 k', .int .i64 n', .string s']).1
  have HN := Lib.hid hno
  have HK := Lib.hid hk
  clear hno hk
  go_enter Try.func28, Try.ntmps28
  go_wp2_with fail
  refine (rat_any (HR.out.new (by exact (by repeat (first | exact Below.refl _ _ | assumption | refine Below.setCell ?_ (by first | (simp; done) | (simp; omega) | omega) _ | refine below_drewN ?_ _ | refine Below.drew ?_ | refine Below.alloc ?_ (by first | (simp; done) | (simp; omega) | omega) _)))) ⟨k, n, s⟩ hn).mono ?_
  rintro e w1 ⟨i, rfl, hz, hb1⟩
  have hbw : Below w.heap.size w w1 := Below.trans (by exact (by repeat (first | exact Below.refl _ _ | assumption | refine Below.setCell ?_ (by first | (simp; done) | (simp; omega) | omega) _ | refine below_drewN ?_ _ | refine Below.drew ?_ | refine Below.alloc ?_ (by first | (simp; done) | (simp; omega) | omega) _))) (hb1.mono (by simp; omega))
  have cg := (hbw.cell (p := ⟨y, 0, none⟩) hy).trans c0
  have hsz : w.heap.size + 1 < w1.heap.size := by have := hb1.size; simp at this; omega
  have hx := HX.out.new' hb1
  have x0 := hx.cell 0
  have x1 := hx.cell 1
  have x2 := hx.cell 2
  simp only [List.getElem?_toArray, List.getElem?_cons_zero, List.getElem?_cons_succ] at x0 x1 x2
  have HBW := Lib.hid hbw
  rcases hz.cases with ⟨rfl, _⟩ | ⟨j, p, rfl, _, _, _, hf⟩
  · clear hz hb1 hx hbw HX
    cases hky : isKey ⟨k, n, s⟩ with
    | false =>
      have HKY := Lib.hid hky
      clear hky
      go_wp2_with (go_at_call 26; refine (rkey_any k n s _).mono ?_; rintro e w2 ⟨rfl, hb2⟩; rw [HKY.out]; have HB2 := Lib.hid (HBW.out.trans (hb2.mono HBW.out.size)); clear hb2)
      go_ret
      exact ⟨rfl, HB2.out⟩
    | true =>
      have HKY := Lib.hid hky
      have hfull : 4096 ≤ L.length := by
        rcases HK.out with h' | h'
        · rw [hky] at h'; cases h'
        · exact h'
      clear hky
      go_wp2_with (go_at_call 26; refine (rkey_any k n s _).mono ?_; rintro e w2 ⟨rfl, hb2⟩; rw [HKY.out]; have hb3 := HBW.out.trans (hb2.mono HBW.out.size); have cg2 := (hb3.cell (p := ⟨y, 0, none⟩) hy).trans c0; have hy2 : y < w2.heap.size := Nat.lt_of_lt_of_le hy hb3.size; have HB2 := Lib.hid hb3; clear hb2 hb3)
      go_ret
      exact ⟨rfl, HB2.out⟩
  · rw [HN.out] at hf
    cases hf

set_option maxRecDepth 100000 in
set_option maxHeartbeats 1000000 in
theorem rput_there {w : World} {S : Nat → Prop} {y : Nat} {L : List (V × V)} (h : IsRef w S y L) (x z : V) (hn : L.length ≤ 100000) (hL : Keyed L) (hk : isKey x = true) (hyes : (findL L x).isSome = true) :
    Calls Try.prog 28 #[.pointer (some ⟨y, 0, none⟩), .agg #[.int .i64 x.k, .int .i64 x.n, .string x.s], .agg #[.int .i64 z.k, .int .i64 z.n, .string z.s]] w fun e w' => e = .returned (.bool true) ∧ IsRef w' S y (putL L x z) ∧ Mod S w w' := by
  have HR := Lib.hid h
  obtain ⟨v, hb, ho, hS1, hS2, hS3⟩ := h
  have hy := hb.lt
  have c0 := hb.cell 0
  simp only [List.getElem?_toArray, List.getElem?_cons_zero] at c0
  have HB := Lib.hid hb
  have HO := Lib.hid ho
  have HS := Lib.hid (And.intro hS1 (And.intro hS2 hS3))
  clear hb ho hS1 hS2 hS3
  obtain ⟨k, n, s⟩ := x
  obtain ⟨k', n', s'⟩ := z
  have HX := Lib.hid (box2 w #[.int .i64 k, .int .i64 n, .string s] #[.int .i64 k', .int .i64 n', .string s'])
  have HN := Lib.hid hyes
  have HK := Lib.hid hk
  have HL := Lib.hid hL
  clear hyes hk hL
  go_enter Try.func28, Try.ntmps28
  go_wp2_with fail
  refine (rat_any (HR.out.new (by exact (by repeat (first | exact Below.refl _ _ | assumption | refine Below.setCell ?_ (by first | (simp; done) | (simp; omega) | omega) _ | refine below_drewN ?_ _ | refine Below.drew ?_ | refine Below.alloc ?_ (by first | (simp; done) | (simp; omega) | omega) _)))) ⟨k, n, s⟩ hn).mono ?_
  rintro e w1 ⟨i, rfl, hz, hb1⟩
  have hbw : Below w.heap.size w w1 := Below.trans (by exact (by repeat (first | exact Below.refl _ _ | assumption | refine Below.setCell ?_ (by first | (simp; done) | (simp; omega) | omega) _ | refine below_drewN ?_ _ | refine Below.drew ?_ | refine Below.alloc ?_ (by first | (simp; done) | (simp; omega) | omega) _))) (hb1.mono (by simp; omega))
  have hsz : w.heap.size + 1 < w1.heap.size := by have := hb1.size; simp at this; omega
  have hx := HX.out.1.new' hb1
  have x0 := hx.cell 0
  have x1 := hx.cell 1
  have x2 := hx.cell 2
  simp only [List.getElem?_toArray, List.getElem?_cons_zero, List.getElem?_cons_succ] at x0 x1 x2
  rcases hz.cases with ⟨rfl, hf⟩ | ⟨i, p, rfl, hil, hp, hpx, _⟩
  · have := HN.out
    rw [hf] at this
    cases this
  · obtain ⟨pk, ⟨k2, n2, s2⟩⟩ := p
    obtain rfl : pk = V.mk k n s := hpx
    have HP := Lib.hid hp
    have HBW := Lib.hid hbw
    have HY := Lib.hid (HX.out.2.new' hb1)
    clear hz hb1 hx hbw hp HX
    go_wp2_with (go_at_call 26; refine (rkey_any k n s _).mono ?_; rintro e W ⟨rfl, hb2⟩; rw [HK.out]; have HB2 := Lib.hid (HBW.out.trans (hb2.mono HBW.out.size)); have HBx := Lib.hid (HY.out.new' hb2); clear hb2)
    obtain ⟨b, c, rfl, hbl, hc⟩ := ownP_at (Own.new HO.out HB2.out) HP.out
    have z3 := hc 3 (.int .i64 k2) rfl
    have z4 := hc 4 (.int .i64 n2) rfl
    have z5 := hc 5 (.string s2) rfl
    have g3 := OwnP.frozen (Own.new HO.out HB2.out) (i * 6 + 3)
    have g4 := OwnP.frozen (Own.new HO.out HB2.out) (i * 6 + 4)
    have g5 := OwnP.frozen (Own.new HO.out HB2.out) (i * 6 + 5)
    have cg := (HB2.out.cell (p := ⟨y, 0, none⟩) hy).trans c0
    have x0 := HBx.out.cell 0
    have x1 := HBx.out.cell 1
    have x2 := HBx.out.cell 2
    simp only [List.getElem?_toArray, List.getElem?_cons_zero, List.getElem?_cons_succ] at x0 x1 x2
    have hyb : ¬ y = b := fun e => own_blk_ne HO.out HB.out (by decide) (by rw [e]; rfl)
    have hb0 : b < w.heap.size := Own.lt HO.out rfl
    have hwb : ¬ w.heap.size + 1 = b := by omega
    have hyW : y < W.heap.size := Nat.lt_of_lt_of_le hy HB2.out.size
    have hsW := HBx.out.lt
    have hi0 : (0 : Int) ≤ (i : Int) := by omega
    have hi1 : (i : Int) < (L.length : Int) := by omega
    have HK0 : Hid (∀ (q p1 p2 p3 : Nat) (u1 u2 u3 : Value), (fun w' => w'.cell? ⟨y, 0, none⟩ = some (.slice (some ⟨b, 0, none⟩) L.length c) ∧ w'.cell? ⟨w.heap.size + 1, 0, none⟩ = some (.int .i64 k') ∧ w'.cell? ⟨w.heap.size + 1, 1, none⟩ = some (.int .i64 n') ∧ w'.cell? ⟨w.heap.size + 1, 2, none⟩ = some (.string s')) ((((W.drewN q).setCell ⟨b, p1, none⟩ u1).setCell ⟨b, p2, none⟩ u2).setCell ⟨b, p3, none⟩ u3)) := by
      intro q p1 p2 p3 u1 u2 u3
      have far : ∀ (W : World) (p q d : Nat) (u : Value), ¬ d = b → (W.setCell ⟨b, p, none⟩ u).cell? ⟨d, q, none⟩ = W.cell? ⟨d, q, none⟩ := fun W p q d u hd => World.cell?_of_block (Below.heap_setCell W ⟨b, p, none⟩ u d (fun e => hd e))
      refine ⟨?_, ?_, ?_, ?_⟩
      · rw [far _ _ _ _ _ hyb, far _ _ _ _ _ hyb, far _ _ _ _ _ hyb]; exact cg
      · rw [far _ _ _ _ _ hwb, far _ _ _ _ _ hwb, far _ _ _ _ _ hwb]; exact x0
      · rw [far _ _ _ _ _ hwb, far _ _ _ _ _ hwb, far _ _ _ _ _ hwb]; exact x1
      · rw [far _ _ _ _ _ hwb, far _ _ _ _ _ hwb, far _ _ _ _ _ hwb]; exact x2
    clear hc c0
    go_wp2_with fail
    go_region_held3 (fun w' => w'.cell? ⟨y, 0, none⟩ = some (.slice (some ⟨b, 0, none⟩) L.length c) ∧ w'.cell? ⟨w.heap.size + 1, 0, none⟩ = some (.int .i64 k') ∧ w'.cell? ⟨w.heap.size + 1, 1, none⟩ = some (.int .i64 n') ∧ w'.cell? ⟨w.heap.size + 1, 2, none⟩ = some (.string s')) (first | exact HK0.out 1 _ _ _ _ _ _ | go_keep)
      (fail)
    go_wp2_with fail
    go_ret
    obtain ⟨s1', s2', s3'⟩ := HS.out
    have o1 := ((Own.new HO.out HB2.out).set_ (j := i * 6 + 3) (by omega) (.int .i64 k')).2.2
    have o2 := (o1.set_ (j := i * 6 + 4) (by omega) (.int .i64 n')).2.2
    have o3 := (o2.set_ (j := i * 6 + 5) (by omega) (.string s')).2.2
    rw [pcs_set3 L i ⟨k, n, s⟩ _ ⟨k', n', s'⟩ HP.out] at o3
    have mb : Mod (· = b) w (((W.setCell ⟨b, i * 6 + 3, none⟩ (.int .i64 k')).setCell ⟨b, i * 6 + 4, none⟩ (.int .i64 n')).setCell ⟨b, i * 6 + 5, none⟩ (.string s')) :=
      Mod.setCell (S := (· = b)) (p := ⟨b, i * 6 + 5, none⟩) (Mod.setCell (S := (· = b)) (p := ⟨b, i * 6 + 4, none⟩) (Mod.setCell (S := (· = b)) (p := ⟨b, i * 6 + 3, none⟩) (Mod.new HB2.out) (fun _ => rfl) _) (fun _ => rfl) _) (fun _ => rfl) _
    have md := mb.drew
    refine ⟨rfl, ⟨.slice (some ⟨b, 0, none⟩) L.length c, ?_, ?_, s1', s2', fun j hj => Nat.lt_of_lt_of_le (s3' j hj) md.size⟩, md.mono fun j _ e => by subst e; exact s2' _ rfl⟩
    · exact HB.out.mod md hyb
    · rw [HL.out.putL HP.out, List.length_set]
      exact o3
end Go.Proofs.Ytfdihmbmlhlkgaa
