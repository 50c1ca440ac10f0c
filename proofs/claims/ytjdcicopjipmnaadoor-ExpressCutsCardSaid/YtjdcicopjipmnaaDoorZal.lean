/- A subtree copied out: Sub. -/
import Derived.Test.YtjdcicopjipmnaaDoorZak
namespace Go.Proofs.YtjdcicopjipmnaaDoor
set_option maxRecDepth 100000
set_option maxHeartbeats 8000000
open Go.RowKit
set_option linter.unusedVariables false
set_option linter.unusedSimpArgs false
theorem RdTs.get {T : List NodeD} : ∀ {i : Nat} {l : List Int} {ks : List Tr}, RdTs T i l ks → ∀ p, p < ks.length → ∃ (j : Nat) (k : Tr), l[p]? = some (j : Int) ∧ ks[p]? = some k ∧ j < i ∧ RdTr T j k
 | _, _, _, .nil, p, hp => absurd hp (by simp)
 | _, _, _, .cons h1 h2 h3, 0, hp => ⟨_, _, rfl, rfl, h1, h2⟩
 | _, _, _, .cons h1 h2 h3, p + 1, hp => h3.get p (by simpa using hp)
theorem sizes_take {ks : List Tr} {p : Nat} {k : Tr} (h : ks[p]? = some k) : Tr.sizes (ks.take (p + 1)) = Tr.sizes (ks.take p) + Tr.size k := by
 rw [List.take_add_one, h, sizes_app]
 simp [Tr.sizes]
theorem sizes_le : ∀ (ks : List Tr) (p : Nat), Tr.sizes (ks.take p) ≤ Tr.sizes ks
 | [], p => by simp [Tr.sizes]
 | k :: ks, 0 => by simp [Tr.sizes]
 | k :: ks, p + 1 => by simp only [List.take_succ_cons, Tr.sizes]; have := sizes_le ks p; omega
theorem flats_take {ks : List Tr} {p : Nat} {k : Tr} (h : ks[p]? = some k) : Tr.flats 0 (ks.take (p + 1)) = Tr.flats 0 (ks.take p) ++ (Tr.flat 0 k).map (shK (Tr.sizes (ks.take p))) := by
 rw [List.take_add_one, h, flats_app, ← flat_sh]
 simp [Tr.flats]
theorem idxs_take {ks : List Tr} {p : Nat} {k : Tr} (h : ks[p]? = some k) : Tr.idxs 0 (ks.take (p + 1)) = Tr.idxs 0 (ks.take p) ++ [((Tr.sizes (ks.take p) + Tr.size k : Nat) : Int) - 1] := by
 rw [List.take_add_one, h, idxs_app]
 simp [Tr.idxs]
theorem flat_kid : ∀ (n : Nat) (e : Tr) (x : NodeD), x ∈ Tr.flat n e → ∀ y ∈ x.kids, 0 ≤ y ∧ y < ((n + Tr.size e : Nat) : Int) := by
 intro n e
 revert n
 refine Tr.rec (motive_1 := fun e => ∀ (n : Nat) (x : NodeD), x ∈ Tr.flat n e → ∀ y ∈ x.kids, 0 ≤ y ∧ y < ((n + Tr.size e : Nat) : Int)) (motive_2 := fun ks => ∀ (n : Nat) (x : NodeD), x ∈ Tr.flats n ks → ∀ y ∈ x.kids, 0 ≤ y ∧ y < ((n + Tr.sizes ks : Nat) : Int)) ?_ ?_ ?_ e
 ·intro op m s ks ih n x hx y hy
  simp only [Tr.flat, List.mem_append, List.mem_singleton] at hx
  rcases hx with hx | rfl
  ·have := ih n x hx y hy
   simp only [Tr.size]
   omega
  ·have := idxs_mem n ks y hy
   simp only [Tr.size]
   omega
 ·intro n x hx
  cases hx
 ·intro k ks ih1 ih2 n x hx y hy
  simp only [Tr.flats, List.mem_append] at hx
  simp only [Tr.sizes]
  rcases hx with hx | hx
  ·have := ih1 n x hx y hy
   omega
  ·have := ih2 _ x hx y hy
   omega
theorem OwnZ.cells {w : World} {b n c i : Nat} {Z : List NdS} {op a m : Int} {s : ByteArray} {ks : List Int} {A1 : Option Addr} {c1 : Nat} (h : OwnZ w (.slice (some ⟨b, 0, none⟩) n c) Z) (hn : Z.length = n) (hi : Z[i]? = some ⟨⟨op, a, s, m, ks⟩, A1, c1⟩) :
  b < w.heap.size ∧ w.cell? ⟨b, i * 5, none⟩ = some (.int .i64 op) ∧ w.cell? ⟨b, i * 5 + 1, none⟩ = some (.int .i64 a) ∧ w.cell? ⟨b, i * 5 + 2, none⟩ = some (.string s) ∧ w.cell? ⟨b, i * 5 + 3, none⟩ = some (.int .i64 m) ∧ w.cell? ⟨b, i * 5 + 4, none⟩ = some (.slice A1 ks.length c1) := by
 subst hn
 have hlt := (List.getElem?_eq_some_iff.1 hi).1
 have key : ∀ j, j < 5 → w.cell? ⟨b, i * 5 + j, none⟩ = (Z.flatMap NdS.cs)[i * 5 + j]? := fun j hj => (Own.set_ (j := i * 5 + j) h (by omega) (.int .i64 0)).1
 exact ⟨Own.lt h rfl, by rw [← Nat.add_zero (i * 5), key 0 (by decide)]; exact zflat_at hi 0 _ rfl, by rw [key 1 (by decide)]; exact zflat_at hi 1 _ rfl, by rw [key 2 (by decide)]; exact zflat_at hi 2 _ rfl, by rw [key 3 (by decide)]; exact zflat_at hi 3 _ rfl, by rw [key 4 (by decide)]; exact zflat_at hi 4 _ rfl⟩
theorem bel3 (w : World) (a b c : Obj) : Below w.heap.size w (((w.alloc a).alloc b).alloc c) := Below.alloc (Below.alloc (Below.alloc (Below.refl _ _) (Nat.le_refl _) _) (by simp) _) (by simp; omega) _
theorem fz0 (w : World) (cs : Array Value) : Fz (w.heap.size + 1) (((w.alloc (.cells cs 51)).alloc (.cells #[] 51)).alloc (.cells #[] 3)) (.slice (some ⟨w.heap.size + 1, 0, none⟩) 0 0) [] := by
 have h : OwnZ ((w.alloc (.cells cs 51)).alloc (.cells #[] 51)) (.slice (some ⟨(w.alloc (.cells cs 51)).heap.size, 0, none⟩) 0 0) [] := Own.made (t := 51) (sz := 5) (w.alloc (.cells cs 51)) #[] 0 (by decide) rfl
 rw [World.size_alloc] at h
 exact ⟨Own.new h (Below.alloc (Below.refl _ _) (Nat.le_refl _) _), (fun b e => by have e2 : w.heap.size + 1 = b := (by simpa [Value.ownBlock] using e); omega), fun z hz => by cases hz⟩
theorem own0 (w : World) (cs : Array Value) : OwnI (((w.alloc (.cells cs 51)).alloc (.cells #[] 51)).alloc (.cells #[] 3)) (.slice (some ⟨w.heap.size + 1 + 1, 0, none⟩) 0 0) [] := by
 have h : OwnI (((w.alloc (.cells cs 51)).alloc (.cells #[] 51)).alloc (.cells #[] 3)) (.slice (some ⟨((w.alloc (.cells cs 51)).alloc (.cells #[] 51)).heap.size, 0, none⟩) 0 0) [] := Own.made (t := 3) (sz := 1) ((w.alloc (.cells cs 51)).alloc (.cells #[] 51)) #[] 0 (by decide) rfl
 rw [World.size_alloc, World.size_alloc] at h
 exact h
theorem blk0 (w : World) (cs : Array Value) : Blk (((w.alloc (.cells cs 51)).alloc (.cells #[] 51)).alloc (.cells #[] 3)) w.heap.size 51 cs :=
 (Blk.new w 51 cs).bel (Below.alloc (Below.alloc (Below.refl _ _) (Nat.le_refl _) _) (by simp) _)
theorem idxs_len : ∀ (n : Nat) (ks : List Tr), (Tr.idxs n ks).length = ks.length
 | n, [] => rfl
 | n, k :: ks => by simp only [Tr.idxs, List.length_cons, idxs_len]
theorem bel2 (w : World) (a b : Obj) : Below w.heap.size w ((w.alloc a).alloc b) := Below.alloc (Below.alloc (Below.refl _ _) (Nat.le_refl _) _) (by simp) _
theorem own2 (w : World) (cs : Array Value) : OwnI ((w.alloc (.cells cs 51)).alloc (.cells #[] 3)) (.slice (some ⟨w.heap.size + 1, 0, none⟩) 0 0) [] := by
 have h : OwnI ((w.alloc (.cells cs 51)).alloc (.cells #[] 3)) (.slice (some ⟨(w.alloc (.cells cs 51)).heap.size, 0, none⟩) 0 0) [] := Own.made (t := 3) (sz := 1) (w.alloc (.cells cs 51)) #[] 0 (by decide) rfl
 rw [World.size_alloc] at h
 exact h
theorem blk2 (w : World) (cs : Array Value) : Blk ((w.alloc (.cells cs 51)).alloc (.cells #[] 3)) w.heap.size 51 cs :=
 (Blk.new w 51 cs).bel (Below.alloc (Below.refl _ _) (Nat.le_refl _) _)
theorem own_setc {w : World} {g j : Nat} {v u : Value} {xs : List Int} {cs : Array Value} (h : OwnI w v xs) (hb : Blk w g 51 cs) : OwnI (w.setCell ⟨g, j, none⟩ u) v xs :=
 h.keep fun b e => (Mod.setCell (S := (· = g)) (Mod.refl _ _) (fun _ => rfl) _).block b (Own.lt h e) fun e2 => own_blk_ne h hb (by decide) (by rw [e, e2])
theorem Fz.setc {B : Nat} {w : World} {g j : Nat} {v u : Value} {Z : List NdS} {cs : Array Value} (h : Fz B w v Z) (hb : Blk w g 51 cs) (hg : ∀ b, v.ownBlock = some b → b ≠ g) : Fz B (w.setCell ⟨g, j, none⟩ u) v Z :=
 ⟨h.own.keep fun b e => (Mod.setCell (S := (· = g)) (Mod.refl _ _) (fun _ => rfl) _).block b (Own.lt h.own e) (hg b e), h.new, fun z hz => ⟨own_setc (h.kid z hz).1 hb, (h.kid z hz).2⟩⟩
theorem below_modS {B : Nat} {S : Nat → Prop} {w w' : World} (hm : Mod S w w') (hB : B ≤ w.heap.size) (hS : ∀ k, k < B → ¬ S k) : Below B w w' := ⟨hm.os, hm.tape, hm.output, hm.size, fun k hk => hm.block k (by omega) (hS k hk)⟩
theorem below_setc {g : Nat} {w0 w : World} (h : Below g w0 w) (j : Nat) (u : Value) : Below g w0 (w.setCell ⟨g, j, none⟩ u) := Below.setCell h (Nat.le_refl _) u
theorem rd_node (w : World) (z : NdS) : Rd (w.alloc (.cells z.cs.toArray 51)) (some ⟨w.heap.size, 0, none⟩) 1 1 5 ([z].flatMap NdS.cs) := by rw [List.flatMap_singleton]; exact Rd.node
theorem set_step {l : List NodeD} {q : Nat} {x : NodeD} {f : NodeD → NodeD} (hx : l[q]? = some x) : ((l.take q).map f ++ l.drop q).set q (f x) = (l.take (q + 1)).map f ++ l.drop (q + 1) := by
 have hq := (List.getElem?_eq_some_iff.1 hx).1
 have h1 : l.drop q = x :: l.drop (q + 1) := by
  rw [List.drop_eq_getElem_cons hq, (List.getElem?_eq_some_iff.1 hx).2]
 rw [List.set_append_right _ _ (by rw [List.length_map, List.length_take]; omega), List.length_map, List.length_take, Nat.min_eq_left (Nat.le_of_lt hq), Nat.sub_self, h1, List.set_cons_zero, List.take_add_one, hx]
 simp
def SubP (e : Tr) (w : World) (x : Ending) (w' : World) : Prop :=
 ∃ (A1 : Option Addr) (c1 r : Nat) (Z : List NdS), x = .returned (.slice A1 r c1) ∧ Z.length = r ∧ (Z.map fun z => clr z.x) = Tr.flat 0 e ∧ Fz w.heap.size w' (.slice A1 r c1) Z ∧ Below w.heap.size w w'
theorem sub_step {T : List NodeD} {A : Option Addr} {m c i : Nat} (hm : T.length = m) (hm2 : m ≤ 549755813888) {x : NodeD} {ks : List Tr} (hx : T[i]? = some x) (hk : RdTs T i x.kids ks) (hsz : Tr.sizes ks + 1 ≤ 549755813888)
  (ih : ∀ j, j < i → ∀ e, RdTr T j e → Tr.size e ≤ 549755813888 → ∀ w, RowN (fun _ => False) w (.slice A m c) T → Calls Tryd.prog 32 #[.slice A m c, .int .i64 j] w (SubP e w))
  (w : World) (hT : RowN (fun _ => False) w (.slice A m c) T) : Calls Tryd.prog 32 #[.slice A m c, .int .i64 i] w (SubP (.mk x.op x.n x.s ks) w) := by
 obtain ⟨op, at0, s, n, kids⟩ := x
 unfold SubP
 have HT := qh hT
 have HX := qh hx
 have HK := qh hk
 have IH := qh ih
 have HS := qh hsz
 have hlen : i < m := by rw [← hm]; exact (List.getElem?_eq_some_iff.1 hx).1
 have hkl : kids.length ≤ 4398046511103 := hT.kl i _ hx
 obtain ⟨K, hK⟩ : ∃ K, kids.length = K := ⟨_, rfl⟩
 have HKl := qh hK
 have HKs : Hid (ks.length = K) := qh (by rw [← hK]; exact hk.len.symm)
 obtain ⟨b0, o0, A4, c4, rfl, hb0, x0, x1, x2, x3, x4, hr4⟩ := hT.nth hx
 rw [hK] at hkl x4 hr4
 have HR4 := qh hr4
 clear hT hx hk ih hsz hr4 hm hK
 go_enter Tryd.func32, Tryd.ntmps32
 go_upto_region 5 with fail
 have HF0 := qh (fz0 w #[.int .i64 op, .int .i64 at0, .string s, .int .i64 n, .slice A4 K c4])
 have HO0 := qh (own0 w #[.int .i64 op, .int .i64 at0, .string s, .int .i64 n, .slice A4 K c4])
 have HB0 := qh (bel3 w (.cells #[.int .i64 op, .int .i64 at0, .string s, .int .i64 n, .slice A4 K c4] 51) (.cells #[] 51) (.cells #[] 3))
 have HN0 := qh (blk0 w #[.int .i64 op, .int .i64 at0, .string s, .int .i64 n, .slice A4 K c4])
 go_loopw [6, 7, 8] (fun v6 v7 v8 wr => ∃ (p : Nat) (A6 A7 : Option Addr) (c6 c7 r6 : Nat) (Z6 : List NdS) (M : List Int), p ≤ K ∧ v8 = .int .i64 p ∧ v6 = .slice A6 r6 c6 ∧ v7 = .slice A7 M.length c7 ∧ Hid (Z6.length = r6) ∧ Hid ((Z6.map fun z => clr z.x) = Tr.flats 0 (ks.take p)) ∧ Hid (M = Tr.idxs 0 (ks.take p)) ∧ Hid (Fz (w.heap.size + 1) wr (.slice A6 r6 c6) Z6) ∧ Hid (OwnI wr (.slice A7 M.length c7) M) ∧ Hid (∀ b, (Value.slice A7 M.length c7).ownBlock = some b → w.heap.size ≤ b) ∧ Hid (∀ z ∈ Z6, ∀ b, z.v.ownBlock = some b → (Value.slice A7 M.length c7).ownBlock ≠ some b) ∧ Hid (Below w.heap.size w wr) ∧ Hid (Blk wr w.heap.size 51 #[.int .i64 op, .int .i64 at0, .string s, .int .i64 n, .slice A4 K c4])) (fun _ _ v8 _ => K - (intOf v8).toNat)
 case atStart => exact ⟨0, _, _, _, _, 0, [], [], Nat.zero_le _, rfl, rfl, rfl, qh rfl, qh rfl, qh rfl, HF0, HO0, qh (fun b e => by have e2 : w.heap.size + 1 + 1 = b := (by simpa [Value.ownBlock] using e); omega), qh (fun z hz => by cases hz), HB0, HN0⟩
 case round =>
  obtain ⟨p, A6, A7, c6, c7, r6, Z6, M, hp, rfl, rfl, rfl, HZl, HZm, HMe, HF6, HO7, HN7, HD7, HB, HBK⟩ := hrel
  clear HF0 HO0 HB0 HN0
  have g0 := HBK.out.cell 0
  have g1 := HBK.out.cell 1
  have g2 := HBK.out.cell 2
  have g3 := HBK.out.cell 3
  have g4 := HBK.out.cell 4
  have f4 := HBK.out.frozen 4
  have glt := HBK.out.lt
  simp only [GG] at g0 g1 g2 g3 g4
  have hr6 : r6 = Tr.sizes (ks.take p) := by
   have h1 := congrArg List.length HZm.out
   rw [List.length_map, HZl.out, flats_len] at h1
   exact h1
  have hr6s : r6 ≤ 549755813888 := by have h1 := sizes_le ks p; have h2 := HS.out; omega
  have HR6 := qh hr6
  clear hr6
  have hml : M.length ≤ 4398046511103 := by
   rw [HMe.out, idxs_len, List.length_take]
   omega
  by_cases hlt : p < K
  ·obtain ⟨j, k, hlj, hkk, hji, hrd⟩ := HK.out.get p (by rw [HKs.out]; exact hlt)
   have hszk : Tr.sizes (ks.take p) + Tr.size k ≤ 549755813888 := by have h1 := sizes_take hkk; have h2 := sizes_le ks (p + 1); have h3 := HS.out; omega
   have HSk := qh hszk
   have HKk := qh hkk
   have HRd := qh hrd
   obtain ⟨b4, o4, rfl, hb4, y4⟩ := (HR4.out.bel HB.out).kid hlj (by omega)
   clear hlj hszk hkk hrd
   have hjm : j < m := by omega
   go_upto_region 8 with (go_at_call 32; go_must (refine (IH.out j hji k HRd.out (by have := HSk.out; omega) wr (HT.out.belw HB.out)).mono ?_); rintro e w9 ⟨A9, c9, r9, Y, rfl, hY, hYm, hF9, hB9⟩; have HY := qh hY; have HYm := qh hYm; have HF9 := qh hF9; have HB9 := qh hB9; clear hY hYm hF9 hB9)
   obtain ⟨b9, rfl, -⟩ := HF9.out.own.at0 (by rw [← HY.out]; have h1 := congrArg List.length HYm.out; rw [List.length_map, flat_len] at h1; have h2 := size_pos k; omega)
   have hr9 : r9 = Tr.size k := by
    have h1 := congrArg List.length HYm.out
    rw [List.length_map, HY.out, flat_len] at h1
    exact h1
   have hr9s : r6 + r9 ≤ 549755813888 := by have h1 := HSk.out; have h2 := HR6.out; omega
   have HR9 := qh hr9
   clear hr9
   obtain ⟨W, hW⟩ : ∃ W, W = wr := ⟨_, rfl⟩
   subst hW
   clear g0 g1 g2 g3 g4 f4 glt y4 hb4
   go_upto_region 9 with fail
   go_loopw [10] (fun v10 wr => ∃ (q : Nat) (Y1 : List NdS), q ≤ r9 ∧ v10 = .int .i64 q ∧ Hid (Y1.length = r9) ∧ Hid ((Y1.map fun z => clr z.x) = ((Tr.flat 0 k).take q).map (shK r6) ++ (Tr.flat 0 k).drop q) ∧ Hid (Fz W.heap.size wr (.slice (some ⟨b9, 0, none⟩) r9 c9) Y1) ∧ Hid (Below W.heap.size W wr)) (fun v10 _ => r9 - (intOf v10).toNat)
   case atStart => exact ⟨0, Y, Nat.zero_le _, rfl, HY, qh (by rw [HYm.out]; rfl), HF9, HB9⟩
   case round =>
    obtain ⟨q, Y1, hq, rfl, HY1, HYm1, HF1, HB1⟩ := hrel
    clear HY HYm HF9 HB9
    by_cases hlq : q < r9
    ·obtain ⟨z, hz⟩ : ∃ z, Y1[q]? = some z := ⟨_, List.getElem?_eq_getElem (by rw [HY1.out]; exact hlq)⟩
     obtain ⟨⟨op1, at1, s1, n1, kids1⟩, A1, c1⟩ := z
     obtain ⟨hb9, z0, z1, z2, z3, z4⟩ := HF1.out.own.cells HY1.out hz
     have HZ := qh hz
     have hzk := HF1.out.kid _ (List.mem_of_getElem? hz)
     have HZk := qh hzk
     have hfq : (Tr.flat 0 k)[q]? = some (clr ⟨op1, at1, s1, n1, kids1⟩) := by
      have h1 : (Y1.map fun z => clr z.x)[q]? = some (clr ⟨op1, at1, s1, n1, kids1⟩) := by rw [List.getElem?_map, hz]; rfl
      rw [HYm1.out, List.getElem?_append_right (by rw [List.length_map, List.length_take]; omega), List.length_map, List.length_take, flat_len, ← HR9.out, Nat.min_eq_left hq, Nat.sub_self, List.getElem?_drop, Nat.add_zero] at h1
      exact h1
     have HFq := qh hfq
     have hkr : ∀ y ∈ kids1, 0 ≤ y ∧ y < ((r9 : Nat) : Int) := by
      have h2 := flat_kid 0 k _ (List.mem_of_getElem? hfq)
      rw [Nat.zero_add, ← HR9.out] at h2
      exact h2
     have HKr := qh hkr
     obtain ⟨L1, hL1⟩ : ∃ L1, kids1.length = L1 := ⟨_, rfl⟩
     rw [hL1] at z4
     have hL1b : L1 ≤ 4398046511103 := by rw [← hL1]; exact hzk.2.2
     have HL1 := qh hL1
     have HRk : Hid (Rd wr A1 L1 c1 1 (ics kids1)) := qh (by rw [← hL1]; obtain ⟨A', c', e, h1, -⟩ := Own.rd hzk.1; injection e with e1 e2 e3; subst e1 e3; exact h1)
     clear hz hzk hkr hL1 hfq
     go_upto_region 14 with fail
     obtain ⟨V, hV⟩ : ∃ V, V = wr := ⟨_, rfl⟩
     subst hV
     have HO12 := qh (own2 V #[.int .i64 op1, .int .i64 at1, .string s1, .int .i64 n1, .slice A1 L1 c1])
     have HB12 := qh (bel2 V (.cells #[.int .i64 op1, .int .i64 at1, .string s1, .int .i64 n1, .slice A1 L1 c1] 51) (.cells #[] 3))
     have HN12 := qh (blk2 V #[.int .i64 op1, .int .i64 at1, .string s1, .int .i64 n1, .slice A1 L1 c1])
     go_loopw [12, 13] (fun v12 v13 wr => ∃ (t : Nat) (A12 : Option Addr) (c12 : Nat) (M12 : List Int), t ≤ L1 ∧ v13 = .int .i64 t ∧ v12 = .slice A12 M12.length c12 ∧ Hid (M12 = (kids1.take t).map fun y => y + (r6 : Int)) ∧ Hid (OwnI wr (.slice A12 M12.length c12) M12) ∧ Hid (∀ b, (Value.slice A12 M12.length c12).ownBlock = some b → V.heap.size ≤ b) ∧ Hid (Below V.heap.size V wr) ∧ Hid (Blk wr V.heap.size 51 #[.int .i64 op1, .int .i64 at1, .string s1, .int .i64 n1, .slice A1 L1 c1])) (fun _ v13 _ => L1 - (intOf v13).toNat)
     case atStart => exact ⟨0, _, _, [], Nat.zero_le _, rfl, rfl, qh rfl, HO12, qh (fun b e => by have e2 : V.heap.size + 1 = b := (by simpa [Value.ownBlock] using e); omega), HB12, HN12⟩
     case round =>
      obtain ⟨t, A12, c12, M12, ht, rfl, rfl, HMe2, HO2, HN2, HB2, HBK2⟩ := hrel
      clear HO12 HB12 HN12
      have g0 := HBK2.out.cell 0
      have g1 := HBK2.out.cell 1
      have g2 := HBK2.out.cell 2
      have g3 := HBK2.out.cell 3
      have g4 := HBK2.out.cell 4
      have f4 := HBK2.out.frozen 4
      have glt := HBK2.out.lt
      simp only [GG] at g0 g1 g2 g3 g4
      have hml2 : M12.length = t := by rw [HMe2.out, List.length_map, List.length_take, HL1.out]; omega
      by_cases hlt3 : t < L1
      ·obtain ⟨y, hy⟩ : ∃ y, kids1[t]? = some y := ⟨_, List.getElem?_eq_getElem (by rw [HL1.out]; exact hlt3)⟩
       have hyr := HKr.out y (List.mem_of_getElem? hy)
       have hwr : wrap64 (y + (r6 : Int)) = y + (r6 : Int) := by unfold wrap64; omega
       obtain ⟨b5, o5, rfl, hb5, y5⟩ := (HRk.out.bel HB2.out).kid hy (by omega)
       have HYy := qh hy
       clear hy g0 g1 g2 g3 f4 z0 z1 z2 z3 z4
       go_wp2_with (at_builtin; go_must (refine wpList_appendN _ rfl _ _ rfl (.slice A12 M12.length c12) M12 rfl (OwnI.bel HO2.out (by exact bl1)) _ 1 1 [y + (r6 : Int)] rfl (Rd.intG rfl (y + (r6 : Int))) rfl (by first | omega | (simp; done) | (simp; omega)) ?_); intro v8 w8 ho8 hg8 hn8; generalize hG : M12 ++ [y + (r6 : Int)] = G at ho8; have HG8 : Hid (G = (kids1.take (t + 1)).map fun y => y + (r6 : Int)) := qh (by rw [← hG, List.take_add_one, HYy.out, HMe2.out]; simp); obtain ⟨A8, c8, e8, -, -⟩ := Own.rd ho8; subst e8; have HBK8 := qh ((HBK2.out.bel (Below.alloc (Below.refl _ _) (Nat.le_refl _) _)).grown hg8 fun e => own_blk_ne (OwnI.bel HO2.out (Below.alloc (Below.refl _ _) (Nat.le_refl _) (.cells #[.int .i64 (y + (r6 : Int))] 3))) (HBK2.out.bel (Below.alloc (Below.refl _ _) (Nat.le_refl _) (.cells #[.int .i64 (y + (r6 : Int))] 3))) (by decide) e.symm); have HB8 := qh ((HB2.out.trans (Below.alloc (Below.refl _ _) HB2.out.size _)).trans (grown_below hg8 (Nat.le_trans HB2.out.size (alloc_le _ _)) HN2.out)); have HN8 : Hid (∀ b, (Value.slice A8 G.length c8).ownBlock = some b → V.heap.size ≤ b) := qh (new_own HN2.out hn8 (Nat.le_trans HB2.out.size (alloc_le _ _))); have HO8 := qh ho8; clear hG ho8 hg8 hn8)
       go_round
       case rel => exact ⟨t + 1, A8, c8, G, by omega, by go_num, rfl, HG8, HO8, HN8, HB8, HBK8⟩
       case measure => simp [intOf]; omega
      ·obtain rfl : t = L1 := by omega
       have HMl := qh hml2
       have HM12 : Hid (M12 = kids1.map fun y => y + (r6 : Int)) := qh (by rw [HMe2.out, ← HL1.out, List.take_length])
       clear hml2 z0 z1 z2 z3 z4
       go_upto_region 18 with fail
       have HBK5 := qh (Blk.set_ (cs := #[.int .i64 op1, .int .i64 at1, .string s1, .int .i64 n1, .slice A1 t c1]) HBK2.out 4 (.slice A12 M12.length c12))
       have HB5 := qh (below_setc HB2.out 4 (.slice A12 M12.length c12))
       have HO5 := qh (own_setc (j := 4) (u := .slice A12 M12.length c12) HO2.out HBK2.out)
       clear g0 g1 g2 g3 g4 f4 glt
       generalize wr.setCell ⟨V.heap.size, 4, none⟩ (.slice A12 M12.length c12) = w5 at HBK5 HB5 HO5 ⊢
       have g0 := HBK5.out.cell 0
       have g1 := HBK5.out.cell 1
       have g2 := HBK5.out.cell 2
       have g3 := HBK5.out.cell 3
       have g4 := HBK5.out.cell 4
       have glt := HBK5.out.lt
       simp only [GG, Array.set!, Array.setIfInBounds, PP] at g0 g1 g2 g3 g4
       have HF5 := qh (HF1.out.bel HB5.out)
       go_wp2_with (refine wpList_storeNode _ rfl (.tmp 68) (.tmp 67) rfl b9 q r9 c9 Y1 HF5.out.own HY1.out hlq ⟨⟨op1, at1, s1, n1, M12⟩, A12, c12⟩ _ rfl rfl rfl ?_; intro w7 ho7 hm7; have HO7' := qh ho7; have HM7 := qh hm7; clear ho7 hm7)
       have hb9W : W.heap.size ≤ b9 := HF1.out.new b9 rfl
       have HF7 : Hid (Fz W.heap.size w7 _ _) := qh (HF5.out.stored (z := ⟨⟨op1, at1, s1, n1, M12⟩, A12, c12⟩) ⟨HO5.out, fun b e => Nat.le_trans HB1.out.size (HN2.out b e), by show M12.length ≤ _; rw [HMl.out]; exact hL1b⟩ HO7'.out HM7.out)
       have HB7 : Hid (Below W.heap.size W w7) := qh ((HB1.out.trans (HB5.out.mono HB1.out.size)).trans (below_modS HM7.out (Nat.le_trans HB1.out.size HB5.out.size) fun k hk e => by omega))
       go_round
       case rel => exact ⟨q + 1, Y1.set q ⟨⟨op1, at1, s1, n1, M12⟩, A12, c12⟩, by omega, by go_num, qh (by rw [List.length_set]; exact HY1.out), qh (by rw [List.map_set, HYm1.out, HM12.out]; exact set_step HFq.out), HF7, HB7⟩
       case measure => simp [intOf]; omega
    ·obtain rfl : q = r9 := by omega
     have HYm2 : Hid ((Y1.map fun z => clr z.x) = (Tr.flat 0 k).map (shK r6)) := qh (by rw [HYm1.out, List.take_of_length_le (by rw [flat_len, ← HR9.out]; exact Nat.le_refl _), List.drop_of_length_le (by rw [flat_len, ← HR9.out]; exact Nat.le_refl _), List.append_nil])
     have HF6w := qh (HF6.out.bel HB1.out)
     have HO7w := qh (OwnI.bel HO7.out HB1.out)
     have HBKw := qh (HBK.out.bel HB1.out)
     have HR1 : Hid (Rd wr (some ⟨b9, 0, none⟩) q c9 5 (Y1.flatMap NdS.cs)) := qh (by obtain ⟨A', c', e, h1, -⟩ := Own.rd HF1.out.own; injection e with e1 e2 e3; subst e1 e3; rw [HY1.out] at h1; exact h1)
     have HBw := qh (HB.out.trans (HB1.out.mono HB.out.size))
     have hgW : w.heap.size + 1 ≤ W.heap.size := HBK.out.lt
     have HGW := qh hgW
     have HD1 : Hid (∀ z ∈ Z6 ++ Y1, ∀ b, z.v.ownBlock = some b → (Value.slice A7 M.length c7).ownBlock ≠ some b) := qh (fun z hz b e e2 => by
      rcases List.mem_append.1 hz with hz | hz
      ·exact HD7.out z hz b e e2
      ·have h1 := (HF1.out.kid z hz).2.1 b e
       have h2 := Own.lt HO7.out e2
       omega)
     have hl7 : (Z6 ++ Y1).length = r6 + q := by rw [List.length_append, HZl.out, HY1.out]
     obtain ⟨rz, hrz⟩ : ∃ rz, rz = r6 + q := ⟨_, rfl⟩
     rw [← hrz] at hl7
     have HL7 := qh hl7
     have HRz := qh hrz
     have hrz1 : 1 ≤ rz ∧ rz ≤ 549755813888 := by have h1 := size_pos k; have h2 := HR9.out; omega
     have HM7 : Hid (((Z6 ++ Y1).map fun z => clr z.x) = Tr.flats 0 (ks.take (p + 1))) := qh (by rw [List.map_append, HZm.out, HYm2.out, flats_take HKk.out, ← HR6.out])
     have HMi : Hid (M ++ [(rz : Int) - 1] = Tr.idxs 0 (ks.take (p + 1))) := qh (by rw [HMe.out, idxs_take HKk.out, HRz.out, HR6.out, HR9.out])
     have hwr : wrap64 ((rz : Int) - 1) = (rz : Int) - 1 := by unfold wrap64; omega
     clear hl7 hrz hgW
     go_upto_region 20 with (at_builtin; go_must (refine wpList_appendZ _ rfl _ _ rfl (.slice A6 r6 c6) Z6 rfl HF6w.out.own (some ⟨b9, 0, none⟩) q c9 Y1 rfl HR1.out HY1.out (by rw [HZl.out]; omega) ?_); intro v6 w6 ho6 hg6 hn6; have HF7 := qh (HF6w.out.app (Y := Y1) (fun z hz => ⟨(HF1.out.kid z hz).1, fun b e => Nat.le_trans HGW.out ((HF1.out.kid z hz).2.1 b e), (HF1.out.kid z hz).2.2⟩) ho6 hg6 hn6 (Nat.le_trans HGW.out HB1.out.size)); have HO7x := qh (HO7w.out.keep fun b hb => hg6.block b (Own.lt HO7w.out hb) fun e => own_own_ne HF6w.out.own HO7w.out (by decide) e.symm hb); have HBKx := qh (HBKw.out.grown hg6 (fun e => by have := HF6w.out.new _ e.symm; omega)); have HBx := qh (HBw.out.trans (grown_below hg6 HBw.out.size fun b e => Nat.le_of_succ_le (HF6w.out.new b e))); obtain ⟨A8, c8, e8, -, -⟩ := Own.rd ho6; rw [HL7.out] at e8; subst e8; clear ho6 hg6 hn6)
     generalize Z6 ++ Y1 = Z7 at HF7 HD1 HL7 HM7
     go_wp2_with (at_builtin; go_must (refine wpList_appendN _ rfl _ _ rfl (.slice A7 M.length c7) M rfl (OwnI.bel HO7x.out (by exact bl1)) _ 1 1 [(rz : Int) - 1] rfl (Rd.intG rfl ((rz : Int) - 1)) rfl (by first | omega | (simp; done) | (simp; omega)) ?_); intro v8 w8 ho8 hg8 hn8; have HOA := qh (OwnI.bel HO7x.out (Below.alloc (Below.refl _ _) (Nat.le_refl _) (.cells #[.int .i64 ((rz : Int) - 1)] 3))); have HFA := qh (HF7.out.bel (Below.alloc (Below.refl _ _) (Nat.le_refl _) (.cells #[.int .i64 ((rz : Int) - 1)] 3))); have HF8 := qh (HFA.out.grownI HOA.out HD1.out hg8); have HBK8 := qh ((HBKx.out.bel (Below.alloc (Below.refl _ _) (Nat.le_refl _) (.cells #[.int .i64 ((rz : Int) - 1)] 3))).grown hg8 fun e => own_blk_ne HOA.out (HBKx.out.bel (Below.alloc (Below.refl _ _) (Nat.le_refl _) (.cells #[.int .i64 ((rz : Int) - 1)] 3))) (by decide) e.symm); generalize hG : M ++ [(rz : Int) - 1] = G at ho8 HMi; obtain ⟨A9, c10, e8, -, -⟩ := Own.rd ho8; subst e8; have HB8 := qh ((HBx.out.trans (Below.alloc (Below.refl _ _) HBx.out.size _)).trans (grown_below hg8 (Nat.le_trans HBx.out.size (alloc_le _ _)) HN7.out)); have HN8 : Hid (∀ b, (Value.slice A9 G.length c10).ownBlock = some b → w.heap.size ≤ b) := qh (new_own HN7.out hn8 (Nat.le_trans HBx.out.size (alloc_le _ _))); have HD8 : Hid (∀ z ∈ Z7, ∀ b, z.v.ownBlock = some b → (Value.slice A9 G.length c10).ownBlock ≠ some b) := qh (fun z hz b e e2 => (by rcases hn8 with h1 | h1 <;> rw [h1] at e2; exact HD1.out z hz b e e2; (have h2 := Own.lt (HFA.out.kid z hz).1 e; injection e2 with e2; omega))); have HO8 := qh ho8; clear hG ho8 hg8 hn8)
     go_round
     case rel => exact ⟨p + 1, A8, A9, c8, c10, rz, Z7, G, by omega, by go_num, rfl, rfl, HL7, HM7, HMi, HF8, HO8, HN8, HD8, HB8, HBK8⟩
     case measure => simp [intOf]; omega
  ·obtain rfl : p = K := by omega
   go_upto_region 22 with fail
   have HBK5 := qh (Blk.set_ (cs := #[.int .i64 op, .int .i64 at0, .string s, .int .i64 n, .slice A4 p c4]) HBK.out 4 (.slice A7 M.length c7))
   have HB5 := qh (below_setc HB.out 4 (.slice A7 M.length c7))
   have HO5 := qh (own_setc (j := 4) (u := .slice A7 M.length c7) HO7.out HBK.out)
   have HF5 := qh (HF6.out.setc (j := 4) (u := .slice A7 M.length c7) HBK.out (fun b e => by have := HF6.out.new b e; omega))
   clear g0 g1 g2 g3 g4 f4 glt
   generalize wr.setCell ⟨w.heap.size, 4, none⟩ (.slice A7 M.length c7) = w5 at HBK5 HB5 HO5 HF5 ⊢
   have g0 := HBK5.out.cell 0
   have g1 := HBK5.out.cell 1
   have g2 := HBK5.out.cell 2
   have g3 := HBK5.out.cell 3
   have g4 := HBK5.out.cell 4
   have glt := HBK5.out.lt
   simp only [GG, Array.set!, Array.setIfInBounds, PP] at g0 g1 g2 g3 g4
   go_wp2_with (at_builtin; go_must (refine wpList_appendZ _ rfl _ _ rfl (.slice A6 r6 c6) Z6 rfl (HF5.out.bel (by exact bl1)).own (some ⟨w5.heap.size, 0, none⟩) 1 1 [⟨⟨op, at0, s, n, M⟩, A7, c7⟩] rfl (rd_node w5 ⟨⟨op, at0, s, n, M⟩, A7, c7⟩) rfl (by rw [HZl.out]; omega) ?_); intro v8 w8 ho8 hg8 hn8; have HBA := qh (HB5.out.trans (Below.alloc (Below.refl _ _) HB5.out.size (.cells (NdS.cs ⟨⟨op, at0, s, n, M⟩, A7, c7⟩).toArray 51))); have HF8 := qh ((HF5.out.bel (Below.alloc (Below.refl _ _) (Nat.le_refl _) (.cells (NdS.cs ⟨⟨op, at0, s, n, M⟩, A7, c7⟩).toArray 51))).less (Nat.le_succ _) |>.app (Y := [⟨⟨op, at0, s, n, M⟩, A7, c7⟩]) (fun z hz => (by rw [List.mem_singleton.1 hz]; exact ⟨OwnI.bel HO5.out (Below.alloc (Below.refl _ _) (Nat.le_refl _) _), HN7.out, hml⟩)) ho8 hg8 hn8 HBA.out.size); have HB8 := qh (HBA.out.trans (grown_below hg8 HBA.out.size fun b e => Nat.le_of_succ_le (HF5.out.new b e))); obtain ⟨A8, c8, e8, -, -⟩ := Own.rd ho8; obtain ⟨r8, hr8⟩ : ∃ r8, (Z6 ++ [(⟨⟨op, at0, s, n, M⟩, A7, c7⟩ : NdS)]).length = r8 := ⟨_, rfl⟩; rw [hr8] at e8; subst e8; have HR8 := qh hr8; clear ho8 hg8 hn8 hr8)
   go_ret
   refine ⟨A8, c8, r8, Z6 ++ [⟨⟨op, at0, s, n, M⟩, A7, c7⟩], rfl, HR8.out, ?_, HF8.out, HB8.out⟩
   rw [List.map_append, HZm.out]
   simp only [Tr.flat, List.map_cons, List.map_nil]
   rw [List.take_of_length_le (by rw [HKs.out]; exact Nat.le_refl _)]
   have h1 := HMe.out
   rw [List.take_of_length_le (by rw [HKs.out]; exact Nat.le_refl _)] at h1
   rw [← h1]
   rfl
theorem sub_any {T : List NodeD} {A : Option Addr} {m c : Nat} (hm : T.length = m) (hm2 : m ≤ 549755813888) : ∀ (i : Nat) (e : Tr), RdTr T i e → Tr.size e ≤ 549755813888 → ∀ (w : World), RowN (fun _ => False) w (.slice A m c) T → Calls Tryd.prog 32 #[.slice A m c, .int .i64 i] w (SubP e w) := by
 intro i
 induction i using Nat.strongRecOn with
 | _ i ih =>
  intro e he hs w hT
  cases he with
  | mk hx hk => exact sub_step hm hm2 hx hk (by simpa only [Tr.size] using hs) ih w hT
end Go.Proofs.YtjdcicopjipmnaaDoor
