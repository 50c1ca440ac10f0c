/- The maker's next, and add. The maker: what add leaves, by where its kids lie; texts that are picked; name, global. The maker: two, row. The nodes of a tree that are expressions: what Exprs answers. Rows of nodes that are copied out of a tree: how they lie, grow, are stored into. -/
import Derived.Test.YtjdcicopjipmnaaDoorZaj
namespace Go.Proofs.YtjdcicopjipmnaaDoor
set_option maxRecDepth 100000
set_option maxHeartbeats 8000000
section
open Go.RowKit
set_option linter.unusedVariables false
set_option linter.unusedSimpArgs false
theorem next_any {B mb at_ : Nat} {F : Nat → Prop} {S : List Int} {T : List NodeD} {w : World} (h : Mk B mb F S at_ T w) {n : Int} (hn : 0 < n) (hn2 : n ≤ 1000) : Calls Tryd.prog 46 #[.pointer (some ⟨mb, 0, none⟩), .int .i64 n] w fun e w' => e = .returned (.int .i64 (nextV S at_ n)) ∧ Mk B mb F S (nextA S at_) T w' ∧ Kp B mb w w' := by
 obtain ⟨A, sn, c, v, hb, hr, hl, hA, hv, hT⟩ := h.m
 have H := qh h
 have HB := qh hb
 have HR := qh hr
 have c0 := hb.cell 0
 have c1 := hb.cell 1
 have f1 := hb.frozen 1
 have hlt := hb.lt
 simp only [GG] at c0 c1
 have hle := h.at_
 have hsl := h.sl
 rw [hl] at hle hsl
 have HL := qh hl
 have HA := qh hA
 have HV := qh hv
 have HT := qh hT
 clear h hb hr hl hA hv hT
 by_cases hlt2 : at_ < sn
 ·obtain ⟨x, hx⟩ : ∃ x, S[at_]? = some x := ⟨_, List.getElem?_eq_getElem (by have := HL.out; omega)⟩
  obtain ⟨b, o, rfl, hb5, p0⟩ := HR.out.kid hx (by omega)
  have hxr := H.out.sr x (List.mem_of_getElem? hx)
  have hx1 : -n < Int.tmod x n ∧ Int.tmod x n < n := by
   have h1 := Int.tmod_lt_of_pos (-x) hn
   rw [Int.neg_tmod] at h1
   have h2 := Int.tmod_lt_of_pos x hn
   omega
  have HX := qh hx
  clear hx
  have hq : wrap64 ((at_ : Int) + 1) = (at_ : Int) + 1 := by unfold wrap64; omega
  go_enter Tryd.func46, Tryd.ntmps46
  go_wp2_with fail
  go_quiet (fail)
  go_wp2_with fail
  go_quiet (fail)
  go_wp2_with fail
  go_ret
  refine ⟨by unfold nextV; rw [HX.out]; rfl, ?_⟩
  refine H.out.turn (at' := nextA S at_) (Mod.setCell (S := (· = mb)) (Mod.drewN (Mod.refl _ _) _) (fun _ => rfl) _) (by have := HL.out; unfold nextA; split <;> omega) fun A n c v hb => ?_
  have e : ((at_ : Int) + 1) = ((nextA S at_ : Nat) : Int) := by unfold nextA; rw [if_pos (by have := HL.out; omega)]; rfl
  rw [e]
  exact Blk.set_ (cs := #[.slice A n c, .int .i64 at_, v, .int .i64 (160 - (T.length : Int))]) hb 1 _
 ·obtain rfl : at_ = sn := by omega
  go_enter Tryd.func46, Tryd.ntmps46
  go_wp2_with fail
  go_quiet (fail)
  go_wp2_with fail
  go_ret
  refine ⟨by unfold nextV; rw [List.getElem?_eq_none (by have := HL.out; omega)]; rfl, ?_⟩
  exact H.out.turn (at' := nextA S at_) (Mod.drewN (Mod.refl _ _) _) (by have := HL.out; unfold nextA; split <;> omega) fun A n c v hb => by
   have e : nextA S at_ = at_ := by unfold nextA; rw [if_neg (by have := HL.out; omega)]
   rw [e]
   exact hb
section
variable {ops : Array Oper} {rest : List Oper} {o : Oper} {a : Act} {Q : Exit → Act → World → Prop}
theorem step_appendN (w : World) {K : Act → World → Prop} {E : Prop} (hgd : o.guard = none) (s x : Operand) (ho : o.op = .call { callee := .builtin .append, args := #[s, x], argTypes := #[22, 22] })
  (v : Value) (xs : List Int) (hs : a.eval s = v) (hown : OwnI w v xs) (A : Option Addr) (m c : Nat) (ys : List Int) (hx : a.eval x = .slice A m c) (hr : Rd w A m c 1 (ics ys)) (hm : ys.length = m) (hbound : xs.length + m ≤ 4398046511104)
  (h : ∀ v' w', OwnI w' v' (xs ++ ys) → w.grownBy w' v.ownBlock → (v'.ownBlock = v.ownBlock ∨ v'.ownBlock = some w.heap.size) → K (a.put o.dst v') w') :
  if Region.wanted o (yielded ops a.tmps) = true then Oper.wp Tryd.prog o a w K Q else E := by
 obtain ⟨i0, hi, hz0, hz1, hz2⟩ := info_parts info_Int
 refine step_append_Own w hgd s x _ ho _ i0 _ 1 8 Tryd.underlying22 hi hz0 hz1 hz2 rfl v xs.length (ics xs) hs hown A m c (ics ys) hx hr (ics_oneCell ys) (by omega) (by omega) (fun v' w' h1 h2 h3 => h v' w' ?_ h2 h3)
 unfold OwnI
 rw [List.length_append, ics_append, hm]
 exact h1
end
theorem alloc_le (w : World) (o : Obj) : w.heap.size ≤ (w.alloc o).heap.size := by rw [World.size_alloc]; omega
theorem new_F {F : Nat → Prop} {w w1 : World} (hF : ∀ k, F k → k < w.heap.size) (hs : w1.heap.size = w.heap.size) {v : Value} {m : Nat} (hn : v.ownBlock = (Value.slice (some ⟨w1.heap.size, 0, none⟩) 0 0).ownBlock ∨ v.ownBlock = some m) (hm : w1.heap.size ≤ m) : ∀ b, v.ownBlock = some b → ¬ F b := fun b e hf => by
 have h1 := hF b hf
 rcases hn with h3 | h3 <;> rw [h3] at e
 ·have e2 : w1.heap.size = b := by simpa [Value.ownBlock] using e
  omega
 ·injection e with e
  omega
theorem madd_fin {B mb at_ n c : Nat} {F : Nat → Prop} {S : List Int} {T : List NodeD} {w w1 W w7 : World} {A : Option Addr} {v v7 : Value} {Z : List NdS} {z : NdS} (h : Mk B mb F S at_ T w)
  (hb : Blk w mb 87 #[.slice A n c, .int .i64 at_, v, .int .i64 (160 - (T.length : Int))]) (hr : Rd w A n c 1 (ics S)) (hl : S.length = n) (hA : ∀ b o, A = some ⟨b, o, none⟩ → b < B) (hv : ∀ g, v.ownBlock = some g → B ≤ g)
  (hZ : Z.map (·.x) = T) (hO : Own w 51 5 v Z.length (Z.flatMap NdS.cs)) (hK : ∀ z ∈ Z, OwnI w z.v z.x.kids ∧ (∀ b, z.v.ownBlock = some b → ¬ F b) ∧ z.x.kids.length ≤ 4398046511103)
  (hw1 : w1 = w.setCell ⟨mb, 3, none⟩ (.int .i64 (160 - (T.length : Int) - 1))) (hW : Below w1.heap.size w1 W) (hz : OwnI W z.v z.x.kids) (hzF : ∀ b, z.v.ownBlock = some b → ¬ F b) (hzl : z.x.kids.length ≤ 4398046511103)
  (h7 : Own w7 51 5 v7 (Z ++ [z]).length ((Z ++ [z]).flatMap NdS.cs)) (hg : W.grownBy w7 v.ownBlock) (hn : v7.ownBlock = v.ownBlock ∨ v7.ownBlock = some W.heap.size) (hgood : GoodT (T ++ [z.x])) (hcap : T.length + 1 ≤ 549755813888) {w9 : World} (h9 : w9.heap = (w7.setCell ⟨mb, 2, none⟩ v7).heap) (h9o : w9.os = w7.os ∧ w9.tape = w7.tape ∧ w9.output = w7.output) :
  Mk B mb F S at_ (T ++ [z.x]) w9 ∧ Kp B mb w w9 := by
 have hs1 : w1.heap.size = w.heap.size := by rw [hw1]; simp
 have hb1 : Blk w1 mb 87 #[.slice A n c, .int .i64 at_, v, .int .i64 (160 - (T.length : Int) - 1)] := by
  rw [hw1]
  exact Blk.set_ (cs := #[.slice A n c, .int .i64 at_, v, .int .i64 (160 - (T.length : Int))]) hb 3 _
 have hk1 : ∀ k, k ≠ mb → w1.heap[k]? = w.heap[k]? := fun k hk => by rw [hw1]; exact Below.heap_setCell w ⟨mb, 3, none⟩ _ k hk
 have hkW : ∀ k, k < w.heap.size → k ≠ mb → W.heap[k]? = w.heap[k]? := fun k hk hne => (hW.block k (by omega)).trans (hk1 k hne)
 have hsW := hW.size
 have hne : v.ownBlock ≠ some mb := own_blk_ne hO hb (by decide)
 have hk7 : ∀ k, k < w.heap.size → k ≠ mb → v.ownBlock ≠ some k → w7.heap[k]? = w.heap[k]? := fun k hk h1 h2 => (hg.block k (by omega) (fun e => h2 e.symm)).trans (hkW k hk h1)
 have hk9 : ∀ k, k ≠ mb → w9.heap[k]? = w7.heap[k]? := fun k hk => by rw [h9]; exact Below.heap_setCell w7 ⟨mb, 2, none⟩ _ k hk
 have hs9 : w9.heap.size = w7.heap.size := by rw [h9]; simp
 have hb7 : Blk w7 mb 87 #[.slice A n c, .int .i64 at_, v, .int .i64 (160 - (T.length : Int) - 1)] := (hb1.bel hW).grown hg (fun e => hne e.symm)
 have hb9 : Blk w9 mb 87 #[.slice A n c, .int .i64 at_, v7, .int .i64 (160 - ((T ++ [z.x]).length : Int))] := by
  have h8 := Blk.set_ (cs := #[.slice A n c, .int .i64 at_, v, .int .i64 (160 - (T.length : Int) - 1)]) hb7 2 v7
  have e : (160 - ((T ++ [z.x]).length : Int)) = 160 - (T.length : Int) - 1 := by rw [List.length_append]; simp; omega
  rw [e]
  unfold Blk at h8 ⊢
  rw [h9, h8]
  rfl
 have hgs := hg.size
 have hOW : Own W 51 5 v Z.length (Z.flatMap NdS.cs) := hO.keep fun b e => hkW b (hO.lt e) (fun e2 => hne (e2 ▸ e))
 have kidW : ∀ {y : Value} {xs : List Int}, OwnI W y xs → OwnI w9 y xs := by
  intro y xs hy
  unfold OwnI at hy ⊢
  refine Own.keep (w := w7) (Own.keep hy fun b hb => hg.block b (hy.lt hb) fun e => ?_) fun b hb2 => hk9 b ?_
  ·exact own_own_ne hy hOW (by decide) hb e.symm
  ·rintro rfl
   exact own_blk_ne hy (hb1.bel hW) (by decide) hb2
 have kid : ∀ {y : Value} {xs : List Int}, OwnI w y xs → OwnI w9 y xs := by
  intro y xs hy
  refine kidW (Own.keep hy fun b hb2 => hkW b (hy.lt hb2) ?_)
  rintro rfl
  exact own_blk_ne hy hb (by decide) hb2
 have hlo : ∀ k, k < B → w9.heap[k]? = w.heap[k]? := fun k hk => by
  have h1 := h.wB
  have h2 := h.hB
  exact (hk9 k (by omega)).trans (hk7 k (by omega) (by omega) (fun e => by have := hv k e; omega))
 refine ⟨⟨h.hB, by have := h.wB; omega, ⟨A, n, c, v7, hb9, hr.keep (by omega) (fun b o e hb => hlo b (hA b o e)), hl, hA, fun g hg7 => ?_, Z ++ [z], by rw [List.map_append, hZ]; rfl, ?_, fun y hy => ?_⟩, h.at_, h.sl, h.sr, hgood, by rw [List.length_append]; exact hcap, fun k hk => by have := h.fl k hk; omega⟩, ?_⟩
 ·rcases hn with e | e
  ·exact hv g (e ▸ hg7)
  ·rw [e] at hg7
   injection hg7 with hg7
   have := h.wB
   omega
 ·refine Own.keep h7 fun b hb2 => hk9 b ?_
  rintro rfl
  exact own_blk_ne h7 hb7 (by decide) hb2
 ·rcases List.mem_append.1 hy with hy | hy
  ·obtain ⟨h1, h2, h3⟩ := hK y hy
   exact ⟨kid h1, h2, h3⟩
  ·rw [List.mem_singleton.1 hy]
   exact ⟨kidW hz, hzF, hzl⟩
 ·refine ⟨?_, ?_, ?_, by omega, fun k hk hnE hc => ?_⟩
  ·rw [h9o.1, hg.os, hW.os, hw1]; rfl
  ·rw [h9o.2.1, hg.tape, hW.tape, hw1]; rfl
  ·rw [h9o.2.2, hg.output, hW.output, hw1]; rfl
  ·refine (hk9 k hnE).trans (hk7 k hk hnE fun e => ?_)
   rcases hc with hc | ⟨cs, t, hc, h51, _⟩
   ·have := hv k e
    omega
   ·rcases hO.2 with ⟨e2, _⟩ | ⟨g, c', cur, e2, hgg, _⟩
    ·rw [e2] at e; cases e
    ·rw [e2] at e
     have e3 : g = k := by simpa [Value.ownBlock] using e
     subst e3
     rw [hgg] at hc
     injection hc with hc
     injection hc with _ ht
     exact h51 ht.symm
theorem madd_any {B mb at_ : Nat} {F : Nat → Prop} {S : List Int} {T : List NodeD} {w : World} (h : Mk B mb F S at_ T w) {A1 : Option Addr} {k c1 : Nat} {kids : List Int} (hk : Rd w A1 k c1 1 (ics kids)) (hkl : kids.length = k) (hkb : k ≤ 4398046511103) (hkm : ∀ b o, A1 = some ⟨b, o, none⟩ → b ≠ mb) (op n : Int) (s : ByteArray)
  (hgood : GoodT (T ++ [⟨op, 0, s, n, kids⟩])) (hcap : T.length + 1 ≤ 549755813888) :
  Calls Tryd.prog 48 #[.pointer (some ⟨mb, 0, none⟩), .int .i64 op, .string s, .int .i64 n, .slice A1 k c1] w fun e w' => e = .returned (.int .i64 T.length) ∧ Mk B mb F S at_ (T ++ [⟨op, 0, s, n, kids⟩]) w' ∧ Kp B mb w w' := by
 obtain ⟨A, sn, c, v, hb, hr, hl, hA, hv, Z, hZ, hO, hK⟩ := h.m
 have H := qh h
 have HB := qh hb
 have HR := qh hr
 have HL := qh hl
 have HA := qh hA
 have HV := qh hv
 have HZ := qh hZ
 have HO := qh hO
 have HK := qh hK
 have HG := qh hgood
 have HC := qh hcap
 have HKR := qh hk
 have HKL := qh hkl
 have c2 := hb.cell 2
 have c3 := hb.cell 3
 have f2 := hb.frozen 2
 have f3 := hb.frozen 3
 have hlt := hb.lt
 simp only [GG] at c2 c3
 obtain ⟨tl, htl⟩ : ∃ tl, T.length = tl := ⟨_, rfl⟩
 have hZl : Z.length = tl := by rw [← htl, ← hZ, List.length_map]
 obtain ⟨A', c', rfl, -, -⟩ := hO.rd
 rw [hZl] at c2
 rw [htl] at c3 hcap
 have hws : wrap64 (160 - (tl : Int) - 1) = 160 - (tl : Int) - 1 := by unfold wrap64; omega
 have HTL := qh htl
 have HZL := qh hZl
 have HBM := HB
 clear h hb hr hl hA hv hZ hO hK hgood hk hkl hZl htl
 obtain ⟨w1, hw1⟩ : ∃ w1, w1 = w.setCell ⟨mb, 3, none⟩ (.int .i64 (160 - (T.length : Int) - 1)) := ⟨_, rfl⟩
 have hb1 : Blk w1 mb 87 #[.slice A sn c, .int .i64 at_, .slice A' tl c', .int .i64 (160 - (T.length : Int) - 1)] := by
  rw [hw1, ← HZL.out]
  exact Blk.set_ (cs := #[.slice A sn c, .int .i64 at_, .slice A' Z.length c', .int .i64 (160 - (T.length : Int))]) HB.out 3 _
 have hO1 : Own w1 51 5 (.slice A' tl c') Z.length (Z.flatMap NdS.cs) := by
  rw [hw1, ← HZL.out]
  exact Own.keep HO.out fun b e => Below.heap_setCell w ⟨mb, 3, none⟩ _ b (by rintro rfl; exact own_blk_ne HO.out HB.out (by decide) e)
 have hr1 : Rd w1 A1 k c1 1 (ics kids) := by
  refine HKR.out.keep (by rw [hw1]; simp) fun b o e hbb => ?_
  rw [hw1]
  refine Below.heap_setCell w ⟨mb, 3, none⟩ _ b ?_
  exact hkm b o e
 have HW1 := qh hw1
 have HB1 := qh hb1
 have HO1 := qh hO1
 have HR1 := qh hr1
 have d2 := hb1.cell 2
 have d3 := hb1.frozen 2
 have hlt1 := hb1.lt
 simp only [GG] at d2
 rw [HTL.out] at hw1
 clear hb1 hO1 hr1
 go_enter Tryd.func48, Tryd.ntmps48
 go_wp2_with fail
 rw [← hw1]
 clear hw1 c2 c3 f2 f3 hlt
 have hcap2 : Z.length + 1 ≤ 1099511627776 := by have := HZL.out; omega
 have hnb : ∀ W' w6, Below w1.heap.size w1 W' → W'.grownBy w6 (Value.slice A' tl c').ownBlock → Blk w6 mb 87 #[.slice A sn c, .int .i64 at_, .slice A' tl c', .int .i64 (160 - (T.length : Int) - 1)] := fun W' w6 hB hg => (HB1.out.bel hB).grown hg fun e => own_blk_ne HO1.out HB1.out (by decide) e.symm
 have HNB := qh hnb
 clear hnb
 have W1SZ : Hid (w1.heap.size = w.heap.size) := qh (by rw [HW1.out]; simp)
 go_region_law (first
  | (refine step_appendN _ rfl (.tmp 26) (.tmp 27) rfl (.slice (some ⟨w1.heap.size, 0, none⟩) 0 0) [] rfl (by exact Own.made _ #[] 0 (by omega) rfl) A1 k c1 kids rfl (HR1.out.bel (by exact bl1d)) HKL.out (by simp; omega) ?_; intro v5 w5 ho5 hg5 hn5; simp only [List.nil_append] at ho5; obtain ⟨A5, c5, rfl, -, -⟩ := Own.rd ho5; have HO5 := qh ho5; have hb5 : Below w1.heap.size w1 w5 := Below.trans (show Below w1.heap.size w1 (w1.alloc (.cells #[] 3)).drew from bl1d) (grown_below hg5 (by simp) (fun b e => by have e2 : w1.heap.size = b := (by simpa [Value.ownBlock] using e); omega)); have HB5 := qh hb5; have HF5 := qh (new_F H.out.fl W1SZ.out hn5 (alloc_le w1 _)); have d25 := (HB1.out.bel hb5).cell 2; have hlt5 := (HB1.out.bel hb5).lt; simp only [GG] at d25; clear ho5 hg5 hn5 hb5)
  | (refine step_appendNode _ rfl (.tmp 22) (.tmp 30) rfl (.slice A' tl c') Z rfl (Own.new HO1.out (Below.alloc HB5.out HB5.out.size _)) _ 1 ⟨⟨op, 0, s, n, kids⟩, A5, c5⟩ rfl (by exact Rd.node) hcap2 ?_; intro v7 w7 ho7 hg7 hn7; obtain ⟨A7, c7, rfl, -, -⟩ := Own.rd ho7; have hbk7 := HNB.out _ _ (Below.alloc HB5.out HB5.out.size _) hg7; have d27 := hbk7.frozen 2; have d28 := hbk7.cell 2; simp only [GG] at d28; have hlt7 := hbk7.lt; have HO7 := qh ho7; have HG7 := qh hg7; have HN7 := qh hn7; clear ho7 hg7 hn7 hbk7))
 all_goals
  go_wp2
  go_ret
  have hl2 : (Z ++ [(⟨⟨op, 0, s, n, kids⟩, A5, c5⟩ : NdS)]).length = Z.length + 1 := by simp
  refine ⟨ret_int ?_, ?_⟩
  ·rw [HTL.out, HZL.out]
  ·have hz5 : OwnI (w5.alloc (.cells #[.int .i64 op, .int .i64 0, .string s, .int .i64 n, .slice A5 kids.length c5] 51)) (NdS.v ⟨⟨op, 0, s, n, kids⟩, A5, c5⟩) kids := OwnI.bel HO5.out (Below.alloc (Below.refl _ _) (Nat.le_refl _) _)
   have h7 := HO7.out
   have g7 := HG7.out
   have n7 := HN7.out
   rw [← HZL.out] at g7 n7
   rw [hl2] at h7 n7
   exact madd_fin (z := ⟨⟨op, 0, s, n, kids⟩, A5, c5⟩) (v7 := .slice A7 (Z.length + 1) c7) H.out HBM.out HR.out HL.out HA.out HV.out HZ.out HO.out HK.out HW1.out (Below.alloc HB5.out HB5.out.size _) hz5 HF5.out (by have := HKL.out; show kids.length ≤ _; omega) (by rw [hl2]; exact h7) g7 n7 HG.out HC.out rfl ⟨rfl, rfl, rfl⟩
end
section
open Go.RowKit
set_option linter.unusedVariables false
set_option linter.unusedSimpArgs false
section
variable {B mb at_ : Nat} {F : Nat → Prop} {S : List Int} {T : List NodeD} {w w1 w2 : World}
theorem Kp.bel (B mb : Nat) (h : Below w.heap.size w w1) : Kp B mb w w1 := KeepE.of_below B _ h
theorem Kp.alloc (B mb : Nat) (w : World) (o : Obj) : Kp B mb w (w.alloc o) := KeepE.of_below B _ (Below.alloc (Below.refl _ _) (Nat.le_refl _) _)
theorem kp_lt {o : Obj} (hk : Kp B mb (w.alloc o) w2) : w.heap.size < w2.heap.size := by
 have := hk.size
 rw [World.size_alloc] at this
 omega
theorem Mk.alloc (h : Mk B mb F S at_ T w) (o : Obj) : Mk B mb F S at_ T (w.alloc o) := h.bel (Below.alloc (Below.refl _ _) (Nat.le_refl _) _)
theorem Mk.drew (h : Mk B mb F S at_ T w) : Mk B mb F S at_ T w.drew := h.bel (Below.drew (Below.refl _ _))
theorem OwnI.kp {v : Value} {xs : List Int} (h : OwnI w v xs) (hM : Mk B mb F S at_ T w) (hk : Kp B mb w w1) : OwnI w1 v xs := by
 refine hk.own h (fun b hb => ?_) (by decide)
 rintro rfl
 obtain ⟨A, n, c, v1, hb1, _⟩ := hM.m
 exact own_blk_ne h hb1 (by decide) hb
theorem pick_cell {g : Nat} {l : List ByteArray} (hb : Blk w g 9 (l.map Value.string).toArray) {r : Nat} (h : r < l.length) : ∃ s ∈ l, w.cell? ⟨g, r, none⟩ = some (.string s) := by
 refine ⟨l[r], List.getElem_mem h, ?_⟩
 rw [hb.cell r]
 simp [h]
theorem pick_kp {g : Nat} {l : List ByteArray} (hb : Blk w g 9 (l.map Value.string).toArray) (hM : Mk B mb F S at_ T w) (hk : Kp B mb w w1) {r : Nat} (h : r < l.length) : ∃ s ∈ l, w1.cell? ⟨g, r, none⟩ = some (.string s) := by
 refine pick_cell (hk.blk hb ?_ (by decide)) h
 rintro rfl
 obtain ⟨A, n, c, v1, hb1, _⟩ := hM.m
 exact Blk.ne_ hb hb1 (by decide) rfl
theorem nat_of {n k : Int} (h : 0 ≤ n ∧ n < k) : ∃ r : Nat, n = (r : Int) ∧ (r : Int) < k := by
 obtain ⟨r, rfl⟩ := Int.eq_ofNat_of_zero_le h.1
 exact ⟨r, rfl, h.2⟩
theorem madd_own {v : Value} {kids : List Int} (h : Mk B mb F S at_ T w) (ho : OwnI w v kids) {A1 : Option Addr} {k c1 : Nat} (hv : v = .slice A1 k c1) (hkl : kids.length = k) (hkb : k ≤ 4398046511103) (op n : Int) (s : ByteArray)
  (hgood : GoodT (T ++ [⟨op, 0, s, n, kids⟩])) (hcap : T.length + 1 ≤ 549755813888) :
  Calls Tryd.prog 48 #[.pointer (some ⟨mb, 0, none⟩), .int .i64 op, .string s, .int .i64 n, .slice A1 k c1] w fun e w' => ∃ r : Int, e = .returned (.int .i64 r) ∧ r = T.length ∧ Mk B mb F S at_ (T ++ [⟨op, 0, s, n, kids⟩]) w' ∧ Kp B mb w w' := by
 subst hv hkl
 obtain ⟨A', c', e, hr, hA⟩ := Own.rd ho
 injection e with e1 e2 e3
 subst e1 e3
 refine (madd_any h hr rfl hkb (fun b o e => ?_) op n s hgood hcap).mono fun e w' ⟨h1, h2, h3⟩ => ⟨_, h1, rfl, h2, h3⟩
 rintro rfl
 obtain ⟨A, n, c, v1, hb1, _⟩ := h.m
 exact own_blk_ne ho hb1 (by decide) (hA b o e)
theorem madd_lit (h : Mk B mb F S at_ T w) (kids : List Int) {cs : Array Value} (hcs : cs = (ics kids).toArray) {k g : Nat} (hg : g = w.heap.size) (hkl : kids.length = k) (hkb : k ≤ 1000) (op n : Int) (s : ByteArray)
  (hgood : GoodT (T ++ [⟨op, 0, s, n, kids⟩])) (hcap : T.length + 1 ≤ 549755813888) :
  Calls Tryd.prog 48 #[.pointer (some ⟨mb, 0, none⟩), .int .i64 op, .string s, .int .i64 n, .slice (some ⟨g, 0, none⟩) k k] (w.alloc (.cells cs 3)) fun e w' => ∃ r : Int, e = .returned (.int .i64 r) ∧ r = T.length ∧ Mk B mb F S at_ (T ++ [⟨op, 0, s, n, kids⟩]) w' ∧ Kp B mb w w' := by
 subst hg hcs hkl
 refine (madd_any (h.alloc _) (A1 := some ⟨w.heap.size, 0, none⟩) (k := kids.length) (c1 := kids.length) (kids := kids) (Rd.ints w kids _ kids.length rfl rfl (by omega)) rfl (by omega) (fun b o e => ?_) op n s hgood hcap).mono fun e w' ⟨h1, h2, h3⟩ => ⟨_, h1, rfl, h2, (Kp.alloc B mb w _).trans h3⟩
 cases e
 have := h.lt
 omega
theorem madd_none (h : Mk B mb F S at_ T w) (op n : Int) (s : ByteArray) (hgood : GoodT (T ++ [⟨op, 0, s, n, []⟩])) (hcap : T.length + 1 ≤ 549755813888) :
  Calls Tryd.prog 48 #[.pointer (some ⟨mb, 0, none⟩), .int .i64 op, .string s, .int .i64 n, .slice none 0 0] w fun e w' => ∃ r : Int, e = .returned (.int .i64 r) ∧ r = T.length ∧ Mk B mb F S at_ (T ++ [⟨op, 0, s, n, []⟩]) w' ∧ Kp B mb w w' :=
 (madd_any h (Rd.nil_.2 (Nat.zero_le _)) rfl (Nat.zero_le _) (fun b o e => by cases e) op n s hgood hcap).mono fun e w' ⟨h1, h2, h3⟩ => ⟨_, h1, rfl, h2, h3⟩
theorem GoodT.x {d : Int} {op n : Int} {s : ByteArray} {kids : List Int} (h : GoodT T) (hx : Xs T d kids) (hd : 0 ≤ d) (hd2 : d ≤ 11) (hg : ∀ ks, ks.length = kids.length → (∀ k ∈ ks, Good k) → Good (.mk op n s ks)) : GoodT (T ++ [⟨op, 0, s, n, kids⟩]) ∧ Xp (T ++ [⟨op, 0, s, n, kids⟩]) (d + 1) T.length := by
 obtain ⟨e, h1, h2, h3⟩ := hx.node hg hd
 exact ⟨h.snoc fun _ _ => ⟨e, h1, h2, by omega⟩, T.length, e, rfl, h1, h2, h3⟩
theorem GoodT.o {op n : Int} {s : ByteArray} {kids : List Int} (h : GoodT T) (ho : op = 22 ∨ 40 ≤ op) : GoodT (T ++ [⟨op, 0, s, n, kids⟩]) := h.snoc fun h1 h2 => by
 simp only at h1 h2
 omega
end
def nameL : List ByteArray := [⟨#[97]⟩, ⟨#[98]⟩, ⟨#[99]⟩, ⟨#[102]⟩, ⟨#[103]⟩, ⟨#[75]⟩, ⟨#[101]⟩, ⟨#[120]⟩]
def NameOk (s : ByteArray) : Prop := s.size ≤ 64 ∧ nameB s = true
theorem names_ok {l : List ByteArray} (h : (l.all fun s => decide (s.size ≤ 64) && nameB s) = true) : ∀ s ∈ l, NameOk s := fun s hs => by
 have := List.all_eq_true.1 h s hs
 simp only [Bool.and_eq_true, decide_eq_true_eq] at this
 exact this
theorem mname_any {B mb at_ : Nat} {F : Nat → Prop} {S : List Int} {T : List NodeD} {w : World} (h : Mk B mb F S at_ T w) : Calls Tryd.prog 90 #[.pointer (some ⟨mb, 0, none⟩)] w fun e w' => ∃ s, e = .returned (.string s) ∧ NameOk s ∧ Mk B mb F S (nextA S at_) T w' ∧ Kp B mb w w' := by
 have H := qh h
 have HB := qh (Blk.new w 9 (nameL.map Value.string).toArray)
 clear h
 go_enter Tryd.func90, Tryd.ntmps90
 go_wp2_with (go_at_call 46; go_must (refine (next_any (n := 8) (H.out.alloc _) (by decide) (by decide)).mono ?_); rintro e w2 ⟨rfl, hm, hk⟩; obtain ⟨r, hr, hr8⟩ := nat_of (nextV_ok S at_ (n := 8) (by decide)); rw [hr]; obtain ⟨s, hs, hc⟩ := pick_kp HB.out (H.out.alloc _) hk (r := r) (by show r < 8; omega); have hr88 : r < 8 := (by omega); have hlt : w.heap.size < w2.heap.size := kp_lt hk; have HM := qh hm; have HK := qh hk; have HS := qh hs; clear hm hk hr hs)
 go_ret
 exact ⟨s, rfl, names_ok (by decide +kernel) s HS.out, HM.out, (Kp.alloc B mb w _).trans HK.out⟩
def globL : List ByteArray := [⟨#[112, 114, 105, 110, 116]⟩, ⟨#[108, 101, 110]⟩, ⟨#[114, 97, 110, 103, 101]⟩, ⟨#[115, 116, 114]⟩, ⟨#[86, 97, 108, 117, 101, 69, 114, 114, 111, 114]⟩, ⟨#[75, 101, 121, 69, 114, 114, 111, 114]⟩, ⟨#[69, 120, 99, 101, 112, 116, 105, 111, 110]⟩, ⟨#[110, 101, 120, 116]⟩, ⟨#[105, 116, 101, 114]⟩, ⟨#[108, 105, 118, 101]⟩, ⟨#[99, 111, 108, 108, 101, 99, 116]⟩, ⟨#[119, 101, 97, 107]⟩, ⟨#[100, 101, 114, 101, 102]⟩, ⟨#[83, 116, 111, 112, 73, 116, 101, 114, 97, 116, 105, 111, 110]⟩, ⟨#[84, 121, 112, 101, 69, 114, 114, 111, 114]⟩, ⟨#[105, 115, 105, 110, 115, 116, 97, 110, 99, 101]⟩]
theorem mglobal_any {B mb at_ : Nat} {F : Nat → Prop} {S : List Int} {T : List NodeD} {w : World} (h : Mk B mb F S at_ T w) : Calls Tryd.prog 93 #[.pointer (some ⟨mb, 0, none⟩)] w fun e w' => ∃ s, e = .returned (.string s) ∧ NameOk s ∧ Mk B mb F S (nextA S at_) T w' ∧ Kp B mb w w' := by
 have H := qh h
 have HB := qh (Blk.new w 9 (globL.map Value.string).toArray)
 clear h
 go_enter Tryd.func93, Tryd.ntmps93
 go_wp2_with (go_at_call 46; go_must (refine (next_any (n := 16) (H.out.alloc _) (by decide) (by decide)).mono ?_); rintro e w2 ⟨rfl, hm, hk⟩; obtain ⟨r, hr, hr8⟩ := nat_of (nextV_ok S at_ (n := 16) (by decide)); rw [hr]; obtain ⟨s, hs, hc⟩ := pick_kp HB.out (H.out.alloc _) hk (r := r) (by show r < 16; omega); have hr88 : r < 16 := (by omega); have hlt : w.heap.size < w2.heap.size := kp_lt hk; have HM := qh hm; have HK := qh hk; have HS := qh hs; clear hm hk hr hs)
 go_ret
 exact ⟨s, rfl, names_ok (by decide +kernel) s HS.out, HM.out, (Kp.alloc B mb w _).trans HK.out⟩
end
section
open Go.RowKit
set_option linter.unusedVariables false
set_option linter.unusedSimpArgs false
def ebound : Nat → Nat
 | 0 => 1
 | d + 1 => 3 * ebound d + 4
def ExP (B mb : Nat) (F : Nat → Prop) (S : List Int) (w : World) (T : List NodeD) (N : Nat) (d : Int) (e : Ending) (w' : World) : Prop :=
 ∃ (r : Int) (at_ : Nat) (X : List NodeD), e = .returned (.int .i64 r) ∧ Mk B mb F S at_ (T ++ X) w' ∧ Kp B mb w w' ∧ X.length ≤ N ∧ Xp (T ++ X) d r
structure EX (d : Nat) : Prop where
 run : ∀ {B mb at_ : Nat} {F : Nat → Prop} {S : List Int} {T : List NodeD} {w : World}, Mk B mb F S at_ T w → T.length + ebound d ≤ 549755813888 → Calls Tryd.prog 71 #[.pointer (some ⟨mb, 0, none⟩), .int .i64 (d : Int)] w (ExP B mb F S w T (ebound d) ((d : Int) + 1))
def RwP (B mb : Nat) (F : Nat → Prop) (S : List Int) (w : World) (T : List NodeD) (N m : Nat) (d : Int) (e : Ending) (w' : World) : Prop :=
 ∃ (v : Value) (kids : List Int) (at_ : Nat) (X : List NodeD), e = .returned v ∧ OwnI w' v kids ∧ (∀ b, v.ownBlock = some b → w.heap.size ≤ b) ∧ kids.length ≤ m ∧ Mk B mb (fun k => F k ∨ v.ownBlock = some k) S at_ (T ++ X) w' ∧ Kp B mb w w' ∧ X.length ≤ N ∧ Xs (T ++ X) d kids
section
variable {B mb at_ at2 : Nat} {F : Nat → Prop} {S : List Int} {T X Y : List NodeD} {w w1 w2 : World} {d r : Int}
theorem Xp.app (h : Xp T d r) : Xp (T ++ X) d r := h.mono (Int.le_refl _)
theorem Xs.app2 {l : List Int} (h : Xs T d l) : Xs (T ++ X) d l := h.mono (Int.le_refl _)
theorem Xp.le {d' r : Int} (h : Xp T d r) (hd : d ≤ d') : Xp T d' r := by have := h.mono (U := []) hd; rwa [List.append_nil] at this
theorem new_own {B0 : Nat} {v v' : Value} (h : ∀ b, v.ownBlock = some b → B0 ≤ b) {m : Nat} (hn : v'.ownBlock = v.ownBlock ∨ v'.ownBlock = some m) (hm : B0 ≤ m) : ∀ b, v'.ownBlock = some b → B0 ≤ b := fun b e => by
 rcases hn with hn | hn <;> rw [hn] at e
 ·exact h b e
 ·injection e with e
  omega
theorem Mk.assoc (h : Mk B mb F S at_ (T ++ X ++ Y) w) : Mk B mb F S at_ (T ++ (X ++ Y)) w := by rw [← List.append_assoc]; exact h
end
theorem two_any {d : Nat} (HE : EX d) (hd : d ≤ 9) {B mb at_ : Nat} {F : Nat → Prop} {S : List Int} {T : List NodeD} {w : World} (h : Mk B mb F S at_ T w) (hcap : T.length + (2 * ebound d + 1) ≤ 549755813888) (op : Int) (s : ByteArray) (hg : ∀ a b, Good a → Good b → Good (.mk op 0 s [a, b])) :
  Calls Tryd.prog 91 #[.pointer (some ⟨mb, 0, none⟩), .int .i64 op, .string s, .int .i64 ((d : Int) + 1)] w (ExP B mb F S w T (2 * ebound d + 1) ((d : Int) + 2)) := by
 unfold ExP
 have H := qh h
 have HE := qh HE
 have HG := qh hg
 have HC := qh hcap
 clear h hg hcap
 go_enter Tryd.func91, Tryd.ntmps91
 go_upto_region 2 with (go_at_call 71; go_must (refine (HE.out.run H.out (by have := HC.out; omega)).mono ?_); rintro e w2 ⟨r1, at1, X1, rfl, hm, hk, hx, hp⟩; have HM := qh hm; have HK := qh hk; have HX := qh hx; have HP := qh hp; clear hm hk hx hp)
 go_wp2_with (first
  | (go_at_call 71; go_must (refine (HE.out.run HM.out (by have := HC.out; have := HX.out; rw [List.length_append]; omega)).mono ?_); rintro e w3 ⟨r2, at2, X2, rfl, hm, hk, hx, hp⟩; have HM2 := qh hm.assoc; have HK2 := qh (HK.out.trans hk); have HX2 := qh hx; have HP2 := qh hp; clear hm hk hx hp)
  | (go_at_call 48; have HXs : Hid (Xs (T ++ (X1 ++ X2)) ((d : Int) + 1) [r1, r2]) := qh (by rw [← List.append_assoc]; exact (Xs.one HP.out.app).snoc HP2.out); obtain ⟨hgood, hxp⟩ := HM2.out.good.x (op := op) (n := 0) (s := s) HXs.out (by omega) (by omega) (fun ks hl hk => by match ks, hl with | [a, b], _ => exact HG.out a b (hk a (by simp)) (hk b (by simp))); go_must (refine (madd_lit HM2.out [r1, r2] rfl rfl rfl (by simp) op 0 s hgood (by have := HC.out; have := HX.out; have := HX2.out; simp only [List.length_append]; omega)).mono ?_); rintro e w4 ⟨r4, rfl, hr4, hm, hk⟩; rw [← hr4] at hxp; have HM4 := qh hm.assoc; have HK4 := qh (HK2.out.trans hk); have HP4 := qh hxp; clear hm hk hgood hxp hr4))
 go_ret
 refine ⟨_, _, X1 ++ X2 ++ [⟨op, 0, s, 0, [r1, r2]⟩], rfl, HM4.out, HK4.out, ?_, ?_⟩
 ·have := HX.out
  have := HX2.out
  simp only [LL]
  omega
 ·have := HP4.out
  rw [← List.append_assoc]
  exact Xp.le this (by omega)
theorem mrow_any {d : Nat} (HE : EX d) (hd : d ≤ 9) {B mb at_ : Nat} {F : Nat → Prop} {S : List Int} {T : List NodeD} {w : World} (h : Mk B mb F S at_ T w) {most : Nat} (hm0 : 0 < most) (hm4 : most ≤ 4) (hcap : T.length + 3 * ebound d ≤ 549755813888) :
  Calls Tryd.prog 92 #[.pointer (some ⟨mb, 0, none⟩), .int .i64 ((d : Int) + 1), .int .i64 (most : Int)] w (RwP B mb F S w T (3 * ebound d) 3 ((d : Int) + 1)) := by
 unfold RwP
 have H := qh h
 have HE := qh HE
 have HC := qh hcap
 clear h hcap
 go_enter Tryd.func92, Tryd.ntmps92
 go_wp2_with (go_at_call 46; go_must (refine (next_any (n := (most : Int)) H.out (by omega) (by omega)).mono ?_); rintro e w2 ⟨rfl, hm, hk⟩; obtain ⟨nn, hr, hr8⟩ := nat_of (nextV_ok S at_ (n := (most : Int)) (by omega)); rw [hr]; have hn3 : nn ≤ 3 := (by omega); have HM := qh hm; have HK := qh hk; clear hm hk hr hr8)
 go_loopw [7, 9] (fun v7 v9 wr => ∃ (i at2 : Nat) (X : List NodeD) (A1 : Option Addr) (c1 : Nat) (M : List Int), i ≤ nn ∧ v9 = .int .i64 i ∧ v7 = .slice A1 M.length c1 ∧ Hid (M.length = i) ∧ Hid (OwnI wr (.slice A1 M.length c1) M) ∧ Hid (∀ b, (Value.slice A1 M.length c1).ownBlock = some b → w.heap.size ≤ b) ∧ Hid (Mk B mb (fun k => F k ∨ (Value.slice A1 M.length c1).ownBlock = some k) S at2 (T ++ X) wr) ∧ Hid (Kp B mb w wr) ∧ Hid (X.length ≤ i * ebound d) ∧ Hid (Xs (T ++ X) ((d : Int) + 1) M)) (fun _ v9 _ => nn - (intOf v9).toNat)
 case atStart => exact ⟨0, _, [], none, 0, [], Nat.zero_le _, rfl, rfl, qh rfl, qh (OwnI.nil_ _), qh (fun b e => by cases e), qh (by rw [List.append_nil]; exact HM.out.less fun k hk => hk.resolve_right (fun e => by cases e)), HK, qh (by simp), qh (Xs.nil_ _ _)⟩
 case round =>
  obtain ⟨i, at2, X, A1, c1, M, hi, rfl, rfl, HMl, HO, HNw, HM2, HK2, HX, HXs⟩ := hrel
  clear HM HK
  by_cases hlt : i < nn
  ·have hml : M.length ≤ 3 := by have := HMl.out; omega
   have hmul : i * ebound d ≤ 2 * ebound d := Nat.mul_le_mul_right _ (by omega)
   have HMU := qh hmul
   clear hmul
   go_wp2_with (first
    | (go_at_call 71; go_must (refine (HE.out.run HM2.out (by have := HC.out; have := HX.out; have := HMU.out; rw [List.length_append]; omega)).mono ?_); rintro e w3 ⟨r, at3, X3, rfl, hm, hk, hx, hp⟩; have HO3 := qh (HO.out.kp HM2.out hk); have HM3 := qh hm.assoc; have HK3 := qh (HK2.out.trans hk); have HX3 := qh hx; have HP3 := qh hp; clear hm hk hx hp)
    | (at_builtin; go_must (refine wpList_appendN _ rfl _ _ rfl (.slice A1 M.length c1) M rfl (OwnI.bel HO3.out (by exact bl1)) _ 1 1 [r] rfl (Rd.intG rfl r) rfl (by omega) ?_); intro v6 w6 ho6 hg6 hn6; generalize hG : M ++ [r] = G at ho6; have HGl : Hid (G.length = i + 1) := qh (by rw [← hG, List.length_append, HMl.out]; rfl); have HXG : Hid (Xs (T ++ (X ++ X3)) ((d : Int) + 1) G) := qh (by rw [← hG, ← List.append_assoc]; exact HXs.out.app2.snoc HP3.out); obtain ⟨A2, c2, rfl, -, -⟩ := Own.rd ho6; have HMg := qh (HM3.out.grown (by exact bl1) HO3.out (fun b e => Nat.le_trans H.out.wB (HNw.out b e)) hg6 hn6 (fun b e => Own.lt ho6 e)); have HKg := qh ((HK3.out.trans (Kp.alloc B mb _ _)).grown hg6 HNw.out); have HNg : Hid (∀ b, (Value.slice A2 G.length c2).ownBlock = some b → w.heap.size ≤ b) := qh (new_own HNw.out hn6 (Nat.le_trans HK3.out.size (alloc_le _ _))); have HO6 := qh ho6; clear hG ho6 hg6 hn6))
   go_round
   case rel => exact ⟨i + 1, at3, X ++ X3, A2, c2, G, by omega, by go_num, rfl, HGl, HO6, HNg, HMg, HKg, qh (by have := HX.out; have := HX3.out; rw [List.length_append, Nat.add_mul]; omega), HXG⟩
   case measure => simp [intOf]; omega
  ·obtain rfl : i = nn := by omega
   go_wp2_with fail
   go_ret
   exact ⟨_, M, at2, X, rfl, HO.out, HNw.out, by have := HMl.out; omega, HM2.out, HK2.out, by have := HX.out; have := Nat.mul_le_mul_right (ebound d) hn3; omega, HXs.out⟩
end
section
open Go.RowKit
set_option linter.unusedVariables false
set_option linter.unusedSimpArgs false
def okX (T : List NodeD) (i : Nat) : Bool := match T[i]? with
 | some x => decide (1 ≤ x.op) && decide (x.op ≤ 21)
 | none => false
def exprsL (T : List NodeD) (i : Nat) : List Int := ((List.range i).filter (okX T)).map fun (k : Nat) => (k : Int)
theorem exprsL_yes {T : List NodeD} {i : Nat} (h : okX T i = true) : exprsL T (i + 1) = exprsL T i ++ [(i : Int)] := by
 simp [exprsL, List.range_succ, List.filter_append, h]
theorem exprsL_no {T : List NodeD} {i : Nat} (h : okX T i = false) : exprsL T (i + 1) = exprsL T i := by
 simp [exprsL, List.range_succ, List.filter_append, h]
theorem exprsL_len (T : List NodeD) (i : Nat) : (exprsL T i).length ≤ i := by
 simp only [exprsL, List.length_map]
 exact Nat.le_trans (List.length_filter_le _ _) (by simp)
theorem exprsL_mem {T : List NodeD} {i : Nat} {x : Int} (h : x ∈ exprsL T i) : ∃ (k : Nat) (y : NodeD), x = k ∧ T[k]? = some y ∧ 1 ≤ y.op ∧ y.op ≤ 21 := by
 simp only [exprsL, List.mem_map, List.mem_filter] at h
 obtain ⟨k, ⟨-, h1⟩, rfl⟩ := h
 unfold okX at h1
 split at h1
 ·rename_i y hy
  simp only [Bool.and_eq_true, decide_eq_true_eq] at h1
  exact ⟨k, y, rfl, hy, h1.1, h1.2⟩
 ·cases h1
theorem exprsN_any {T : List NodeD} {w : World} {A : Option Addr} {m c : Nat} (hT : RowN (fun _ => False) w (.slice A m c) T) (hm : T.length = m) (hcap : m ≤ 549755813888) : Calls Tryd.prog 31 #[.slice A m c] w (fun e w' => ∃ A1 c1 r, e = .returned (.slice A1 r c1) ∧ (exprsL T m).length = r ∧ OwnI w' (.slice A1 r c1) (exprsL T m) ∧ Below w.heap.size w w') := by
 have HT := qh hT
 have HM := qh hm
 clear hT hm
 go_enter Tryd.func31, Tryd.ntmps31
 go_upto_region 3 with fail
 go_loopw [3, 4] (fun v3 v4 wr => ∃ (i : Nat) (A1 : Option Addr) (c1 : Nat) (M : List Int), i ≤ m ∧ v4 = .int .i64 i ∧ v3 = .slice A1 M.length c1 ∧ Hid (M = exprsL T i) ∧ Hid (OwnI wr (.slice A1 M.length c1) M) ∧ Hid (∀ b, (Value.slice A1 M.length c1).ownBlock = some b → w.heap.size ≤ b) ∧ Hid (Below w.heap.size w wr)) (fun _ v4 _ => m - (intOf v4).toNat)
 case atStart => exact ⟨0, some ⟨w.heap.size, 0, none⟩, 0, [], Nat.zero_le _, rfl, rfl, qh rfl, qh (Own.made (t := 3) (sz := 1) w #[] 0 (by decide) rfl), qh (fun b e => by have e2 : w.heap.size = b := (by simpa [Value.ownBlock] using e); omega), qh (Below.alloc (Below.refl _ _) (Nat.le_refl _) _)⟩
 case round =>
  obtain ⟨i, A1, c1, M, hi, rfl, rfl, HMe, HO4, HNw4, HB4⟩ := hrel
  have hml : M.length ≤ i := by rw [HMe.out]; exact exprsL_len T i
  by_cases hlt : i < m
  ·obtain ⟨x, hx⟩ : ∃ x, T[i]? = some x := ⟨_, List.getElem?_eq_getElem (by rw [HM.out]; exact hlt)⟩
   obtain ⟨op, a0, s0, n0, ks⟩ := x
   obtain ⟨b0, o0, A2, c2, rfl, hb0, x0, x1, x2, x3, x4, -⟩ := (HT.out.belw HB4.out).nth hx
   clear x1 x2 x3 x4
   have HX := qh hx
   clear hx
   by_cases h1 : 1 ≤ op
   ·have d1 : decide (1 ≤ op) = true := decide_eq_true h1
    by_cases h2 : op ≤ 21
    ·have d2 : decide (op ≤ 21) = true := decide_eq_true h2
     have HK : Hid (okX T i = true) := qh (by simp [okX, HX.out, h1, h2])
     clear h1 h2
     go_wp2_with (at_builtin; go_must (refine wpList_appendN _ rfl _ _ rfl (.slice A1 M.length c1) M rfl (OwnI.bel HO4.out (by exact bl1)) _ 1 1 [(i : Int)] rfl (Rd.intG rfl (i : Int)) rfl (by first | omega | (simp; done) | (simp; omega)) ?_); intro v8 w8 ho8 hg8 hn8; generalize hG : M ++ [(i : Int)] = G at ho8; have HG8 : Hid (G = exprsL T (i + 1)) := qh (by rw [← hG, exprsL_yes HK.out, HMe.out]); obtain ⟨A8, c8, e8, -, -⟩ := Own.rd ho8; subst e8; have HB8 := qh ((HB4.out.trans (Below.alloc (Below.refl _ _) HB4.out.size _)).trans (grown_below hg8 (Nat.le_trans HB4.out.size (alloc_le _ _)) HNw4.out)); have HNw8 : Hid (∀ b, (Value.slice A8 G.length c8).ownBlock = some b → w.heap.size ≤ b) := qh (new_own HNw4.out hn8 (Nat.le_trans HB4.out.size (alloc_le _ _))); have HO8 := qh ho8; clear hG ho8 hg8 hn8)
     go_round
     case rel => exact ⟨i + 1, A8, c8, G, by omega, by go_num, rfl, HG8, HO8, HNw8, HB8⟩
     case measure => simp [intOf]; omega
    ·have d2 : decide (op ≤ 21) = false := decide_eq_false h2
     have HK : Hid (okX T i = false) := qh (by simp [okX, HX.out, h2])
     clear h1 h2
     go_wp2_with fail
     go_round
     case rel => exact ⟨i + 1, A1, c1, M, by omega, by go_num, rfl, qh (by rw [exprsL_no HK.out, HMe.out]), HO4, HNw4, HB4⟩
     case measure => simp [intOf]; omega
   ·have d1 : decide (1 ≤ op) = false := decide_eq_false h1
    have HK : Hid (okX T i = false) := qh (by simp [okX, HX.out, h1])
    clear h1
    go_wp2_with fail
    go_round
    case rel => exact ⟨i + 1, A1, c1, M, by omega, by go_num, rfl, qh (by rw [exprsL_no HK.out, HMe.out]), HO4, HNw4, HB4⟩
    case measure => simp [intOf]; omega
  ·obtain rfl : i = m := by omega
   go_wp2_with fail
   go_ret
   obtain rfl := HMe.out
   exact ⟨A1, c1, _, rfl, rfl, HO4.out, HB4.out⟩
end
section
open Go.RowKit
set_option linter.unusedVariables false
set_option linter.unusedSimpArgs false
theorem zcs_drop : ∀ (Z : List NdS) (k : Nat), (Z.flatMap NdS.cs).drop (k * 5) = (Z.drop k).flatMap NdS.cs
 | [], k => by simp
 | z :: Z, 0 => by simp
 | z :: Z, k + 1 => by
  have h4 : (NdS.cs z).length = 5 := rfl
  rw [List.flatMap_cons, List.drop_succ_cons, List.drop_append, h4, List.drop_of_length_le (by omega), List.nil_append, show (k + 1) * 5 - 5 = k * 5 from by omega, zcs_drop Z k]
theorem zcs_take : ∀ (Z : List NdS) (k : Nat), (Z.flatMap NdS.cs).take (k * 5) = (Z.take k).flatMap NdS.cs
 | [], k => by simp
 | z :: Z, 0 => by simp
 | z :: Z, k + 1 => by
  have h4 : (NdS.cs z).length = 5 := rfl
  rw [List.flatMap_cons, List.take_succ_cons, List.take_append, h4, List.take_of_length_le (by omega), show (k + 1) * 5 - 5 = k * 5 from by omega, zcs_take Z k, List.flatMap_cons]
theorem zset_split : ∀ {Z : List NdS} {i : Nat} (h : i < Z.length) (z : NdS), Z.set i z = Z.take i ++ z :: Z.drop (i + 1)
 | [], i, h, z => absurd h (by simp)
 | x :: Z, 0, h, z => rfl
 | x :: Z, i + 1, h, z => by
  rw [List.set_cons_succ, zset_split (Z := Z) (i := i) (by simpa using h) z]
  rfl
theorem mod_setRowN {w : World} {g : Nat} (cs : Array Value) : Mod (· = g) w (w.setRow g cs) :=
 ⟨rfl, rfl, rfl, by simp, fun i _ hne => setRow_other w g i cs hne⟩
theorem store_node {w : World} {b n c i : Nat} {Z : List NdS} (h : OwnZ w (.slice (some ⟨b, 0, none⟩) n c) Z) (hn : Z.length = n) (hi : i < n) (z : NdS) :
  ∃ w', (storeCells ⟨b, i * 5, none⟩ z.cs 0).run Tryd.prog w = .ok () w' ∧ OwnZ w' (.slice (some ⟨b, 0, none⟩) n c) (Z.set i z) ∧ Mod (· = b) w w' := by
 subst hn
 obtain ⟨hle, ⟨e, _⟩ | ⟨b', c', cur, e, hb, h1, h2, h3, h4⟩⟩ := h
 ·cases e
 ·simp only [Value.slice.injEq, Option.some.injEq, Addr.mk.injEq, and_true] at e
  obtain ⟨rfl, -, rfl⟩ := e
  have hl5 : z.cs.length = 5 := rfl
  have hone : ∀ u ∈ z.cs, u.oneCell' = true := fun u hu => zcs_one [z] u (by rw [List.flatMap_singleton]; exact hu)
  have hst := run_storeCells_at Tryd.prog b (i * 5) 51 z.cs 0 cur w hb (by rw [hl5]; omega) hone
  refine ⟨_, hst, ?_, mod_setRowN _⟩
  have hl := nds_len Z
  refine ⟨by rw [nds_len], .inr ⟨b, c, _, by rw [List.length_set], setRow_heap w b cur _ 51 (0, 0) hb, by rw [List.length_set]; exact h1, h2, ?_, ?_⟩⟩
  ·simp [hl5]; omega
  ·rw [List.length_set, hl5]
   have hcl : cur.toList.length = cur.size := rfl
   have e1 : cur.toList.take (i * 5) = (Z.take i).flatMap NdS.cs := by
    rw [← zcs_take, ← h4, List.take_take]; congr 1; omega
   have e2 : (cur.toList.drop (i * 5 + 5)).take (Z.length * 5 - (i * 5 + 5)) = (Z.drop (i + 1)).flatMap NdS.cs := by
    rw [← zcs_drop, ← h4, List.drop_take]
    congr 2 <;> omega
   rw [Nat.add_zero, e1, zset_split hi, List.flatMap_append, List.flatMap_cons, ← e2]
   have hlt : ((Z.take i).flatMap NdS.cs).length = i * 5 := by rw [nds_len, List.length_take]; congr 1; omega
   rw [List.take_append, List.take_of_length_le (by rw [List.length_append, hlt, hl5]; omega), List.length_append, hlt, hl5, List.append_assoc]
theorem wpList_storeNode (w : World) {ops : Array Oper} {rest : List Oper} {o : Oper} {a : Act} {Q : Exit → Act → World → Prop} (hg : o.guard = none) (p v : Operand) (ho : o.op = .store 51 p v)
  (b i n c : Nat) (Z : List NdS) (hown : OwnZ w (.slice (some ⟨b, 0, none⟩) n c) Z) (hn : Z.length = n) (hi : i < n) (z : NdS) (cs : Array Value) (hc : cs = z.cs.toArray)
  (hp : a.eval p = .pointer (some ⟨b, i * 5, none⟩)) (hv : a.eval v = .agg cs)
  (h : ∀ w', OwnZ w' (.slice (some ⟨b, 0, none⟩) n c) (Z.set i z) → Mod (· = b) w w' → wpList Tryd.prog ops Q rest (a.put o.dst undef) w') :
  wpList Tryd.prog ops Q (o :: rest) a w := by
 refine wpList_plain hg fun K' hK' => ?_
 subst hc
 obtain ⟨w', hrun, r1, r2⟩ := store_node hown hn hi z
 have hsz : (sizeOf 51).run Tryd.prog w = .ok 5 w := by kernel_rfl
 have hcs : (Value.agg z.cs.toArray).cells = z.cs.toArray := rfl
 have hl5 : z.cs.length = 5 := rfl
 unfold Oper.wp
 simp [execOp, ho, hp, hv, Instr.storeAt, Instr.sureAddr, storeVar, hsz, hcs, hl5, hrun, Result.andThen]
 exact hK' _ _ (h w' r1 r2)
structure Fz (B : Nat) (w : World) (v : Value) (Z : List NdS) : Prop where
 own : OwnZ w v Z
 new : ∀ b, v.ownBlock = some b → B ≤ b
 kid : ∀ z ∈ Z, OwnI w z.v z.x.kids ∧ (∀ b, z.v.ownBlock = some b → B ≤ b) ∧ z.x.kids.length ≤ 4398046511103
section
variable {B : Nat} {w w' : World} {v v' u u' : Value} {Z Y : List NdS}
theorem Fz.bel (h : Fz B w v Z) (hb : Below w.heap.size w w') : Fz B w' v Z :=
 ⟨Own.new h.own hb, h.new, fun z hz => ⟨OwnI.bel (h.kid z hz).1 hb, (h.kid z hz).2⟩⟩
theorem Fz.less {B' : Nat} (h : Fz B w v Z) (hB : B' ≤ B) : Fz B' w v Z := ⟨h.own, fun b e => Nat.le_trans hB (h.new b e), fun z hz => ⟨(h.kid z hz).1, fun b e => Nat.le_trans hB ((h.kid z hz).2.1 b e), (h.kid z hz).2.2⟩⟩
theorem Fz.grownI {xs : List Int} (h : Fz B w v Z) (hu : OwnI w u xs) (hd : ∀ z ∈ Z, ∀ b, z.v.ownBlock = some b → u.ownBlock ≠ some b) (hg : w.grownBy w' u.ownBlock) : Fz B w' v Z :=
 ⟨h.own.keep fun b hb => hg.block b (Own.lt h.own hb) fun e => own_own_ne h.own hu (by decide) hb e.symm,
  h.new, fun z hz => ⟨(h.kid z hz).1.keep fun b hb => hg.block b (Own.lt (h.kid z hz).1 hb) fun e => hd z hz b hb e.symm, (h.kid z hz).2⟩⟩
theorem Fz.app (h : Fz B w v Z) (hy : ∀ z ∈ Y, OwnI w z.v z.x.kids ∧ (∀ b, z.v.ownBlock = some b → B ≤ b) ∧ z.x.kids.length ≤ 4398046511103) (ho : OwnZ w' v' (Z ++ Y)) (hg : w.grownBy w' v.ownBlock) (hn : v'.ownBlock = v.ownBlock ∨ v'.ownBlock = some w.heap.size) (hB : B ≤ w.heap.size) : Fz B w' v' (Z ++ Y) :=
 ⟨ho, new_own h.new hn hB, fun z hz => by
  have hk : OwnI w z.v z.x.kids ∧ (∀ b, z.v.ownBlock = some b → B ≤ b) ∧ z.x.kids.length ≤ 4398046511103 := by
   rcases List.mem_append.1 hz with hz | hz
   ·exact h.kid z hz
   ·exact hy z hz
  exact ⟨hk.1.keep fun b hb => hg.block b (Own.lt hk.1 hb) fun e => own_own_ne h.own hk.1 (by decide) e.symm hb, hk.2⟩⟩
theorem Fz.stored {b n c i : Nat} {z : NdS} (h : Fz B w (.slice (some ⟨b, 0, none⟩) n c) Z) (hz : OwnI w z.v z.x.kids ∧ (∀ b, z.v.ownBlock = some b → B ≤ b) ∧ z.x.kids.length ≤ 4398046511103) (ho : OwnZ w' (.slice (some ⟨b, 0, none⟩) n c) (Z.set i z)) (hm : Mod (· = b) w w') : Fz B w' (.slice (some ⟨b, 0, none⟩) n c) (Z.set i z) :=
 ⟨ho, h.new, fun y hy => by
  have hk : OwnI w y.v y.x.kids ∧ (∀ b, y.v.ownBlock = some b → B ≤ b) ∧ y.x.kids.length ≤ 4398046511103 := by
   rcases List.mem_or_eq_of_mem_set hy with hy | rfl
   ·exact h.kid y hy
   ·exact hz
  exact ⟨hk.1.keep fun k hk2 => hm.block k (Own.lt hk.1 hk2) fun e => by
   subst e
   exact own_own_ne h.own hk.1 (by decide) (by rfl) hk2, hk.2⟩⟩
end
def shK (b : Nat) (x : NodeD) : NodeD := { x with kids := x.kids.map fun k => k + (b : Int) }
theorem idxs_sh (b : Nat) : ∀ (n : Nat) (ks : List Tr), Tr.idxs (b + n) ks = (Tr.idxs n ks).map fun k => k + (b : Int)
 | n, [] => rfl
 | n, k :: ks => by
  simp only [Tr.idxs, List.map_cons]
  rw [Nat.add_assoc, idxs_sh b (n + Tr.size k) ks]
  congr 1
  omega
mutual
theorem flat_sh (b : Nat) : ∀ (n : Nat) (e : Tr), Tr.flat (b + n) e = (Tr.flat n e).map (shK b)
 | n, .mk op m s ks => by
  simp only [Tr.flat, List.map_append, List.map_cons, List.map_nil]
  rw [flats_sh b n ks, idxs_sh b n ks]
  rfl
theorem flats_sh (b : Nat) : ∀ (n : Nat) (ks : List Tr), Tr.flats (b + n) ks = (Tr.flats n ks).map (shK b)
 | n, [] => rfl
 | n, k :: ks => by
  simp only [Tr.flats, List.map_append]
  rw [flat_sh b n k, Nat.add_assoc, flats_sh b (n + Tr.size k) ks]
end
def clr (x : NodeD) : NodeD := { x with at_ := 0 }
end
end Go.Proofs.YtjdcicopjipmnaaDoor
