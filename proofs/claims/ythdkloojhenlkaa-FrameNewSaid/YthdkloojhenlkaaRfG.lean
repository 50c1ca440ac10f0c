/- The reference's Enter and Leave. -/
import Derived.Test.YthdkloojhenlkaaRfF
import Derived.IntWalk
namespace Go.Proofs.Ythdkloojhenlkaa
open Go.RowKit
attribute [local go_sem high] guardV eqV neqV
attribute [local go_sem] V.v

theorem info_KR : (Try.prog.info? 86).map (fun i => (i.zero, i.size, i.bytes)) = some (some (.agg #[.int .i64 0, .int .i64 0]), 2, 16) := by kernel_rfl
theorem one_rdKR (w : World) (p q : Int) : RdK (w.alloc (.cells #[.int .i64 p, .int .i64 q] 86)) (some ⟨w.heap.size, 0, none⟩) 1 1 [(p, q)] := by
  obtain ⟨A, c, e, hr, _⟩ := Own.rd (Own.made (t := 86) (sz := 2) w #[.int .i64 p, .int .i64 q] 1 (by omega) rfl)
  injection e with e1 e2 e3
  subst e1 e3
  exact ⟨rfl, hr⟩
theorem step_appendKR {ops : Array Oper} {o : Oper} {a : Act} {K : Act → World → Prop} {Q : Exit → Act → World → Prop} {E : Prop} (w : World) (hgd : o.guard = none) (s x : Operand)
    (ho : o.op = .call { callee := .builtin .append, args := #[s, x], argTypes := #[80, 80] })
    (v : Value) (xs : List (Int × Int)) (hs : a.eval s = v) (hown : OwnK 86 w v xs)
    (A : Option Addr) (m c : Nat) (ys : List (Int × Int)) (hx : a.eval x = .slice A m c) (hr : RdK w A m c ys) (hbound : xs.length + m ≤ 4398046511105)
    (h : ∀ v' w', OwnK 86 w' v' (xs ++ ys) → w.grownBy w' v.ownBlock → (v'.ownBlock = v.ownBlock ∨ v'.ownBlock = some w.heap.size) → K (a.put o.dst v') w') :
    if Region.wanted o (yielded ops a.tmps) = true then Oper.wp Try.prog o a w K Q else E := by
  obtain ⟨i0, hi, hz0, hz1, hz2⟩ := info_parts info_KR
  refine step_append_Own w hgd s x _ ho _ i0 _ 2 16 Try.underlying80 hi hz0 hz1 hz2 rfl v xs.length (kcs xs) hs hown A m c (kcs ys) hx hr.2 (kcs_oneCell ys) (by omega) (by omega) (fun v' w' h1 h2 h3 => h v' w' ?_ h2 h3)
  unfold OwnK
  rw [List.length_append, kcs_append, hr.1]
  exact h1
theorem RdK.new {w w' : World} {A : Option Addr} {n c : Nat} {xs : List (Int × Int)} (h : RdK w A n c xs) (hb : Below w.heap.size w w') : RdK w' A n c xs := ⟨h.1, h.2.new hb⟩
theorem RdK.grown {w w' : World} {A : Option Addr} {n c : Nat} {xs : List (Int × Int)} {row : Option Nat} (h : RdK w A n c xs) (hg : w.grownBy w' row) (hr : ∀ b o, A = some ⟨b, o, none⟩ → row ≠ some b) : RdK w' A n c xs :=
  ⟨h.1, h.2.keep hg.size fun b o e hb => hg.block b hb (fun e' => hr b o e e'.symm)⟩
theorem RdK.shrink {w : World} {A : Option Addr} {n c : Nat} {xs : List (Int × Int)} (h : RdK w A n c xs) {k c' : Nat} (hk : k ≤ n) (hkc : k ≤ c') (hc : c' ≤ c) : RdK w A k c' (xs.take k) :=
  ⟨by rw [List.length_take, h.1]; omega, by rw [← kcs_take]; exact h.2.shrink hk hkc hc⟩
/-- a row of blocks that was made behind w -/
structure NewK (w : World) (wr : World) (v : Value) (xs : List (Int × Int)) : Prop where
  own : OwnK 86 wr v xs
  new : ∀ b, v.ownBlock = some b → w.heap.size ≤ b
  bel : Below w.heap.size w wr
theorem NewK.app {w wr w' : World} {v v' : Value} {xs ys : List (Int × Int)} (h : NewK w wr v xs) (ho : OwnK 86 w' v' ys) (hg : wr.grownBy w' v.ownBlock) (ha : v'.ownBlock = v.ownBlock ∨ v'.ownBlock = some wr.heap.size) : NewK w w' v' ys := by
  refine ⟨ho, fun b e => ?_, h.bel.grown hg h.bel.size h.new⟩
  rcases ha with e' | e' <;> rw [e'] at e
  · exact h.new b e
  · have := h.bel.size
    simp at e
    omega
theorem NewK.below {w wr w' : World} {v : Value} {xs : List (Int × Int)} (h : NewK w wr v xs) (hb : Below wr.heap.size wr w') : NewK w w' v xs := ⟨Own.new h.own hb, h.new, h.bel.trans (hb.mono h.bel.size)⟩
theorem newK0 (w : World) : NewK w (w.alloc (.cells #[] 86)) (.slice (some ⟨w.heap.size, 0, none⟩) 0 0) [] :=
  ⟨Own.made w #[] 0 (by omega) rfl, fun b e => by simp [Value.ownBlock] at e; omega, (Below.refl _ _).alloc (Nat.le_refl _) _⟩
theorem newK1 {w w1 : World} (hb : Below w.heap.size w w1) : NewK w (w1.alloc (.cells #[] 86)) (.slice (some ⟨w1.heap.size, 0, none⟩) 0 0) [] :=
  ⟨Own.made w1 #[] 0 (by omega) rfl, fun b e => by have := hb.size; simp [Value.ownBlock] at e; omega, hb.alloc hb.size _⟩
theorem set_blocks_new {T TB : TypeId} {w w1 : World} {g : Nat} {F : Fr} {L B C X K K' : Value} {xs : List (Int × Int)} (hT : T ≠ 44) (hT2 : T ≠ 4) (_hT3 : T ≠ TB) (h : FrAt T TB w g F L B C X K)
    (hn : OwnK TB w1 K' xs) (hnew : ∀ b, K'.ownBlock = some b → w.heap.size ≤ b) (hbel : Below w.heap.size w w1) :
    FrAt T TB (w1.setCell ⟨g, 9, none⟩ K') g { F with blocks := xs } L B C X K' := by
  have hg := h.blk.lt
  have hk : ∀ i, i ≠ g → i < w.heap.size → (w1.setCell ⟨g, 9, none⟩ K').heap[i]? = w.heap[i]? := fun i h1 h2 => (Below.heap_setCell w1 _ _ _ h1).trans (hbel.block i h2)
  refine ⟨(h.blk.below hbel hg).set_ 9 K', h.l.keep fun i e => hk i ?_ (h.l.lt e), h.b.keep fun i e => hk i ?_ (h.b.lt e), h.c.keep fun i e => hk i ?_ (h.c.lt e), h.x.keep fun i e => hk i ?_ (h.x.lt e), hn.keep fun i e => Below.heap_setCell _ _ _ _ ?_, h.lc, h.lx, h.cx⟩
  · rintro rfl; exact own_blk_ne h.l h.blk (Ne.symm hT) e
  · rintro rfl; exact own_blk_ne h.b h.blk (Ne.symm hT2) e
  · rintro rfl; exact own_blk_ne h.c h.blk (Ne.symm hT) e
  · rintro rfl; exact own_blk_ne h.x h.blk (Ne.symm hT) e
  · rintro rfl; have := hnew _ e; omega

set_option maxRecDepth 100000 in
set_option maxHeartbeats 1000000 in
theorem rleave_any (g : Nat) (F : Fr) (S : Nat → Prop) (w : World) (hF : IsFr 82 86 w S g F) (hlen : F.blocks.length ≤ 1000000) :
    Calls Try.prog 50 #[.pointer (some ⟨g, 0, none⟩)] w fun e w' => e = .returned (.bool (!F.blocks.isEmpty)) ∧
      IsFr 82 86 w' (Grew S w w') g { F with blocks := F.blocks.dropLast } ∧ Mod S w w' := by
  have HF := Lib.hid hF
  obtain ⟨L, B, C, X, K, h, hS, hSl⟩ := hF
  have c9 : w.cell? ⟨g, 9, none⟩ = some K := h.blk.cell 9
  have f9 : w.frozen? ⟨g, 9, none⟩ = false := h.blk.frozen 9
  have hlt := h.blk.lt
  obtain ⟨A', n', c', rfl, hr', hA'⟩ := h.k.rd
  have hn := hr'.2.1
  have hn2 := hr'.2.2.1
  have hn3 : n' ≤ 1000000 := by have := hr'.1; omega
  have HS := Lib.hid hS
  have HSl := Lib.hid hSl
  clear hS hSl hA' hlen
  by_cases h0 : n' = 0
  · subst h0
    have e1 : F.blocks = [] := List.eq_nil_of_length_eq_zero hr'.1
    have e2 : (!F.blocks.isEmpty) = false := by rw [e1]; rfl
    have e3 : F.blocks.dropLast = F.blocks := by rw [e1]; rfl
    rw [e2, e3]
    clear e1 e2 e3
    go_enter Try.func50, Try.ntmps50
    go_wp2
    go_ret
    exact ⟨rfl, HF.out.grew (Nat.le_refl _), Mod.refl _ _⟩
  · have e2 : (!F.blocks.isEmpty) = true := by
      have := hr'.1
      cases hb : F.blocks with
      | nil => rw [hb] at this; simp at this; omega
      | cons => rfl
    have e3 : F.blocks.dropLast = F.blocks.take (n' - 1) := by rw [List.dropLast_eq_take, hr'.1]
    rw [e2, e3]
    clear e2 e3
    have hp : 1 ≤ n' := by omega
    have hz : ((n' : Int) == 0) = false := by simp; omega
    have hrk : RdK w A' (n' - 1) c' (F.blocks.take (n' - 1)) := hr'.shrink (by omega) (by omega) (Nat.le_refl _)
    have hbg : A' = none ∨ True := Or.inr trivial
    clear h0 hbg
    have hb0 : Below w.heap.size w ((w.alloc (.cells #[] 86)).drew) := (by repeat (first | exact Below.refl _ _ | assumption | refine Below.setCell ?_ (by first | (simp; done) | (simp; omega) | omega) _ | refine below_drewN ?_ _ | refine Below.drew ?_ | refine Below.alloc ?_ (by first | (simp; done) | (simp; omega) | omega) _))
    have hrk0 : RdK ((w.alloc (.cells #[] 86)).drew) A' (n' - 1) c' (F.blocks.take (n' - 1)) := hrk.new hb0
    have hN0 : NewK w ((w.alloc (.cells #[] 86)).drew) (.slice (some ⟨w.heap.size, 0, none⟩) 0 0) [] := (newK0 w).below (Below.refl _ _).drew
    have hbd : ([] : List (Int × Int)).length + (n' - 1) ≤ 4398046511105 := by simp; omega
    have hk0 : OwnK 86 ((w.alloc (.cells #[] 86)).drew) (.slice (some ⟨w.heap.size, 0, none⟩) 0 0) [] := (newK0 w).own
    have i1 : (1 : Int) ≤ (n' : Int) := by omega
    have i2 : (n' : Int) ≤ (c' : Int) + 1 := by omega
    have i3 : ((n' : Int) - 1) ≤ (c' : Int) := by omega
    have i4 : (0 : Int) ≤ ((n' : Int) - 1) := by omega
    have iw : IntKind.i64.wrap ((n' : Int) - 1) = (n' : Int) - 1 := IntWalk.i64_in _ (by omega)
    have it : ((n' : Int) - 1).toNat = n' - 1 := by omega
    go_enter Try.func50, Try.ntmps50
    go_wp2
    go_region_law (refine step_appendKR _ rfl _ _ rfl (.slice (some ⟨w.heap.size, 0, none⟩) 0 0) [] rfl hk0 A' (n' - 1) c' (F.blocks.take (n' - 1)) rfl hrk0 hbd ?_; intro v1 w1 hv1 hg1 ha1; obtain ⟨A1, n1, c1, rfl, _⟩ := OwnK.rd hv1; have NR1 : NewK w w1 (.slice A1 n1 c1) ([] ++ F.blocks.take (n' - 1)) := NewK.app (wr := (w.alloc (.cells #[] 86)).drew) hN0 hv1 hg1 ha1; have hbk := h.blk.below NR1.bel hlt; have c9' : w1.cell? ⟨g, 9, none⟩ = some (.slice A' n' c') := hbk.cell 9; have f9' := hbk.frozen 9; clear hv1 hg1 ha1)
    all_goals
      go_wp2
      go_ret
      have hnr : NewK w w1 (.slice A1 n1 c1) (F.blocks.take (n' - 1)) := by simpa using NR1
      refine ⟨rfl, IsFr.of (set_blocks_new (by decide) (by decide) (by decide) h hnr.own hnr.new hnr.bel) (by simpa [World.setCell] using hnr.bel.size) HSl.out (foot_k2 HS.out fun i e => .inr (hnr.new i e)), ?_⟩
      exact (Mod.new hnr.bel).setCell (fun _ => HS.out g (.inl rfl)) _


set_option maxRecDepth 100000 in
set_option maxHeartbeats 2000000 in
theorem renter_any (g : Nat) (F : Fr) (S : Nat → Prop) (p : Int) (w : World) (hF : IsFr 82 86 w S g F) (hlen : F.blocks.length ≤ 1000000) :
    Calls Try.prog 49 #[.pointer (some ⟨g, 0, none⟩), .int .i64 p] w fun e w' => e = .returned (.tuple #[]) ∧
      IsFr 82 86 w' (Grew S w w') g { F with blocks := F.blocks ++ [(p, (F.values.length : Int))] } ∧ Mod S w w' := by
  obtain ⟨L, B, C, X, K, h, hS, hSl⟩ := hF
  have c8 : w.cell? ⟨g, 8, none⟩ = some X := h.blk.cell 8
  have c9 : w.cell? ⟨g, 9, none⟩ = some K := h.blk.cell 9
  have hlt := h.blk.lt
  obtain ⟨A, n, c, rfl, hr, hA⟩ := h.x.rd
  obtain ⟨A', n', c', rfl, hr', hA'⟩ := h.k.rd
  have hn := hr.le
  have HS := Lib.hid hS
  have HSl := Lib.hid hSl
  have hn3 : n' ≤ 1000000 := by have := hr'.1; omega
  clear hS hA hSl hA'
  rw [hr.1]
  have hbd : ([] : List (Int × Int)).length + n' ≤ 4398046511105 := by simp; omega
  have hbd2 : ([] ++ F.blocks).length + 1 ≤ 4398046511105 := by simp; omega
  have hN1 : NewK w ((w.alloc (.cells #[] 86)).drew) (.slice (some ⟨w.heap.size, 0, none⟩) 0 0) [] := (newK0 w).below (Below.refl _ _).drew
  have hN2 : NewK w (((w.alloc (.cells #[] 86)).alloc (.cells #[.int .i64 p, .int .i64 n] 86)).drew) (.slice (some ⟨w.heap.size, 0, none⟩) 0 0) [] := (newK0 w).below (by repeat (first | exact Below.refl _ _ | assumption | refine Below.setCell ?_ (by first | (simp; done) | (simp; omega) | omega) _ | refine below_drewN ?_ _ | refine Below.drew ?_ | refine Below.alloc ?_ (by first | (simp; done) | (simp; omega) | omega) _))
  have hb3 : Below w.heap.size w (w.alloc (.cells #[.int .i64 p, .int .i64 n] 86)) := (by repeat (first | exact Below.refl _ _ | assumption | refine Below.setCell ?_ (by first | (simp; done) | (simp; omega) | omega) _ | refine below_drewN ?_ _ | refine Below.drew ?_ | refine Below.alloc ?_ (by first | (simp; done) | (simp; omega) | omega) _))
  have hN3 : NewK w (((w.alloc (.cells #[.int .i64 p, .int .i64 n] 86)).alloc (.cells #[] 86)).drew) (.slice (some ⟨w.heap.size + 1, 0, none⟩) 0 0) [] := by
    have := (newK1 hb3).below (Below.refl _ _).drew
    simpa using this
  have hr1 := hr'.new hN1.bel
  have hr2 := hr'.new hN2.bel
  have hr3 := hr'.new hN3.bel
  have hp2 : RdK (((w.alloc (.cells #[] 86)).alloc (.cells #[.int .i64 p, .int .i64 n] 86)).drew) (some ⟨w.heap.size + 1, 0, none⟩) 1 1 [(p, (n : Int))] := by
    have := (one_rdKR (w.alloc (.cells #[] 86)) p n).new (Below.refl _ _).drew
    simpa using this
  have hp3 : RdK (((w.alloc (.cells #[.int .i64 p, .int .i64 n] 86)).alloc (.cells #[] 86)).drew) (some ⟨w.heap.size, 0, none⟩) 1 1 [(p, (n : Int))] := (one_rdKR w p n).new (by repeat (first | exact Below.refl _ _ | assumption | refine Below.setCell ?_ (by first | (simp; done) | (simp; omega) | omega) _ | refine below_drewN ?_ _ | refine Below.drew ?_ | refine Below.alloc ?_ (by first | (simp; done) | (simp; omega) | omega) _))
  go_enter Try.func49, Try.ntmps49
  go_region_law (first
    | (refine step_appendKR ((w.alloc (.cells #[] 86)).drew) rfl (.tmp 5) (.tmp 9) rfl (.slice (some ⟨w.heap.size, 0, none⟩) 0 0) [] rfl hN1.own A' n' c' F.blocks rfl hr1 hbd ?_; intro v1 w1 hv1 hg1 ha1; obtain ⟨A1, n1, c1, rfl, _⟩ := OwnK.rd hv1; have NR1 : NewK w w1 (.slice A1 n1 c1) ([] ++ F.blocks) := hN1.app hv1 hg1 ha1; have c91 : w1.cell? ⟨g, 9, none⟩ = some (.slice A' n' c') := (h.blk.below NR1.bel hlt).cell 9; have c81 : w1.cell? ⟨g, 8, none⟩ = some (.slice A n c) := (h.blk.below NR1.bel hlt).cell 8; clear hv1 hg1 ha1)
    | (refine step_appendKR (((w.alloc (.cells #[] 86)).alloc (.cells #[.int .i64 p, .int .i64 n] 86)).drew) rfl (.tmp 5) (.tmp 9) rfl (.slice (some ⟨w.heap.size, 0, none⟩) 0 0) [] rfl hN2.own A' n' c' F.blocks rfl hr2 hbd ?_; intro v1 w1 hv1 hg1 ha1; obtain ⟨A1, n1, c1, rfl, _⟩ := OwnK.rd hv1; have NR1 : NewK w w1 (.slice A1 n1 c1) ([] ++ F.blocks) := hN2.app hv1 hg1 ha1; have c91 : w1.cell? ⟨g, 9, none⟩ = some (.slice A' n' c') := (h.blk.below NR1.bel hlt).cell 9; have c81 : w1.cell? ⟨g, 8, none⟩ = some (.slice A n c) := (h.blk.below NR1.bel hlt).cell 8; have PK : RdK w1 (some ⟨w.heap.size + 1, 0, none⟩) 1 1 [(p, (n : Int))] := RdK.grown hp2 hg1 (fun b o e e' => by cases e; simp [Value.ownBlock] at e'); clear hv1 hg1 ha1)
    | (refine step_appendKR (((w.alloc (.cells #[.int .i64 p, .int .i64 n] 86)).alloc (.cells #[] 86)).drew) rfl (.tmp 5) (.tmp 9) rfl (.slice (some ⟨w.heap.size + 1, 0, none⟩) 0 0) [] rfl hN3.own A' n' c' F.blocks rfl hr3 hbd ?_; intro v1 w1 hv1 hg1 ha1; obtain ⟨A1, n1, c1, rfl, _⟩ := OwnK.rd hv1; have NR1 : NewK w w1 (.slice A1 n1 c1) ([] ++ F.blocks) := hN3.app hv1 hg1 ha1; have c91 : w1.cell? ⟨g, 9, none⟩ = some (.slice A' n' c') := (h.blk.below NR1.bel hlt).cell 9; have c81 : w1.cell? ⟨g, 8, none⟩ = some (.slice A n c) := (h.blk.below NR1.bel hlt).cell 8; have PK : RdK w1 (some ⟨w.heap.size, 0, none⟩) 1 1 [(p, (n : Int))] := RdK.grown hp3 hg1 (fun b o e e' => by cases e; simp [Value.ownBlock] at e'); clear hv1 hg1 ha1)
    | (have NRX := NR1.below (w' := w1.alloc (.cells #[.int .i64 p, .int .i64 n] 86)) ((Below.refl _ _).alloc (Nat.le_refl _) _); refine step_appendKR (w1.alloc (.cells #[.int .i64 p, .int .i64 n] 86)) rfl (.tmp 10) (.tmp 18) rfl (.slice A1 n1 c1) ([] ++ F.blocks) rfl NRX.own (some ⟨w1.heap.size, 0, none⟩) 1 1 [(p, (n : Int))] rfl (one_rdKR w1 p n) hbd2 ?_; intro v2 w2 hv2 hg2 ha2; obtain ⟨A2, n2, c2, rfl, _⟩ := OwnK.rd hv2; have NR2 : NewK w w2 (.slice A2 n2 c2) ([] ++ F.blocks ++ [(p, (n : Int))]) := NewK.app NRX hv2 hg2 ha2; have c92 : w2.cell? ⟨g, 9, none⟩ = some (.slice A' n' c') := (h.blk.below NR2.bel hlt).cell 9; have f92 := (h.blk.below NR2.bel hlt).frozen 9; clear hv2 hg2 ha2)
    | (have NRX := NR1; refine step_appendKR (w1) rfl (.tmp 10) (.tmp 18) rfl (.slice A1 n1 c1) ([] ++ F.blocks) rfl NR1.own (some ⟨w.heap.size + 1, 0, none⟩) 1 1 [(p, (n : Int))] rfl PK hbd2 ?_; intro v2 w2 hv2 hg2 ha2; obtain ⟨A2, n2, c2, rfl, _⟩ := OwnK.rd hv2; have NR2 : NewK w w2 (.slice A2 n2 c2) ([] ++ F.blocks ++ [(p, (n : Int))]) := NewK.app NRX hv2 hg2 ha2; have c92 : w2.cell? ⟨g, 9, none⟩ = some (.slice A' n' c') := (h.blk.below NR2.bel hlt).cell 9; have f92 := (h.blk.below NR2.bel hlt).frozen 9; clear hv2 hg2 ha2)
    | (have NRX := NR1; refine step_appendKR (w1) rfl (.tmp 10) (.tmp 18) rfl (.slice A1 n1 c1) ([] ++ F.blocks) rfl NR1.own (some ⟨w.heap.size, 0, none⟩) 1 1 [(p, (n : Int))] rfl PK hbd2 ?_; intro v2 w2 hv2 hg2 ha2; obtain ⟨A2, n2, c2, rfl, _⟩ := OwnK.rd hv2; have NR2 : NewK w w2 (.slice A2 n2 c2) ([] ++ F.blocks ++ [(p, (n : Int))]) := NewK.app NRX hv2 hg2 ha2; have c92 : w2.cell? ⟨g, 9, none⟩ = some (.slice A' n' c') := (h.blk.below NR2.bel hlt).cell 9; have f92 := (h.blk.below NR2.bel hlt).frozen 9; clear hv2 hg2 ha2))
  all_goals
    go_end0
    have hnr : NewK w w2 (.slice A2 n2 c2) (F.blocks ++ [(p, (n : Int))]) := by simpa using NR2
    refine ⟨rfl, IsFr.of (set_blocks_new (by decide) (by decide) (by decide) h hnr.own hnr.new hnr.bel) (by simpa [World.setCell] using hnr.bel.size) HSl.out (foot_k2 HS.out fun i e => .inr (hnr.new i e)), ?_⟩
    exact (Mod.new hnr.bel).setCell (fun _ => HS.out g (.inl rfl)) _
end Go.Proofs.Ythdkloojhenlkaa
