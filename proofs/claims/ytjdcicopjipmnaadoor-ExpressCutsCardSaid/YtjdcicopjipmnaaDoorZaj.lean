/- Equal: a tree is the same as itself. The document's Right: rows of numbers; expr, exprs, ops, Kids. The document's maker of trees: what its nodes read as; how it stands in memory; next. ExpressPlaces in plain words; and rows of tokens and of nodes whose places are set. Rows of nodes that are copied, and whose places are set. -/
import Derived.Test.YtjdcicopjipmnaaDoorZag
import Derived.Test.YtjdcicopjipmnaaDoorZah
import Derived.Test.YtjdcicopjipmnaaDoorZai
namespace Go.Proofs.YtjdcicopjipmnaaDoor
set_option maxRecDepth 100000
set_option maxHeartbeats 4000000
section
open Go.RowKit
set_option linter.unusedVariables false
set_option linter.unusedSimpArgs false
theorem RdT.nth {w : World} {A : Option Addr} {m c : Nat} {ns : List NodeD} (h : RdT w A m c ns) {j : Nat} {x : NodeD} (hj : ns[j]? = some x) : ∃ b o A1 c1, A = some ⟨b, o, none⟩ ∧ b < w.heap.size ∧ w.cell? ⟨b, o + j * 5, none⟩ = some (.int .i64 x.op) ∧ w.cell? ⟨b, o + j * 5 + 1, none⟩ = some (.int .i64 x.at_) ∧ w.cell? ⟨b, o + j * 5 + 2, none⟩ = some (.string x.s) ∧ w.cell? ⟨b, o + j * 5 + 3, none⟩ = some (.int .i64 x.n) ∧ w.cell? ⟨b, o + j * 5 + 4, none⟩ = some (.slice A1 x.kids.length c1) ∧ Rd w A1 x.kids.length c1 1 (ics x.kids) := by
 obtain ⟨b, o, A1, c1, e2, hb, hc, hk⟩ := h.at_ hj
 exact ⟨b, o, A1, c1, e2, hb, hc 0 _ rfl, hc 1 _ rfl, hc 2 _ rfl, hc 3 _ rfl, hc 4 _ rfl, hk⟩
theorem Rd.kid {w : World} {A : Option Addr} {k c : Nat} {kids : List Int} (h : Rd w A k c 1 (ics kids)) {j : Nat} {y : Int} (hj : kids[j]? = some y) (hk : 0 < k) : ∃ b o, A = some ⟨b, o, none⟩ ∧ b < w.heap.size ∧ w.cell? ⟨b, o + j, none⟩ = some (.int .i64 y) := by
 obtain ⟨b, o, e, hb, hc⟩ := h.2.2.2 hk
 exact ⟨b, o, e, hb, hc j _ (by simp [ics, hj])⟩
theorem equal_same {w : World} {A A' : Option Addr} {n c c' : Nat} {T : List NodeD} (h1 : RdT w A n c T) (h2 : RdT w A' n c' T) (hks : ∀ (i : Nat) (x : NodeD), T[i]? = some x → x.kids.length ≤ 4398046511103) : Calls Tryd.prog 17 #[.slice A n c, .slice A' n c'] w fun e w' => e = .returned (.bool true) ∧ Below w.heap.size w w' := by
 have H1 := qh h1
 have H2 := qh h2
 have HN := qh h1.len
 have hbig : n ≤ 9223372036854775807 := h1.le
 have HKS := qh hks
 clear h1 h2 hks
 go_enter Tryd.func17, Tryd.ntmps17
 go_wp2_with fail
 go_loopw [5] (fun v5 wr => ∃ i : Nat, i ≤ n ∧ v5 = .int .i64 i ∧ Hid (Below w.heap.size w wr)) (fun v5 _ => n - (intOf v5).toNat)
 case atStart => exact ⟨0, Nat.zero_le _, rfl, qh (Below.refl _ _)⟩
 case round =>
  obtain ⟨i, hi, rfl, HB⟩ := hrel
  by_cases hlt : i < n
  ·have hil : i < T.length := by have := HN.out; omega
   obtain ⟨x, hx⟩ : ∃ x, T[i]? = some x := ⟨_, List.getElem?_eq_getElem hil⟩
   obtain ⟨b, o, K, d, rfl, hb, p0, p1, p2, p3, p4, hk⟩ := (H1.out.stay (StayC.bel HB.out)).nth hx
   obtain ⟨b', o', K', d', rfl, hb', q0, q1, q2, q3, q4, hk'⟩ := (H2.out.stay (StayC.bel HB.out)).nth hx
   have hkm := HKS.out i x hx
   obtain ⟨km, hkl⟩ : ∃ km, x.kids.length = km := ⟨_, rfl⟩
   rw [hkl] at p4 q4 hkm hk hk'
   have HK := qh hk
   have HK' := qh hk'
   have HKL := qh hkl
   clear hk hk' hx hkl hil
   go_upto_region 6 with fail
   simp only [List.append]
   go_quiet (fail)
   have hd : Below wr.heap.size wr (wr.drewN nq) := bln
   replace HB := qh (HB.out.trans (below_low hd HB.out.size))
   replace HK := qh (HK.out.bel hd)
   replace HK' := qh (HK'.out.bel hd)
   replace p4 := (World.cell?_of_block (a := ⟨_, _, none⟩) (hd.block _ hb)).trans p4
   replace q4 := (World.cell?_of_block (a := ⟨_, _, none⟩) (hd.block _ hb')).trans q4
   replace hb := Nat.lt_of_lt_of_le hb hd.size
   replace hb' := Nat.lt_of_lt_of_le hb' hd.size
   clear p0 p1 p2 p3 q0 q1 q2 q3 hd
   generalize wr.drewN nq = wo at HB HK HK' p4 q4 hb hb' ⊢
   go_wp2_with fail
   go_loopw [6] (fun v6 wq => ∃ j : Nat, j ≤ km ∧ v6 = .int .i64 j ∧ Hid (Below wo.heap.size wo wq)) (fun v6 _ => km - (intOf v6).toNat)
   case atStart => exact ⟨0, Nat.zero_le _, rfl, qh (Below.refl _ _)⟩
   case round =>
    obtain ⟨j, hj, rfl, HQ⟩ := hrel
    have hs := HQ.out.size
    have u4 := (World.cell?_of_block (a := ⟨_, _, none⟩) (HQ.out.block _ hb)).trans p4
    have v4 := (World.cell?_of_block (a := ⟨_, _, none⟩) (HQ.out.block _ hb')).trans q4
    have hb1 : b < wr.heap.size := by omega
    have hb2 : b' < wr.heap.size := by omega
    clear p4 q4
    by_cases hltj : j < km
    ·obtain ⟨y, hy⟩ : ∃ y, x.kids[j]? = some y := ⟨_, List.getElem?_eq_getElem (by have := HKL.out; omega)⟩
     obtain ⟨e, f, rfl, he, r0⟩ := (HK.out.bel HQ.out).kid hy (by omega)
     obtain ⟨e', f', rfl, he', r1⟩ := (HK'.out.bel HQ.out).kid hy (by omega)
     clear hy
     go_wp2_with fail
     go_quiet (fail)
     have hd : Below wr.heap.size wr (wr.drewN nq) := bln
     have HQ2 := qh (HQ.out.trans (below_low hd HQ.out.size))
     clear hd
     generalize wr.drewN nq = wz at HQ2 ⊢
     go_wp2_with fail
     go_round
     case rel => exact ⟨j + 1, by omega, by go_num, HQ2⟩
     case measure => simp [intOf]; omega
    ·go_wp2_with fail
     go_round
     case rel => exact ⟨i + 1, by omega, by go_num, qh (HB.out.trans (below_low HQ.out HB.out.size))⟩
     case measure => simp [intOf]; omega
  ·go_wp2_with fail
   go_ret
   exact ⟨rfl, HB.out⟩
end
section
open Go.RowKit
set_option linter.unusedVariables false
set_option linter.unusedSimpArgs false
theorem Rd.intG {g : Nat} {w : World} (hg : g = w.heap.size) (x : Int) : Rd (w.alloc (.cells #[.int .i64 x] 3)) (some ⟨g, 0, none⟩) 1 1 1 (ics [x]) := by
 subst hg
 exact Rd.ints w [x] _ 1 rfl rfl (by omega)
end
section
open Go.RowKit
set_option linter.unusedVariables false
set_option linter.unusedSimpArgs false
mutual
/-- node i of T reads as a tree -/
inductive RdTr (T : List NodeD) : Nat → Tr → Prop
 | mk {i : Nat} {x : NodeD} {ks : List Tr} : T[i]? = some x → RdTs T i x.kids ks → RdTr T i (.mk x.op x.n x.s ks)
inductive RdTs (T : List NodeD) : Nat → List Int → List Tr → Prop
 | nil {i : Nat} : RdTs T i [] []
 | cons {i j : Nat} {l : List Int} {k : Tr} {ks : List Tr} : j < i → RdTr T j k → RdTs T i l ks → RdTs T i ((j : Int) :: l) (k :: ks)
end
mutual
theorem RdTr.mono {T U : List NodeD} : ∀ {i : Nat} {e : Tr}, RdTr T i e → RdTr (T ++ U) i e
 | _, _, .mk h1 h2 => .mk (by rw [List.getElem?_append_left (List.getElem?_eq_some_iff.1 h1).1]; exact h1) h2.mono
theorem RdTs.mono {T U : List NodeD} : ∀ {i : Nat} {l : List Int} {ks : List Tr}, RdTs T i l ks → RdTs (T ++ U) i l ks
 | _, _, _, .nil => .nil
 | _, _, _, .cons h1 h2 h3 => .cons h1 h2.mono h3.mono
end
theorem RdTr.lt {T : List NodeD} {i : Nat} {e : Tr} (h : RdTr T i e) : i < T.length := by
 cases h with
 | mk h1 _ => exact (List.getElem?_eq_some_iff.1 h1).1
theorem RdTs.up {T : List NodeD} : ∀ {i j : Nat} {l : List Int} {ks : List Tr}, RdTs T i l ks → i ≤ j → RdTs T j l ks
 | _, _, _, _, .nil, _ => .nil
 | _, _, _, _, .cons h1 h2 h3, hj => .cons (by omega) h2 (h3.up hj)
theorem RdTs.app {T : List NodeD} : ∀ {i : Nat} {l l' : List Int} {ks ks' : List Tr}, RdTs T i l ks → RdTs T i l' ks' → RdTs T i (l ++ l') (ks ++ ks')
 | _, _, _, _, _, .nil, h => h
 | _, _, _, _, _, .cons h1 h2 h3, h => .cons h1 h2 (h3.app h)
theorem RdTs.len {T : List NodeD} : ∀ {i : Nat} {l : List Int} {ks : List Tr}, RdTs T i l ks → l.length = ks.length
 | _, _, _, .nil => rfl
 | _, _, _, .cons _ _ h => by simp [h.len]
theorem RdTr.new {T : List NodeD} {x : NodeD} {ks : List Tr} (h : RdTs T T.length x.kids ks) : RdTr (T ++ [x]) T.length (.mk x.op x.n x.s ks) := .mk (by simp) h.mono
def Xp (T : List NodeD) (d : Int) (r : Int) : Prop := ∃ (k : Nat) (e : Tr), r = k ∧ RdTr T k e ∧ Good e ∧ Tr.dep e ≤ d
theorem Xp.mono {T U : List NodeD} {d d' r : Int} (h : Xp T d r) (hd : d ≤ d') : Xp (T ++ U) d' r := by
 obtain ⟨k, e, h1, h2, h3, h4⟩ := h
 exact ⟨k, e, h1, h2.mono, h3, by omega⟩
def Xs (T : List NodeD) (d : Int) (l : List Int) : Prop := ∃ ks, RdTs T T.length l ks ∧ (∀ k ∈ ks, Good k ∧ Tr.dep k ≤ d)
theorem Xs.nil_ (T : List NodeD) (d : Int) : Xs T d [] := ⟨[], .nil, fun k h => by cases h⟩
theorem Xs.mono {T U : List NodeD} {d d' : Int} {l : List Int} (h : Xs T d l) (hd : d ≤ d') : Xs (T ++ U) d' l := by
 obtain ⟨ks, h1, h2⟩ := h
 exact ⟨ks, h1.mono.up (by simp), fun k hk => ⟨(h2 k hk).1, by have := (h2 k hk).2; omega⟩⟩
theorem Xs.snoc {T : List NodeD} {d r : Int} {l : List Int} (h : Xs T d l) (hx : Xp T d r) : Xs T d (l ++ [r]) := by
 obtain ⟨ks, h1, h2⟩ := h
 obtain ⟨k, e, rfl, h3, h4, h5⟩ := hx
 refine ⟨ks ++ [e], h1.app (.cons h3.lt h3 .nil), fun y hy => ?_⟩
 rcases List.mem_append.1 hy with hy | hy
 ·exact h2 y hy
 ·rw [List.mem_singleton.1 hy]
  exact ⟨h4, h5⟩
theorem Xs.one {T : List NodeD} {d r : Int} (hx : Xp T d r) : Xs T d [r] := (Xs.nil_ T d).snoc hx
def GoodT (T : List NodeD) : Prop := ∀ (i : Nat) (x : NodeD), T[i]? = some x → 1 ≤ x.op → x.op ≤ 21 → ∃ e, RdTr T i e ∧ Good e ∧ Tr.dep e ≤ 12
theorem GoodT.nil_ : GoodT [] := fun i x h => by cases h
theorem GoodT.snoc {T : List NodeD} {x : NodeD} (h : GoodT T) (hx : 1 ≤ x.op → x.op ≤ 21 → ∃ e, RdTr (T ++ [x]) T.length e ∧ Good e ∧ Tr.dep e ≤ 12) : GoodT (T ++ [x]) := by
 intro i y hi h1 h2
 rcases Nat.lt_trichotomy i T.length with h3 | h3 | h3
 ·rw [List.getElem?_append_left h3] at hi
  obtain ⟨e, a, b, c⟩ := h i y hi h1 h2
  exact ⟨e, a.mono, b, c⟩
 ·subst h3
  rw [List.getElem?_append_right (Nat.le_refl _), Nat.sub_self] at hi
  obtain rfl := Option.some.inj hi
  exact hx h1 h2
 ·rw [List.getElem?_eq_none (by simp; omega)] at hi
  cases hi
theorem Xs.node {T : List NodeD} {d : Int} {l : List Int} (h : Xs T d l) {op n : Int} {s : ByteArray} (hg : ∀ ks, ks.length = l.length → (∀ k ∈ ks, Good k) → Good (.mk op n s ks)) (hd : 0 ≤ d) : ∃ e, RdTr (T ++ [⟨op, 0, s, n, l⟩]) T.length e ∧ Good e ∧ Tr.dep e ≤ d + 1 := by
 obtain ⟨ks, h1, h2⟩ := h
 refine ⟨_, RdTr.new (x := ⟨op, 0, s, n, l⟩) h1, hg ks h1.len.symm fun k hk => (h2 k hk).1, ?_⟩
 have key : ∀ ks : List Tr, (∀ k ∈ ks, Good k ∧ Tr.dep k ≤ d) → Tr.depm ks ≤ d := by
  intro ks
  induction ks with
  | nil => exact fun _ => hd
  | cons k ks ih =>
   intro hh
   simp only [Tr.depm]
   have := (hh k (.head _)).2
   have := ih fun k hk => hh k (.tail _ hk)
   omega
 have := key ks h2
 simp only [Tr.dep]
 omega
def nextV (S : List Int) (at_ : Nat) (n : Int) : Int := match S[at_]? with
 | none => 0
 | some x => (Int.tmod x n + n) % n
def nextA (S : List Int) (at_ : Nat) : Nat := if at_ < S.length then at_ + 1 else at_
theorem nextV_ok (S : List Int) (at_ : Nat) {n : Int} (hn : 0 < n) : 0 ≤ nextV S at_ n ∧ nextV S at_ n < n := by
 unfold nextV
 split
 ·omega
 ·exact ⟨Int.emod_nonneg _ (by omega), Int.emod_lt_of_pos _ hn⟩
structure Mk (B mb : Nat) (F : Nat → Prop) (S : List Int) (at_ : Nat) (T : List NodeD) (w : World) : Prop where
 hB : B ≤ mb
 wB : B ≤ w.heap.size
 m : ∃ A n c v, Blk w mb 87 #[.slice A n c, .int .i64 at_, v, .int .i64 (160 - (T.length : Int))] ∧ Rd w A n c 1 (ics S) ∧ S.length = n ∧ (∀ b o, A = some ⟨b, o, none⟩ → b < B) ∧ (∀ g, v.ownBlock = some g → B ≤ g) ∧ RowN F w v T
 at_ : at_ ≤ S.length
 sl : S.length ≤ 40
 sr : ∀ x ∈ S, -9223372036854775808 ≤ x ∧ x ≤ 9223372036854775807
 good : GoodT T
 cap : T.length ≤ 549755813888
 fl : ∀ k, F k → k < w.heap.size
abbrev Kp (B mb : Nat) (w w' : World) : Prop := KeepE B (fun k => k = mb) w w'
theorem Mk.lt {B mb at_ : Nat} {F : Nat → Prop} {S : List Int} {T : List NodeD} {w : World} (h : Mk B mb F S at_ T w) : mb < w.heap.size := by
 obtain ⟨A, n, c, v, h1, _⟩ := h.m
 exact h1.lt
theorem RowN.belF {F F' : Nat → Prop} {w w' : World} {v : Value} {T : List NodeD} (h : RowN F w v T) (hb : Below w.heap.size w w') (hF : ∀ k, F' k → F k ∨ w.heap.size ≤ k) : RowN F' w' v T := by
 obtain ⟨Z, e, z1, z2⟩ := h
 exact RowN.keep ⟨Z, e, z1, z2⟩ (fun b hbv => hb.block b (z1.lt hbv)) (fun k cs hk _ _ => hb.block k hk) (fun k hk hf => (hF k hf).resolve_right (by omega))
theorem Mk.belF {B mb at_ : Nat} {F F' : Nat → Prop} {S : List Int} {T : List NodeD} {w w' : World} (h : Mk B mb F S at_ T w) (hb : Below w.heap.size w w') (hF : ∀ k, F' k → F k ∨ w.heap.size ≤ k) (hl : ∀ k, F' k → k < w'.heap.size) : Mk B mb F' S at_ T w' := by
 obtain ⟨A, n, c, v, h1, h2, h3, h4, h5, h6⟩ := h.m
 exact ⟨h.hB, Nat.le_trans h.wB hb.size, ⟨A, n, c, v, h1.bel hb, h2.bel hb, h3, h4, h5, h6.belF hb hF⟩, h.at_, h.sl, h.sr, h.good, h.cap, hl⟩
theorem Mk.bel {B mb at_ : Nat} {F : Nat → Prop} {S : List Int} {T : List NodeD} {w w' : World} (h : Mk B mb F S at_ T w) (hb : Below w.heap.size w w') : Mk B mb F S at_ T w' := h.belF hb (fun _ => .inl) fun k hk => Nat.lt_of_lt_of_le (h.fl k hk) hb.size
theorem Mk.less {B mb at_ : Nat} {F F' : Nat → Prop} {S : List Int} {T : List NodeD} {w : World} (h : Mk B mb F S at_ T w) (hF : ∀ k, F' k → F k) : Mk B mb F' S at_ T w := h.belF (Below.refl _ _) (fun k hk => .inl (hF k hk)) fun k hk => h.fl k (hF k hk)
theorem Mk.turn {B mb at_ at' : Nat} {F : Nat → Prop} {S : List Int} {T : List NodeD} {w w' : World} (h : Mk B mb F S at_ T w) (hm : Mod (· = mb) w w') (hat : at' ≤ S.length)
  (hb : ∀ A n c v, Blk w mb 87 #[.slice A n c, .int .i64 at_, v, .int .i64 (160 - (T.length : Int))] → Blk w' mb 87 #[.slice A n c, .int .i64 at', v, .int .i64 (160 - (T.length : Int))]) : Mk B mb F S at' T w' ∧ Kp B mb w w' := by
 obtain ⟨A, n, c, v, h1, h2, h3, h4, h5, Z, e, z1, z2⟩ := h.m
 refine ⟨⟨h.hB, Nat.le_trans h.wB hm.size, ⟨A, n, c, v, hb A n c v h1, h2.mod hm (fun b o e hb => ?_), h3, h4, h5, RowN.keep ⟨Z, e, z1, z2⟩ (fun b hbv => hm.block b (z1.lt hbv) fun e2 => ?_) (fun k cs hk _ hc => hm.block k hk fun e2 => ?_) (fun k _ hf => hf)⟩, hat, h.sl, h.sr, h.good, h.cap, fun k hk => Nat.lt_of_lt_of_le (h.fl k hk) hm.size⟩, KeepE.of_mod hm fun k hk e => .inl e⟩
 ·have := h4 b o e
  have := h.hB
  omega
 ·subst e2
  exact own_blk_ne z1 h1 (by decide) hbv
 ·subst e2
  exact Blk.ne_ (t := 3) hc h1 (by decide) rfl
theorem Mk.grown {B mb at_ : Nat} {F : Nat → Prop} {S : List Int} {T : List NodeD} {w w1 w2 : World} {v v' : Value} {xs : List Int} (h : Mk B mb (fun k => F k ∨ v.ownBlock = some k) S at_ T w) (hb : Below w.heap.size w w1) (ho : OwnI w v xs) (hvB : ∀ b, v.ownBlock = some b → B ≤ b)
  (hg : w1.grownBy w2 v.ownBlock) (hn : v'.ownBlock = v.ownBlock ∨ v'.ownBlock = some w1.heap.size) (hl : ∀ b, v'.ownBlock = some b → b < w2.heap.size) : Mk B mb (fun k => F k ∨ v'.ownBlock = some k) S at_ T w2 := by
 have hM := h.bel hb
 have hs := hg.size
 have ho1 : OwnI w1 v xs := OwnI.bel ho hb
 obtain ⟨A, n, c, v1, h1, h2, h3, h4, h5, Z, e, z1, z2⟩ := hM.m
 refine ⟨h.hB, Nat.le_trans hM.wB hs, ⟨A, n, c, v1, h1.grown hg (fun e => ?_), h2.keep hs (fun b o e hb2 => hg.block b hb2 fun e2 => ?_), h3, h4, h5, RowN.keep ⟨Z, e, z1, z2⟩ (fun b hbv => hg.block b (z1.lt hbv) fun e2 => ?_) (fun k cs hk hF _ => hg.block k hk fun e2 => hF (.inr e2.symm)) (fun k hk hf => ?_)⟩, h.at_, h.sl, h.sr, h.good, h.cap, fun k hk => ?_⟩
 ·exact own_blk_ne ho1 h1 (by decide) e.symm
 ·have := h4 b o e
  have := hvB b e2.symm
  omega
 ·exact own_own_ne z1 ho1 (by decide) hbv e2.symm
 ·rcases hf with hf | hf
  ·exact .inl hf
  ·rcases hn with hn | hn
   ·exact .inr (hn ▸ hf)
   ·rw [hn] at hf
    injection hf with hf
    omega
 ·rcases hk with hk | hk
  ·exact Nat.lt_of_lt_of_le (hM.fl k (.inl hk)) hs
  ·exact hl k hk
theorem KeepE.grown {B : Nat} {E : Nat → Prop} {w w1 w2 : World} {row : Option Nat} (h : KeepE B E w w1) (hg : w1.grownBy w2 row) (hr : ∀ k, row = some k → w.heap.size ≤ k) : KeepE B E w w2 :=
 ⟨hg.os.trans h.os, hg.tape.trans h.tape, hg.output.trans h.output, Nat.le_trans h.size hg.size, fun k hk hE hc => (hg.block k (Nat.lt_of_lt_of_le hk h.size) (fun e => by have := hr k e.symm; omega)).trans (h.block k hk hE hc)⟩
end
section
open Go.RowKit
set_option linter.unusedVariables false
set_option linter.unusedSimpArgs false
theorem OwnT.rdm {w : World} {A : Option Addr} {n c : Nat} {L : List TokD} (h : OwnT w (.slice A n c) L) (hm : L.length = n) : Rd w A n c 4 (L.flatMap tcs) := by
 subst hm
 exact OwnT.rd_ h
end
section
open Go.RowKit
set_option linter.unusedVariables false
set_option linter.unusedSimpArgs false
theorem zcs_one (Z : List NdS) : ∀ u ∈ Z.flatMap NdS.cs, u.oneCell' = true := by
 intro u hu
 obtain ⟨z, _, hz⟩ := List.mem_flatMap.1 hu
 simp only [NdS.cs, NdS.v, List.mem_cons, List.not_mem_nil, or_false] at hz
 rcases hz with rfl | rfl | rfl | rfl | rfl <;> rfl
def OwnZ (w : World) (v : Value) (Z : List NdS) : Prop := Own w 51 5 v Z.length (Z.flatMap NdS.cs)
theorem wpList_appendZ {ops : Array Oper} {rest : List Oper} {o : Oper} {a : Act} {Q : Exit → Act → World → Prop} (w : World) (hgd : o.guard = none) (s x : Operand) (ho : o.op = .call { callee := .builtin .append, args := #[s, x], argTypes := #[25, 25] })
  (v : Value) (Z : List NdS) (hs : a.eval s = v) (hown : OwnZ w v Z) (A : Option Addr) (m c : Nat) (Y : List NdS) (hx : a.eval x = .slice A m c) (hr : Rd w A m c 5 (Y.flatMap NdS.cs)) (hm : Y.length = m) (hbound : Z.length + m ≤ 1099511627776)
  (h : ∀ v' w', OwnZ w' v' (Z ++ Y) → w.grownBy w' v.ownBlock → (v'.ownBlock = v.ownBlock ∨ v'.ownBlock = some w.heap.size) → wpList Tryd.prog ops Q rest (a.put o.dst v') w') :
  wpList Tryd.prog ops Q (o :: rest) a w := by
 obtain ⟨i0, hi, hz0, hz1, hz2⟩ := info_parts info_Node
 refine wpList_append_Own w hgd s x _ ho _ i0 _ 5 64 Tryd.underlying25 hi hz0 hz1 hz2 rfl v Z.length (Z.flatMap NdS.cs) hs hown A m c (Y.flatMap NdS.cs) hx hr (zcs_one Y) (by omega) (by omega) (fun v' w' h1 h2 h3 => h v' w' ?_ h2 h3)
 unfold OwnZ
 rw [List.length_append, List.flatMap_append, hm]
 exact h1
def setZ (u : Int) (z : NdS) : NdS := { z with x := { z.x with at_ := u } }
theorem zflat_set : ∀ (M : List NdS) (i : Nat) (z : NdS) (u : Int), M[i]? = some z → (M.flatMap NdS.cs).set (i * 5 + 1) (.int .i64 u) = (M.set i (setZ u z)).flatMap NdS.cs
 | [], i, t, u, h => by cases h
 | x :: M, 0, t, u, h => by
  obtain rfl := Option.some.inj h
  rfl
 | x :: M, i + 1, t, u, h => by
  have h4 : (NdS.cs x).length = 5 := rfl
  rw [List.flatMap_cons, List.set_append_right _ _ (by omega), h4, show (i + 1) * 5 + 1 - 5 = i * 5 + 1 from by omega, zflat_set M i t u h, List.set_cons_succ, List.flatMap_cons]
theorem OwnZ.at0 {w : World} {A : Option Addr} {n c : Nat} {Z : List NdS} (h : OwnZ w (.slice A n c) Z) (hn : 0 < n) : ∃ b, A = some ⟨b, 0, none⟩ ∧ (∃ cur, Blk w b 51 cur) := by
 rcases h.2 with ⟨e, hz⟩ | ⟨g, c', cur, e, hg, _⟩
 ·injection e with e1 e2 e3
  omega
 ·injection e with e1 e2 e3
  exact ⟨g, e1, cur, hg⟩
theorem OwnZ.set_ {w : World} {b n c i : Nat} {Z : List NdS} {z : NdS} (h : OwnZ w (.slice (some ⟨b, 0, none⟩) n c) Z) (hn : Z.length = n) (hi : Z[i]? = some z) (u : Int) :
  w.cell? ⟨b, i * 5 + 1, none⟩ = some (.int .i64 z.x.at_) ∧ w.frozen? ⟨b, i * 5 + 1, none⟩ = false ∧ OwnZ (w.setCell ⟨b, i * 5 + 1, none⟩ (.int .i64 u)) (.slice (some ⟨b, 0, none⟩) n c) (Z.set i (setZ u z)) := by
 subst hn
 have hlt := (List.getElem?_eq_some_iff.1 hi).1
 obtain ⟨h1, h2, h3⟩ := Own.set_ (j := i * 5 + 1) h (by omega) (.int .i64 u)
 refine ⟨?_, h2, ?_⟩
 ·rw [h1]
  exact zflat_at hi 1 _ rfl
 ·unfold OwnZ
  rw [List.length_set, ← zflat_set Z i z u hi]
  exact h3
theorem OwnZ.rdT {w w0 : World} {A : Option Addr} {n c : Nat} {Z : List NdS} (h : OwnZ w (.slice A n c) Z) (hn : Z.length = n) (hk : ∀ z ∈ Z, Rd w0 z.A z.x.kids.length z.c 1 (ics z.x.kids)) (hb : Below w0.heap.size w0 w) : RdT w A n c (Z.map (·.x)) := by
 obtain ⟨A', c', e, hr, _⟩ := Own.rd h
 injection e with e1 e2 e3
 subst e1 e3 hn
 exact ⟨Z, rfl, rfl, hr, fun z hz => (hk z hz).bel hb⟩
theorem RowN.rdm {F : Nat → Prop} {w : World} {A : Option Addr} {m c : Nat} {ns : List NodeD} (h : RowN F w (.slice A m c) ns) : RdT w A m c ns := by
 obtain ⟨A', c', e, hr⟩ := h.rdT
 injection e with e1 e2 e3
 subst e1 e3
 rw [← e2] at hr
 exact hr
theorem OwnZ.back {w w0 : World} {A : Option Addr} {n c : Nat} {Z : List NdS} {f : NdS → Int} (h : OwnZ w (.slice A n c) (Z.map fun z => setZ (f z) z)) (hn : (Z.map fun z => setZ (f z) z).length = n) (hk : ∀ z ∈ Z, Rd w0 z.A z.x.kids.length z.c 1 (ics z.x.kids)) (hb : Below w0.heap.size w0 w) : RdT w A n c ((Z.map fun z => setZ (f z) z).map (·.x)) :=
 h.rdT hn (fun z hz => by
  obtain ⟨y, hy, rfl⟩ := List.mem_map.1 hz
  exact hk y hy) hb
end
end Go.Proofs.YtjdcicopjipmnaaDoor
