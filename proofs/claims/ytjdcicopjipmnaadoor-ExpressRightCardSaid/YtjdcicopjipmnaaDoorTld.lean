/- told: what Parse tells of tokens, and what the Builder has then. -/
import Derived.Test.YtjdcicopjipmnaaDoorTre
namespace Go.Proofs.YtjdcicopjipmnaaDoor
open Go.RowKit
set_option linter.unusedVariables false
set_option linter.unusedSimpArgs false
set_option maxRecDepth 100000 in
set_option maxHeartbeats 4000000 in
theorem tree_none {w : World} {A : Option Addr} {c bb : Nat} (hb : Blk w bb 71 #[.slice A 0 c]) :
    Calls Tryd.prog 35 #[.pointer (some ⟨bb, 0, none⟩)] w fun e w' => e = .returned (.slice none 0 0) ∧ w' = w := by
  have cb : w.cell? ⟨bb, 0, none⟩ = some (.slice A 0 c) := hb.cell 0
  have hlt := hb.lt
  clear hb
  go_enter Tryd.func35, Tryd.ntmps35
  go_wp2_with fail
  go_ret
  exact ⟨rfl, rfl⟩
theorem tree_any {w : World} {bb : Nat} {v : Value} {F : Nat → Prop} {ns : List NodeD} (hb : Blk w bb 71 #[v]) (hT : RowN F w v ns) (hK : KidsOk ns) (hbig : ns.length ≤ 1099511627775) :
    Calls Tryd.prog 35 #[.pointer (some ⟨bb, 0, none⟩)] w fun e w' => ∃ v, e = .returned v ∧ RowN (fun _ => False) w' v (treeOf ns) ∧ Below w.heap.size w w' ∧ ∀ g, v.ownBlock = some g → w.heap.size ≤ g := by
  obtain ⟨A, c, rfl, hr⟩ := hT.rdT
  by_cases hn : ns = []
  · subst hn
    refine (tree_none hb).mono ?_
    rintro e w' ⟨rfl, rfl⟩
    exact ⟨_, rfl, RowN.nil_ _ _, Below.refl _ _, fun g e => by cases e⟩
  · exact tree_some hb hr hK hT.kl hbig hn
theorem RowN.far {F : Nat → Prop} {w : World} {v : Value} {ns : List NodeD} {g : Nat} {t : TypeId} {cs : Array Value} (h : RowN F w v ns) (hb : Blk w g t cs) (h1 : t ≠ 51) (h2 : t ≠ 3) (i : Nat) (u : Value) : RowN F (w.setCell ⟨g, i, none⟩ u) v ns := by
  obtain ⟨Z, e, z1, z2⟩ := h
  refine RowN.keep ⟨Z, e, z1, z2⟩ (fun b hbv => Below.heap_setCell w ⟨g, i, none⟩ u b fun e2 => ?_) (fun k cs' hk _ hc => Below.heap_setCell w ⟨g, i, none⟩ u k fun e2 => ?_) (fun k _ hf => hf)
  · rw [show b = g from e2] at hbv
    exact own_blk_ne z1 hb (Ne.symm h1) hbv
  · exact Blk.ne_ (t := 3) (t' := t) hc hb (Ne.symm h2) e2
/-- the parse of tokens, and all its nodes -/
abbrev parsed (L : List TokD) : Option (PS × Int) := exprE L (L.length + 3) startS
set_option maxRecDepth 100000 in
set_option maxHeartbeats 4000000 in
theorem told_any {w : World} {A : Option Addr} {n c : Nat} {L : List TokD} {r : PS × Int} (hl : Rd w A n c 4 (L.flatMap tcs)) (hla : ∀ b o, A = some ⟨b, o, none⟩ → b < w.heap.size) (hn : L.length = n) (hbig : n ≤ 274877906944)
    (hts : ∀ t ∈ L, t.s.size ≤ maxLen) (htab : Asp w) (hr : parsed L = some r) :
    Calls Tryd.prog 16 #[.slice A n c] w fun e w' => ∃ v, e = .returned (.agg #[.int .i64 (nodeOf r), .int .i64 (usedOf r), .int .i64 r.1.e, v]) ∧ RowN (fun _ => False) w' v (treeOf r.1.ns) ∧ Below w.heap.size w w' := by
  have h0 : 0 < w.heap.size := by
    have hg : Tryd.prog.globalNamed "strings.asciiSpace" = some 0 := by kernel_rfl
    unfold Asp Lib.TabIs World.var? at htab
    rw [hg] at htab
    simp only [Option.bind_some] at htab
    rcases Nat.eq_zero_or_pos w.heap.size with h | h
    · rw [Array.getElem?_eq_none (by omega)] at htab; cases htab
    · exact h
  have hbl : Below w.heap.size w ((w.alloc (.cells #[.int .i64 0, .int .i64 0, .int .i64 0, .slice none 0 0] 31)).alloc (.cells #[.slice none 0 0] 71)) := (by repeat (first | exact Below.refl _ _ | assumption | refine Below.setCell ?_ (by first | (simp; done) | (simp; omega) | omega) _ | refine below_drewN ?_ _ | refine Below.drew ?_ | refine Below.alloc ?_ (by first | (simp; done) | (simp; omega) | omega) _))
  have hbb : Blk ((w.alloc (.cells #[.int .i64 0, .int .i64 0, .int .i64 0, .slice none 0 0] 31)).alloc (.cells #[.slice none 0 0] 71)) (w.heap.size + 1) 71 #[.slice none 0 0] := by
    have := Blk.new (w.alloc (.cells #[.int .i64 0, .int .i64 0, .int .i64 0, .slice none 0 0] 31)) 71 #[.slice none 0 0]
    rw [World.size_alloc] at this
    exact this
  have hra : Blk ((w.alloc (.cells #[.int .i64 0, .int .i64 0, .int .i64 0, .slice none 0 0] 31)).alloc (.cells #[.slice none 0 0] 71)) w.heap.size 31 #[.int .i64 0, .int .i64 0, .int .i64 0, .slice none 0 0] := (Blk.new w 31 _).alloc _
  have hg := exprE_gd L (L.length + 3) _ _ hr
  have hko : KidsOk r.1.ns := hg.1.kids (fun i x h => by cases h)
  have hcap : r.1.ns.length ≤ 1099511627775 := by
    have h1 := hg.1.cnt
    have h2 := hg.1.le (Nat.zero_le _)
    simp only [startS, List.length_nil] at h1
    omega
  have K := Lib.hid (parse_any (B := w.heap.size) hbb (by omega) h0 (hl.bel hbl) hla hn hbig hts (htab.below hbl) hr)
  have HB := Lib.hid hbl
  have HRA := Lib.hid hra
  have HKO := Lib.hid hko
  have HBS : Hid (w.heap.size ≤ ((w.alloc (.cells #[.int .i64 0, .int .i64 0, .int .i64 0, .slice none 0 0] 31)).alloc (.cells #[.slice none 0 0] 71)).heap.size) := Lib.hid (by simp; omega)
  clear hl hla hts htab hr hbl hbb hra hg hko
  go_enter Tryd.func16, Tryd.ntmps16
  go_wp2_with (first | (go_at_call 34; go_must (refine K.out.mono ?_); rintro e w1 ⟨rfl, ⟨v, hv1, hv2, hv3⟩, hk⟩; have HRA1 := Lib.hid (hk.blk HRA.out id (by decide)); have HB1 := Lib.hid (HB.out.trans (hk.below HBS.out (fun _ => False.elim))); have HV := Lib.hid hv1; have HN := Lib.hid hv3; clear hk hv1 hv2 hv3) | (go_at_call 35; go_must (refine (tree_any HV.out HN.out HKO.out hcap).mono ?_); rintro e w2 ⟨v2, rfl, hr2, hb2, hn2⟩; obtain ⟨A2, c2, rfl, -⟩ := hr2.rdT; have hra2 := HRA1.out.bel hb2; have x0 := hra2.cell 0; have x1 := hra2.cell 1; have x2 := hra2.cell 2; have x3 := hra2.cell 3; have f0 := hra2.frozen 0; have f1 := hra2.frozen 1; have f2 := hra2.frozen 2; have f3 := hra2.frozen 3; have xlt := hra2.lt; simp only [List.getElem?_toArray, List.getElem?_cons_zero, List.getElem?_cons_succ] at x0 x1 x2 x3; have HR2 := Lib.hid hr2; have HRA2 := Lib.hid hra2; have HB2 := Lib.hid (HB1.out.trans (hb2.mono HB1.out.size)); clear hr2 hra2 hb2 hn2))
  have b0 := HRA2.out
  have b1 := b0.set_ 0 (.int .i64 (nodeOf r))
  have b2 := b1.set_ 1 (.int .i64 (usedOf r))
  have b3 := b2.set_ 2 (.int .i64 r.1.e)
  have b4 := b3.set_ 3 (.slice A2 (treeOf r.1.ns).length c2)
  have hr4 := (((HR2.out.far b0 (by decide) (by decide) 0 (.int .i64 (nodeOf r))).far b1 (by decide) (by decide) 1 (.int .i64 (usedOf r))).far b2 (by decide) (by decide) 2 (.int .i64 r.1.e)).far b3 (by decide) (by decide) 3 (.slice A2 (treeOf r.1.ns).length c2)
  have hb2 := HB2.out
  have hb4 : Below w.heap.size w ((((w2.setCell ⟨w.heap.size, 0, none⟩ (.int .i64 (nodeOf r))).setCell ⟨w.heap.size, 1, none⟩ (.int .i64 (usedOf r))).setCell ⟨w.heap.size, 2, none⟩ (.int .i64 r.1.e)).setCell ⟨w.heap.size, 3, none⟩ (.slice A2 (treeOf r.1.ns).length c2)) := (by repeat (first | exact Below.refl _ _ | assumption | refine Below.setCell ?_ (by first | (simp; done) | (simp; omega) | omega) _ | refine below_drewN ?_ _ | refine Below.drew ?_ | refine Below.alloc ?_ (by first | (simp; done) | (simp; omega) | omega) _))
  generalize (((w2.setCell ⟨w.heap.size, 0, none⟩ (.int .i64 (nodeOf r))).setCell ⟨w.heap.size, 1, none⟩ (.int .i64 (usedOf r))).setCell ⟨w.heap.size, 2, none⟩ (.int .i64 r.1.e)).setCell ⟨w.heap.size, 3, none⟩ (.slice A2 (treeOf r.1.ns).length c2) = W4 at *
  have q0 := b4.cell 0
  have q1 := b4.cell 1
  have q2 := b4.cell 2
  have q3 := b4.cell 3
  simp at q0 q1 q2 q3
  refine bodyPost_ret (v := .agg #[.int .i64 (nodeOf r), .int .i64 (usedOf r), .int .i64 r.1.e, .slice A2 (treeOf r.1.ns).length c2]) (by first | (simp [results, Tryd.results16, go_sem, q0, q1, q2, q3]; done) | (simp [results, Tryd.results16, go_sem, q0, q1, q2, q3]; rfl)) rfl ?_
  exact ⟨_, rfl, hr4, hb4⟩
end Go.Proofs.YtjdcicopjipmnaaDoor
