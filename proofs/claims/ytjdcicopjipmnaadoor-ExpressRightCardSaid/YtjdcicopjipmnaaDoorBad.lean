/- Builder.Add. -/
import Derived.Test.YtjdcicopjipmnaaDoorSta
namespace Go.Proofs.YtjdcicopjipmnaaDoor
open Go.RowKit
set_option linter.unusedVariables false
set_option linter.unusedSimpArgs false
theorem info_Int : (Tryd.prog.info? 3).map (fun i => (i.zero, i.size, i.bytes)) = some (some (.int .i64 0), 1, 8) := by kernel_rfl
theorem info_Node : (Tryd.prog.info? 51).map (fun i => (i.zero, i.size, i.bytes)) = some (some (.agg #[.int .i64 0, .int .i64 0, .string ⟨#[]⟩, .int .i64 0, .slice none 0 0]), 5, 64) := by kernel_rfl
section
variable {ops : Array Oper} {rest : List Oper} {o : Oper} {a : Act} {Q : Exit → Act → World → Prop}
/-- append onto one's own row of ints -/
theorem wpList_appendN (w : World) (hgd : o.guard = none) (s x : Operand) (ho : o.op = .call { callee := .builtin .append, args := #[s, x], argTypes := #[22, 22] })
    (v : Value) (xs : List Int) (hs : a.eval s = v) (hown : OwnI w v xs) (A : Option Addr) (m c : Nat) (ys : List Int) (hx : a.eval x = .slice A m c) (hr : Rd w A m c 1 (ics ys)) (hm : ys.length = m) (hbound : xs.length + m ≤ 4398046511104)
    (h : ∀ v' w', OwnI w' v' (xs ++ ys) → w.grownBy w' v.ownBlock → (v'.ownBlock = v.ownBlock ∨ v'.ownBlock = some w.heap.size) → wpList Tryd.prog ops Q rest (a.put o.dst v') w') : wpList Tryd.prog ops Q (o :: rest) a w := by
  obtain ⟨i0, hi, hz0, hz1, hz2⟩ := info_parts info_Int
  refine wpList_append_Own w hgd s x _ ho _ i0 _ 1 8 Tryd.underlying22 hi hz0 hz1 hz2 rfl v xs.length (ics xs) hs hown A m c (ics ys) hx hr (ics_oneCell ys) (by omega) (by omega) (fun v' w' h1 h2 h3 => h v' w' ?_ h2 h3)
  unfold OwnI
  rw [List.length_append, ics_append, hm]
  exact h1
/-- append one node onto one's own row of nodes -/
theorem step_appendNode (w : World) {K : Act → World → Prop} {E : Prop} (hgd : o.guard = none) (s x : Operand) (ho : o.op = .call { callee := .builtin .append, args := #[s, x], argTypes := #[25, 25] })
    (v : Value) (Z : List NdS) (hs : a.eval s = v) (hown : Own w 51 5 v Z.length (Z.flatMap NdS.cs)) (A : Option Addr) (c : Nat) (z : NdS) (hx : a.eval x = .slice A 1 c) (hr : Rd w A 1 c 5 z.cs) (hbound : Z.length + 1 ≤ 1099511627776)
    (h : ∀ v' w', Own w' 51 5 v' (Z ++ [z]).length ((Z ++ [z]).flatMap NdS.cs) → w.grownBy w' v.ownBlock → (v'.ownBlock = v.ownBlock ∨ v'.ownBlock = some w.heap.size) → K (a.put o.dst v') w') :
    if Region.wanted o (yielded ops a.tmps) = true then Oper.wp Tryd.prog o a w K Q else E := by
  obtain ⟨i0, hi, hz0, hz1, hz2⟩ := info_parts info_Node
  refine step_append_Own w hgd s x _ ho _ i0 _ 5 64 Tryd.underlying25 hi hz0 hz1 hz2 rfl v Z.length (Z.flatMap NdS.cs) hs hown A 1 c z.cs hx hr ?_ (by omega) (by omega) (fun v' w' h1 h2 h3 => h v' w' ?_ h2 h3)
  · intro u hu
    simp only [NdS.cs, NdS.v, List.mem_cons, List.not_mem_nil, or_false] at hu
    rcases hu with rfl | rfl | rfl | rfl | rfl <;> rfl
  · rw [List.length_append, List.flatMap_append, List.flatMap_singleton]
    exact h1
end
theorem Rd.one {w : World} {t : TypeId} {x : Value} : Rd (w.alloc (.cells #[x] t)) (some ⟨w.heap.size, 0, none⟩) 1 1 1 [x] :=
  ⟨Nat.le_refl _, by omega, rfl, fun _ => ⟨w.heap.size, 0, rfl, by simp, fun j u hj => by
    rw [Nat.zero_add, (Blk.new w t _).cell]
    simpa using hj⟩⟩

def keepK (n : Nat) (kids : List Int) : List Int := kids.filter fun k => decide (0 ≤ k ∧ k < n)
theorem keepK_snoc (n : Nat) (kids : List Int) (j : Nat) (k : Int) (h : kids[j]? = some k) : keepK n (kids.take (j + 1)) = if 0 ≤ k ∧ k < n then keepK n (kids.take j) ++ [k] else keepK n (kids.take j) := by
  unfold keepK
  rw [List.take_add_one, h, List.filter_append]
  by_cases hk : 0 ≤ k ∧ k < (n : Int)
  · rw [if_pos hk]
    congr 1
    simp [hk.1, hk.2]
  · rw [if_neg hk]
    simp only [Option.toList_some, List.filter_cons, List.filter_nil]
    rw [if_neg (by simpa using hk), List.append_nil]
theorem Rd.node {w : World} {z : NdS} : Rd (w.alloc (.cells z.cs.toArray 51)) (some ⟨w.heap.size, 0, none⟩) 1 1 5 z.cs :=
  ⟨Nat.le_refl _, by omega, rfl, fun _ => ⟨w.heap.size, 0, rfl, by simp, fun j u hj => by
    rw [Nat.zero_add, (Blk.new w 51 _).cell]
    simpa using hj⟩⟩
theorem badd_fin {w wr W' w6 : World} {F : Nat → Prop} {bb : Nat} {v v6 : Value} {Z : List NdS} {z : NdS} {ns : List NodeD} (hB : Below w.heap.size w wr) (hW : Below wr.heap.size wr W') (hN : Blk w bb 71 #[v]) (hO : Own w 51 5 v Z.length (Z.flatMap NdS.cs))
    (hzl : z.x.kids.length ≤ 4398046511103) (hA : ∀ z ∈ Z, OwnI w z.v z.x.kids ∧ (∀ b, z.v.ownBlock = some b → ¬ F b) ∧ z.x.kids.length ≤ 4398046511103) (hZ : Z.map (·.x) = ns) (hF : ∀ k, F k → k < w.heap.size) (hz : OwnI wr z.v z.x.kids) (hv : ∀ g, z.v.ownBlock = some g → w.heap.size < g)
    (h6 : Own w6 51 5 v6 (Z ++ [z]).length ((Z ++ [z]).flatMap NdS.cs)) (hg : W'.grownBy w6 v.ownBlock) (hn : v6.ownBlock = v.ownBlock ∨ v6.ownBlock = some W'.heap.size) :
    Blk (w6.setCell ⟨bb, 0, none⟩ v6) bb 71 #[v6] ∧ (∀ g, v6.ownBlock = some g → v.ownBlock = some g ∨ w.heap.size ≤ g) ∧ RowN F (w6.setCell ⟨bb, 0, none⟩ v6) v6 (ns ++ [z.x]) ∧ Mod (fun k => k = bb ∨ v.ownBlock = some k) w (w6.setCell ⟨bb, 0, none⟩ v6) := by
  have hBW : Below w.heap.size w W' := hB.trans (hW.mono hB.size)
  have hs := hB.size
  have hs2 := hW.size
  have hNW := hN.bel hBW
  have hOW : Own W' 51 5 v Z.length (Z.flatMap NdS.cs) := hO.new hBW
  have hrow : v.ownBlock ≠ some bb := own_blk_ne hOW hNW (by decide)
  have hN6 : Blk w6 bb 71 #[v] := hNW.grown hg (fun e => hrow e.symm)
  have kid : ∀ {y : Value} {xs : List Int}, OwnI W' y xs → OwnI (w6.setCell ⟨bb, 0, none⟩ v6) y xs := by
    intro y xs hy
    unfold OwnI at hy ⊢
    refine Own.keep (w := w6) (Own.keep hy fun b hb => hg.block b (hy.lt hb) fun e => ?_) fun b hb => Below.heap_setCell w6 _ _ b ?_
    · exact own_own_ne hy hOW (by decide) hb e.symm
    · rintro rfl
      exact own_blk_ne hy hNW (by decide) hb
  refine ⟨hN6.set_ 0 v6, fun g hg6 => ?_, ⟨Z ++ [z], by rw [List.map_append, hZ]; rfl, ?_, fun y hy => ?_⟩, ?_⟩
  · rcases hn with e | e
    · exact .inl (e ▸ hg6)
    · rw [e] at hg6
      injection hg6 with hg6
      exact .inr (by omega)
  · refine Own.keep h6 fun b hb => Below.heap_setCell w6 _ _ b ?_
    rintro rfl
    exact own_blk_ne h6 hN6 (by decide) hb
  · rcases List.mem_append.1 hy with hy | hy
    · obtain ⟨h1, h2⟩ := hA y hy
      exact ⟨kid (h1.bel hBW), h2⟩
    · rw [List.mem_singleton.1 hy]
      exact ⟨kid (hz.bel hW), fun b hb hf => by have := hv b hb; have := hF b hf; omega, hzl⟩
  · refine Mod.setCell (p := ⟨bb, 0, none⟩) ?_ (fun _ => .inl rfl) _
    exact ⟨hg.os.trans hBW.os, hg.tape.trans hBW.tape, hg.output.trans hBW.output, Nat.le_trans hBW.size hg.size, fun i hi hne => (hg.block i (Nat.lt_of_lt_of_le hi hBW.size) (fun e => hne (.inr e.symm))).trans (hBW.block i hi)⟩
set_option maxRecDepth 100000 in
set_option maxHeartbeats 4000000 in
theorem badd_any {w : World} {F : Nat → Prop} {bb k c : Nat} {v : Value} {A : Option Addr} {ns : List NodeD} {kids : List Int} (hb : Blk w bb 71 #[v]) (hv : RowN F w v ns) (hF : ∀ k, F k → k < w.heap.size) (hns : ns.length + 1 ≤ 1099511627776)
    (hk : Rd w A k c 1 (ics kids)) (hkl : kids.length = k) (hkb : k ≤ 4398046511103) (op at_ n : Int) (t : ByteArray) :
    Calls Tryd.prog 97 #[.pointer (some ⟨bb, 0, none⟩), .int .i64 op, .int .i64 at_, .string t, .int .i64 n, .slice A k c] w fun e w' => e = .returned (.int .i64 ns.length) ∧
      ∃ v', Blk w' bb 71 #[v'] ∧ (∀ g, v'.ownBlock = some g → v.ownBlock = some g ∨ w.heap.size ≤ g) ∧ RowN F w' v' (ns ++ [⟨op, at_, t, n, kids.filter fun k => decide (0 ≤ k ∧ k < ns.length)⟩]) ∧ Mod (fun k => k = bb ∨ v.ownBlock = some k) w w' := by
  obtain ⟨Z, hZ, hown, hall⟩ := hv
  have hZl : Z.length = ns.length := by rw [← hZ, List.length_map]
  have HZL := Lib.hid hZl
  have HN := Lib.hid hb
  have HO := Lib.hid hown
  have HK := Lib.hid hk
  have HA := Lib.hid hall
  have HZ := Lib.hid hZ
  have HF := Lib.hid hF
  obtain ⟨A', c', rfl, hr, hAo⟩ := hown.rd
  have hlt := hb.lt
  have hkq := hk.le
  have hns' : Z.length + 1 ≤ 1099511627776 := by omega
  clear hb hown hk hall hZ hr hAo hF hZl hns
  go_enter Tryd.func97, Tryd.ntmps97
  go_wp2_with fail
  go_loopw [25] (fun i wr => ∃ (j : Nat) (kv : Value), j ≤ k ∧ i = .int .i64 j ∧ Blk wr w.heap.size 51 #[.int .i64 op, .int .i64 at_, .string t, .int .i64 n, kv] ∧ OwnI wr kv (keepK ns.length (kids.take j)) ∧ (∀ g, kv.ownBlock = some g → w.heap.size < g) ∧ Below w.heap.size w wr) (fun i _ => k - (intOf i).toNat)
  case atStart => exact ⟨0, .slice none 0 0, Nat.zero_le _, rfl, Blk.new w 51 _, OwnI.nil_ _, fun g hg => (by cases hg), (by repeat (first | exact Below.refl _ _ | assumption | refine Below.setCell ?_ (by first | (simp; done) | (simp; omega) | omega) _ | refine below_drewN ?_ _ | refine Below.drew ?_ | refine Below.alloc ?_ (by first | (simp; done) | (simp; omega) | omega) _))⟩
  case round =>
    obtain ⟨j, kv, hj, rfl, hblk, hown, hkv, hbel⟩ := hrel
    generalize hL : keepK ns.length (kids.take j) = M at hown
    have HM := Lib.hid hL
    have hMl : M.length ≤ j := by
      rw [← hL]
      unfold keepK
      exact Nat.le_trans (List.length_filter_le _ _) (by rw [List.length_take]; omega)
    have HOK := Lib.hid hown
    obtain ⟨A2, c2, rfl, _, hA2⟩ := Own.rd hown
    have hcb : wr.cell? ⟨bb, 0, none⟩ = some (.slice A' Z.length c') := (hbel.cell (p := ⟨bb, 0, none⟩) hlt).trans (HN.out.cell 0)
    have hc4 := hblk.cell 4
    have hf4 := hblk.frozen 4
    have hltn := hblk.lt
    simp only [List.getElem?_toArray, List.getElem?_cons_zero, List.getElem?_cons_succ] at hc4
    have HB := Lib.hid hbel
    have HBK := Lib.hid hblk
    have HV := Lib.hid hkv
    have hbs := hbel.size
    clear hblk hown hkv hA2 hL
    by_cases hlt2 : j < k
    · obtain ⟨b, o, rfl, hb, hc⟩ := (HK.out.bel hbel).2.2.2 (by omega)
      obtain ⟨x, hx⟩ : ∃ x, kids[j]? = some x := ⟨_, List.getElem?_eq_getElem (by omega)⟩
      have hce : wr.cell? ⟨b, o + j, none⟩ = some (.int .i64 x) := hc j _ (by rw [ics, List.getElem?_map, hx]; rfl)
      have HX := Lib.hid hx
      clear hx hc hbel
      by_cases h0 : 0 ≤ x
      · have d0 : decide (0 ≤ x) = true := decide_eq_true h0
        by_cases h1 : x < (Z.length : Int)
        · have d1 : decide (x < (Z.length : Int)) = true := decide_eq_true h1
          go_wp2_with (at_builtin; go_must (refine wpList_appendN _ rfl _ _ rfl _ M rfl (HOK.out.bel (Below.alloc (Below.refl _ _) (Nat.le_refl _) _)) _ 1 1 [x] rfl Rd.one rfl (by simp; omega) ?_); intro v6 w6 ho6 hg6 hn6; generalize hG : M ++ [x] = G at ho6; have HG := Lib.hid hG; obtain ⟨A6, c6, rfl, -, -⟩ := Own.rd ho6; clear hG; go_must (have hb6 : Below w.heap.size w w6 := (HB.out.alloc HB.out.size _).grown hg6 (by simp; omega) (fun g hg => Nat.le_of_lt (HV.out g hg)); have hbk6 : Blk w6 w.heap.size 51 _ := ((HBK.out.alloc (.cells #[.int .i64 x] 3)).grown hg6 (fun e => absurd (HV.out _ e.symm) (by omega)))); have hc64 := hbk6.cell 4; have hf64 := hbk6.frozen 4; have hlt6 := hbk6.lt; simp only [List.getElem?_toArray, List.getElem?_cons_zero, List.getElem?_cons_succ] at hc64; have HO6 := Lib.hid ho6; have HB6 := Lib.hid hb6; have HBK6 := Lib.hid hbk6; have HN6 := Lib.hid hn6; clear ho6 hg6 hn6 hb6 hbk6)
          go_round
          case rel =>
            refine ⟨j + 1, _, by omega, by go_num, HBK6.out.set_ 4 (.slice A6 G.length c6), ?_, ?_, ?_⟩
            · rw [keepK_snoc _ _ _ _ HX.out, if_pos ⟨h0, by have := HZL.out; omega⟩, HM.out, HG.out]
              have h9 := HO6.out
              refine Own.keep h9 fun b9 e9 => Below.heap_setCell w6 _ _ b9 ?_
              rintro rfl
              exact own_blk_ne h9 HBK6.out (by decide) e9
            · intro g hg
              rcases HN6.out with e9 | e9
              · exact HV.out g (e9 ▸ hg)
              · rw [e9] at hg
                injection hg with hg
                rw [← hg]
                simp
                omega
            · exact HB6.out.setCell (by simp) _
          case measure => simp [intOf]; omega
        · have d1 : decide (x < (Z.length : Int)) = false := decide_eq_false h1
          go_wp2_with fail
          go_round
          case rel =>
            refine ⟨j + 1, _, by omega, by go_num, HBK.out, ?_, HV.out, HB.out⟩
            rw [keepK_snoc _ _ _ _ HX.out, if_neg (by have := HZL.out; omega), HM.out]
            exact HOK.out
          case measure => simp [intOf]; omega
      · have d0 : decide (0 ≤ x) = false := decide_eq_false h0
        go_wp2_with fail
        go_round
        case rel =>
          refine ⟨j + 1, _, by omega, by go_num, HBK.out, ?_, HV.out, HB.out⟩
          rw [keepK_snoc _ _ _ _ HX.out, if_neg (by have := HZL.out; omega), HM.out]
          exact HOK.out
        case measure => simp [intOf]; omega
    · obtain rfl : j = k := by omega
      have q0 := hc4
      have b0 := HBK.out.cell 0
      have b1 := HBK.out.cell 1
      have b2 := HBK.out.cell 2
      have b3 := HBK.out.cell 3
      simp only [List.getElem?_toArray, List.getElem?_cons_zero, List.getElem?_cons_succ] at b0 b1 b2 b3
      have hOw : Own wr 51 5 (.slice A' Z.length c') Z.length (Z.flatMap NdS.cs) := HO.out.new hbel
      have HOW := Lib.hid hOw
      have HBEL := Lib.hid hbel
      have hnb : ∀ W' w6, W'.grownBy w6 (Value.slice A' Z.length c').ownBlock → Below wr.heap.size wr W' → Blk w6 bb 71 #[.slice A' Z.length c'] := fun W' w6 hg hB => ((HN.out.bel hbel).bel hB).grown hg fun e => own_blk_ne HO.out HN.out (by decide) e.symm
      have HNB := Lib.hid hnb
      have hlb : bb < wr.heap.size := by omega
      clear hOw hbel hnb
      go_wp2_with fail
      generalize hG : (Z ++ [(⟨⟨op, at_, t, n, M⟩, A2, c2⟩ : NdS)]) = G
      have HG := Lib.hid hG
      clear hG
      go_region_law (refine step_appendNode _ rfl (.tmp 51) (.tmp 53) rfl (.slice A' Z.length c') Z rfl (by exact HOW.out.new (by repeat (first | exact Below.refl _ _ | assumption | refine Below.setCell ?_ (by first | (simp; done) | (simp; omega) | omega) _ | refine below_drewN ?_ _ | refine Below.drew ?_ | refine Below.alloc ?_ (by first | (simp; done) | (simp; omega) | omega) _))) _ 1 ⟨⟨op, at_, t, n, M⟩, A2, c2⟩ rfl (by exact Rd.node) (by omega) ?_; intro v6 w6 ho6 hg6 hn6; rw [HG.out] at ho6; obtain ⟨A6, c6, rfl, -, -⟩ := Own.rd ho6; have hbk6 := HNB.out _ _ hg6 (by repeat (first | exact Below.refl _ _ | assumption | refine Below.setCell ?_ (by first | (simp; done) | (simp; omega) | omega) _ | refine below_drewN ?_ _ | refine Below.drew ?_ | refine Below.alloc ?_ (by first | (simp; done) | (simp; omega) | omega) _)); have hq6 := hbk6.cell 0; have hf6 := hbk6.frozen 0; have hlt6 := hbk6.lt; have HBK6 := Lib.hid hbk6; simp only [List.getElem?_toArray, List.getElem?_cons_zero, List.getElem?_cons_succ] at hq6; have HO6 := Lib.hid ho6; have HG6 := Lib.hid hg6; have HN6 := Lib.hid hn6; clear ho6 hg6 hn6 hbk6)
      all_goals
        go_wp2
        go_ret
        have hl := HZL.out
        have hgl : G.length = Z.length + 1 := by rw [← HG.out, List.length_append]; rfl
        refine ⟨ret_int ?_, .slice A6 G.length c6, ?_⟩
        · show wrap64 ((G.length : Int) - 1) = _
          rw [show wrap64 ((G.length : Int) - 1) = (G.length : Int) - 1 from IntWalk.wrap64_in _ (by omega)]
          omega
        · have hm := HM.out
          rw [List.take_of_length_le (Nat.le_of_eq hkl)] at hm
          have e : (⟨op, at_, t, n, kids.filter fun k => decide (0 ≤ k ∧ k < ns.length)⟩ : NodeD) = (⟨⟨op, at_, t, n, M⟩, A2, c2⟩ : NdS).x := by
            rw [← hm]
            rfl
          rw [e]
          exact badd_fin (z := ⟨⟨op, at_, t, n, M⟩, A2, c2⟩) HBEL.out (by repeat (first | exact Below.refl _ _ | assumption | refine Below.setCell ?_ (by first | (simp; done) | (simp; omega) | omega) _ | refine below_drewN ?_ _ | refine Below.drew ?_ | refine Below.alloc ?_ (by first | (simp; done) | (simp; omega) | omega) _)) HN.out HO.out (by show M.length ≤ 4398046511103; omega) HA.out HZ.out HF.out HOK.out HV.out (by rw [HG.out]; exact HO6.out) HG6.out HN6.out
end Go.Proofs.YtjdcicopjipmnaaDoor
