/- over: what is below a node. -/
import Derived.RangeFuncNested
import Derived.RangeFuncBound
import Derived.RangeFuncCalls
import Derived.RangeFuncLeaves
import Derived.RangeFuncBox
import Derived.Shelf.Abstract
import Derived.Shelf.RegionOpen
import Derived.OwnWalkIn
import Derived.TacticsInMore
import Derived.LoopNIn
import Derived.LoopIn
import Derived.Test.YtjdcicopjipmnaaDoorOvp
namespace Go.Proofs.YtjdcicopjipmnaaDoor
open Go.RowKit Go.Shelf
set_option linter.unusedVariables false
set_option linter.unusedSimpArgs false
attribute [local go_sem] Oper.semAt_some
/-- cells, and maps but e, lie as they lay -/
structure KeepsCW (e : Nat) (W W' : World) : Prop where
  size : W.heap.size ≤ W'.heap.size
  same : ∀ (k : Nat) (o : Obj), W.heap[k]? = some o → k ≠ e → (o.isCells = true ∨ o.isWalk = true) → W'.heap[k]? = some o
  map : (∃ es c, W.heap[e]? = some (.map es c)) → ∃ es c, W'.heap[e]? = some (.map es c)
theorem KeepsCW.trans {e : Nat} {A B C : World} (h : KeepsCW e A B) (k : KeepsCW e B C) : KeepsCW e A C := ⟨Nat.le_trans h.size k.size, fun i o hi hne ho => k.same i o (h.same i o hi hne ho) hne ho, fun hm => k.map (h.map hm)⟩
theorem KeepsCW.put {e : Nat} (W : World) (l : Nat) (o o' : Obj) (h1 : W.heap[l]? = some o) (h2 : o.isCells = false) (h3 : o.isWalk = false) : KeepsCW e W (W.putObj l o') :=
  ⟨by simp, fun k x hk _ hx => by
    have hne : k ≠ l := fun e => by
      rw [e, h1] at hk
      cases hk
      rcases hx with hx | hx
      · rw [h2] at hx; cases hx
      · rw [h3] at hx; cases hx
    exact (World.putObj_heap_other hne).trans hk, fun hm => by
    obtain ⟨es, c, hm⟩ := hm
    have hne : e ≠ l := fun e2 => by
      rw [e2, h1] at hm
      cases hm
      cases h3
    exact ⟨es, c, (World.putObj_heap_other hne).trans hm⟩⟩
theorem KeepsCW.stay {e : Nat} {W W' : World} (h : KeepsCW e W W') (he : ∃ es c, W.heap[e]? = some (.map es c)) : StayC W W' := ⟨h.size, fun k cs t z hk => by
  have hne : k ≠ e := fun e1 => by
    obtain ⟨es, c, h1⟩ := he
    rw [e1, h1] at hk
    cases hk
  rw [hk]
  exact h.same k _ hk hne (.inl rfl)⟩
/-- what the yielded-to function does, at whatever level -/
def YieldOk (J Jx : List Int → World → Prop) (e0 N l : Nat) : Prop := ∀ pre x W, J pre W → pre.length < N → 0 ≤ x → x < (N : Int) → ∀ m, YieldAt Fence.wide m Tryd.prog l #[.int .i64 x] W fun e' W' =>
  (e' = .returned (.bool true) ∧ J (pre ++ [x]) W' ∧ KeepsCW e0 W W') ∨ (e' = .returned (.bool false) ∧ Jx (pre ++ [x]) W')
theorem yield_any {m k l : Nat} {args : Array Value} {W : World} {R : Ending → World → Prop} (h : YieldAt Fence.wide m Tryd.prog l args W R) : YieldAt Fence.wide k Tryd.prog l args W R := by
  obtain ⟨fn, tmps, assign, body, hy, hR⟩ := h
  exact ⟨fn, tmps, assign, body, hy, hR.1, fun c cs _ => hR.2 c cs (room_wide _)⟩
theorem callsIn_any {m k : Nat} {f : FuncId} {args : Array Value} {W : World} {R : Ending → World → Prop} (h : CallsIn Fence.wide m Tryd.prog f args W R) : CallsIn Fence.wide k Tryd.prog f args W R := callsIn_wide.2 (callsIn_wide.1 h)
section
variable {ns : List NodeD} {A : Option Addr} {n c l tb e0 B : Nat} {J Jx : List Int → World → Prop}
theorem bel_stay {W W' : World} (h : Below W.heap.size W W') : StayC W W' := StayC.bel h
theorem mod_stay {W W' : World} {b : Nat} (h : Mod (· = b) W W') (hm : ∃ es c, W.heap[b]? = some (.map es c)) : StayC W W' := ⟨h.size, fun k cs t z hk => h.block k (Array.getElem?_eq_some_iff.1 hk).1 fun e => by
  obtain ⟨es, c, h1⟩ := hm
  rw [e, h1] at hk
  cases hk⟩
theorem abides_mod {J : List Int → World → Prop} (hJ : AbidesFrom B J) {pre : List Int} {W W' : World} {b : Nat} (h : J pre W) (hm : Mod (· = b) W W') (hB : B ≤ b) (hmap : ∃ es c, W.heap[b]? = some (.map es c)) : J pre W' := by
  refine hJ pre W W' (some b) h ⟨hm.os, hm.tape, hm.output, hm.size, fun k hk hne => hm.block k hk fun e => hne (by rw [e])⟩ fun r e => ?_
  injection e with e
  subst e
  obtain ⟨es, c, h1⟩ := hmap
  exact ⟨hB, _, h1, rfl⟩
theorem abides_bel {J : List Int → World → Prop} (hJ : AbidesFrom B J) {pre : List Int} {W W' : World} (h : J pre W) (hb : Below W.heap.size W W') : J pre W' :=
  hJ pre W W' none h ⟨hb.os, hb.tape, hb.output, hb.size, fun k hk _ => hb.block k hk⟩ fun r e => by cases e
set_option maxRecDepth 100000 in
set_option maxHeartbeats 4000000 in
theorem over_in (hJ : AbidesFrom B J) (hB : B ≤ tb) (hne : tb ≠ e0) (hY : YieldOk J Jx e0 ns.length l) (hks : ∀ (i : Nat) x, ns[i]? = some x → x.kids.length ≤ 4398046511103) (hbig : ns.length ≤ 4398046511103) :
    ∀ (f i : Nat), i < f → i < ns.length → ∀ (seen : List Int) (W : World) (m : Nat), SeenOk ns.length seen → RdT W A n c ns → SeenAt W tb seen → (∃ es c, W.heap[e0]? = some (.map es c)) → J seen W →
      CallsIn Fence.wide m Tryd.prog 84 #[.slice A n c, .int .i64 i, .map (some tb), .func (.yield l) #[] #[]] W fun e W' =>
        (e = .returned (.bool true) ∧ J (ovE ns f i seen) W' ∧ SeenAt W' tb (ovE ns f i seen) ∧ StayC W W' ∧ ∃ es c, W'.heap[e0]? = some (.map es c)) ∨ (e = .returned (.bool false) ∧ ∃ pre, Jx pre W')
  | 0, i, hi, _, _, _, _, _, _, _, _, _ => by omega
  | f + 1, i, hf, hi, seen, W, m, hs, hT, hS, hE, hJs => by
    obtain ⟨x, hx⟩ : ∃ x, ns[i]? = some x := ⟨_, List.getElem?_eq_getElem hi⟩
    have hwf : (Lit.int .i64 (i : Int)).wf = true := wf_of (by omega)
    have hlk := hS.look hwf
    have hsl := seen_len _ _ hs
    refine callsIn_any (m := 9) ?_
    have h84 : (Fence.wide).fn 84 := trivial
    have h100 : (Fence.wide).fn 100 := trivial
    refine callsIn_of_wp Tryd.func84 rfl h84 ?_ rfl
    simp only [Tryd.ntmps84, List.size_toArray, List.length_cons, List.length_nil, Nat.reduceAdd, Nat.reduceSub, Array.replicate_succ, Array.replicate_zero, List.push_toArray, List.append_toArray, List.nil_append, List.cons_append]
    by_cases hm : (i : Int) ∈ seen
    · have e : ovE ns (f + 1) i seen = seen := by unfold ovE; rw [if_pos hm]
      have hd : decide ((i : Int) ∈ seen) = true := decide_eq_true hm
      have HF := Lib.hid (And.intro hJs (And.intro hS hE))
      rw [hd] at hlk
      clear hJs hS hE hT hs hx hd
      gi_wp2
      go_ret
      rw [e]
      exact .inl ⟨rfl, HF.out.1, HF.out.2.1, StayC.refl _, HF.out.2.2⟩
    · have hd : decide ((i : Int) ∈ seen) = false := decide_eq_false hm
      rw [hd] at hlk
      have e : ovE ns (f + 1) i seen = (keepK i x.kids).foldl (fun sn k => ovE ns f k.toNat sn) (seen ++ [(i : Int)]) := by
        rw [ovE, if_neg hm]
        unfold kidsAt
        rw [hx]
        rfl
      have hok1 := seen_snoc hs hi hm
      have hl1 := seen_len _ _ hok1
      rw [List.length_append] at hl1
      simp only [List.length_cons, List.length_nil] at hl1
      obtain ⟨W1, hrun, hS1, hm1⟩ := hS.add hwf (by unfold maxLen; omega)
      have hJ1 := abides_mod hJ hJs hm1 hB hS.isMap
      have hE1 : ∃ es c, W1.heap[e0]? = some (.map es c) := by
        obtain ⟨es, c, h1⟩ := hE
        exact ⟨es, c, (hm1.block e0 (Array.getElem?_eq_some_iff.1 h1).1 (fun e => hne e.symm)).trans h1⟩
      have hst1 := mod_stay hm1 hS.isMap
      obtain ⟨fn, tmps, assign, body, hy, hR2⟩ := hY seen i W1 hJ1 (by omega) (by omega) (by omega) 8
      have HX := Lib.hid hx
      have HKS := Lib.hid (hks i x hx)
      have HOK := Lib.hid hok1
      have HT1 := Lib.hid (hT.stay hst1)
      have HS1 := Lib.hid hS1
      have HST1 := Lib.hid hst1
      have HE1 := Lib.hid hE1
      have HE := Lib.hid e
      have HJ := Lib.hid hJ
      have HY := Lib.hid hY
      have HKA := Lib.hid hks
      have hpos : ∀ k ∈ keepK i x.kids, 0 ≤ k ∧ k < (i : Int) := fun k hk => keepK_mem hk
      have HPOS := Lib.hid hpos
      clear hx hok1 hT hS1 hst1 hE1 hE hJ1 hJ hY hks e hS hm1 hd hs hJs hpos hm
      gi_wp2
      refine hR2.mono ?_
      rintro e' W2 (⟨rfl, hJ2, hk2⟩ | ⟨rfl, hJx2⟩)
      · have HT2 := Lib.hid (HT1.out.stay (hk2.stay HE1.out))
        have hS2 : SeenAt W2 tb (seen ++ [(i : Int)]) := by
          obtain ⟨es, c, hmm⟩ := HS1.out.isMap
          exact HS1.out.keep ((hk2.same tb _ hmm hne (.inr rfl)).trans hmm.symm)
        have HS2 := Lib.hid hS2
        have HE2 := Lib.hid (hk2.map HE1.out)
        have HST2 := Lib.hid (HST1.out.trans (hk2.stay HE1.out))
        have HJ2 := Lib.hid hJ2
        clear hS2 hk2 hJ2 hy hrun hlk
        gi_wp2_with fail
        refine (callsIn_wide.2 (kidsT_any HT2.out HX.out HKS.out)).mono ?_
        rintro e W3 ⟨v, rfl, ho3, hb3, hv3⟩
        obtain ⟨A3, c3, rfl, hr3, -⟩ := Own.rd ho3
        have HR3 := Lib.hid hr3
        have hkl := hr3.le
        have HB3 := Lib.hid hb3
        clear ho3 hb3 hv3 hr3
        gi_wp2_with fail
        have HJ3 := Lib.hid (abides_bel HJ.out HJ2.out HB3.out)
        have HS3 := Lib.hid (HS2.out.keep (HB3.out.block _ HS2.out.lt))
        have HE3 : Hid (∃ es c, W3.heap[e0]? = some (.map es c)) := Lib.hid (by
          obtain ⟨es, c, h1⟩ := HE2.out
          exact ⟨es, c, (HB3.out.block e0 (Array.getElem?_eq_some_iff.1 h1).1).trans h1⟩)
        have HT3 := Lib.hid (HT2.out.stay (StayC.bel HB3.out))
        have HST3 := Lib.hid (HST2.out.trans (StayC.bel HB3.out))
        generalize keepK i x.kids = K at *
        gi_loopw [24] (fun vi wr => ∃ j : Nat, j ≤ K.length ∧ vi = .int .i64 j ∧ Hid (J ((K.take j).foldl (fun sn k => ovE ns f k.toNat sn) (seen ++ [(i : Int)])) wr) ∧ SeenAt wr tb ((K.take j).foldl (fun sn k => ovE ns f k.toNat sn) (seen ++ [(i : Int)])) ∧ StayC W3 wr ∧ ∃ es c, wr.heap[e0]? = some (.map es c)) (fun vi _ => K.length - (intOf vi).toNat)
        case atStart => exact ⟨0, Nat.zero_le _, rfl, HJ3, HS3.out, StayC.refl _, HE3.out⟩
        case round =>
          obtain ⟨j, hj, rfl, HJr, hSr, hstr, hEr⟩ := hrel
          have HSR := Lib.hid hSr
          have HSTR := Lib.hid hstr
          have HER := Lib.hid hEr
          clear hSr hEr
          by_cases hlt : j < K.length
          · obtain ⟨b4, o4, rfl, hb4, hc4⟩ := (HR3.out.stay hstr).2.2.2 (by omega)
            obtain ⟨k, hk⟩ : ∃ k, K[j]? = some k := ⟨_, List.getElem?_eq_getElem hlt⟩
            obtain ⟨h0, h1⟩ := HPOS.out k (List.mem_of_getElem? hk)
            obtain ⟨q, rfl⟩ : ∃ q : Nat, k = q := ⟨k.toNat, by omega⟩
            have hce : wr.cell? ⟨b4, o4 + j, none⟩ = some (.int .i64 q) := hc4 j _ (by rw [ics, List.getElem?_map, hk]; rfl)
            have hst : (K.take (j + 1)).foldl (fun sn k => ovE ns f k.toNat sn) (seen ++ [(i : Int)]) = ovE ns f q ((K.take j).foldl (fun sn k => ovE ns f k.toNat sn) (seen ++ [(i : Int)])) := by
              rw [List.take_add_one, hk, List.foldl_append]
              rfl
            have hok : SeenOk ns.length ((K.take j).foldl (fun sn k => ovE ns f k.toNat sn) (seen ++ [(i : Int)])) := fold_ok hi (fun k sn hk hs => ovE_ok f k sn hk hs) _ _ (fun k hk => HPOS.out k (List.mem_of_mem_take hk)) HOK.out
            generalize (K.take j).foldl (fun sn k => ovE ns f k.toNat sn) (seen ++ [(i : Int)]) = sj at *
            have KC := Lib.hid (over_in HJ.out hB hne HY.out HKA.out hbig f q (by omega) (by omega) sj wr 8 hok (HT3.out.stay hstr) HSR.out HER.out HJr.out)
            have HST := Lib.hid hst
            clear hst hok hc4 hk hstr
            gi_wp2_with fail
            refine (callsIn_any KC.out).mono ?_
            rintro e W4 (⟨rfl, hJ4, hS4, hst4, hE4⟩ | ⟨rfl, pre, hJx⟩)
            · have HJ4 := Lib.hid hJ4
              have HS4 := Lib.hid hS4
              have HST4 := Lib.hid hst4
              have HE4 := Lib.hid hE4
              clear hJ4 hS4 hst4 hE4
              gi_wp2
              go_roundw
              case rel => exact ⟨j + 1, by omega, by go_num, Lib.hid (by rw [HST.out]; exact HJ4.out), by rw [HST.out]; exact HS4.out, HSTR.out.trans HST4.out, HE4.out⟩
              case measure => simp [intOf]; omega
            · have HJX := Lib.hid hJx
              clear hJx
              gi_wp2
              go_ret
              exact .inr ⟨rfl, pre, HJX.out⟩
          · obtain rfl : j = K.length := by omega
            clear hstr
            gi_wp2
            go_ret
            have e1 := HE.out
            rw [e1]
            have e2 : K.take K.length = K := List.take_of_length_le (Nat.le_refl _)
            have hj := HJr.out
            have hs := HSR.out
            rw [e2] at hj hs
            exact .inl ⟨rfl, hj, hs, HST3.out.trans HSTR.out, HER.out⟩
      · have HJX := Lib.hid hJx2
        clear hJx2 hy hrun hlk
        gi_wp2
        go_ret
        exact .inr ⟨rfl, _, HJX.out⟩
end
end Go.Proofs.YtjdcicopjipmnaaDoor
