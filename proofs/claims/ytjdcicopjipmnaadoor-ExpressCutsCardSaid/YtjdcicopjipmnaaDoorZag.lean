/- A tree as memory holds it; a node's kids; is there such a node. What is below a node (plain); a map of numbers. over: what is below a node. All: an iterator over what is below a node. Builder.Tree in plain words, and what it makes. A tree of which all nodes are below the last one is left as it is. Builder.Tree. told: what Parse tells of tokens, and what the Builder has then. Tokens, and the document's example. Expressions as trees: laid flat as nodes, and written as tokens with all brackets. Trees written as tokens with all brackets; how the plain parser climbs. -/
import Derived.RangeFuncNested
import Derived.RangeFuncBound
import Derived.RangeFuncCalls
import Derived.RangeFuncLeaves
import Derived.RangeFuncBox
import Derived.Shelf.Abstract
import Derived.Shelf.RegionOpen
import Derived.OwnWalkIn
import Derived.TacticsInMore
import Derived.LoopNIn
import Derived.LoopIn
import Derived.Laws.MakeOwn
import Derived.Outline
import Derived.Test.YtjdcicopjipmnaaDoorZaa
import Derived.Test.YtjdcicopjipmnaaDoorZaf
namespace Go.Proofs.YtjdcicopjipmnaaDoor
set_option maxRecDepth 100000
set_option maxHeartbeats 4000000
section
open Go.RowKit
set_option linter.unusedVariables false
set_option linter.unusedSimpArgs false
open Go.RowKit Go.Maps Go.WideMaps
open Go.RowKit Go.Shelf
attribute [local go_sem] Oper.semAt_some
structure StayC (W W' : World) : Prop where
 size : W.heap.size ≤ W'.heap.size
 same : ∀ (k : Nat) cs t z, W.heap[k]? = some (.cells cs t z) → W'.heap[k]? = W.heap[k]?
theorem StayC.refl (W : World) : StayC W W := ⟨Nat.le_refl _, fun _ _ _ _ _ => rfl⟩
theorem StayC.trans {A B C : World} (h : StayC A B) (k : StayC B C) : StayC A C := ⟨Nat.le_trans h.size k.size, fun i cs t z hi => by
 have e := h.same i cs t z hi
 rw [← e] at hi ⊢
 exact k.same i cs t z hi⟩
theorem StayC.bel {W W' : World} (h : Below W.heap.size W W') : StayC W W' := ⟨h.size, fun k cs t z hk => h.block k (Array.getElem?_eq_some_iff.1 hk).1⟩
theorem cell_block {W : World} {b o : Nat} {u : Value} (h : W.cell? ⟨b, o, none⟩ = some u) : ∃ cs t z, W.heap[b]? = some (.cells cs t z) := by
 unfold World.cell? at h
 simp only at h
 split at h
 ·rename_i cs t z hh
  exact ⟨cs, t, z, hh⟩
 ·cases h
theorem Rd.stay {w w' : World} {A : Option Addr} {n c sz : Nat} {cs : List Value} (h : Rd w A n c sz cs) (hs : StayC w w') : Rd w' A n c sz cs :=
 ⟨h.1, h.2.1, h.2.2.1, fun hn => by
  obtain ⟨b, o, e, hb, hc⟩ := h.2.2.2 hn
  refine ⟨b, o, e, Nat.lt_of_lt_of_le hb hs.size, fun j u hu => ?_⟩
  have h1 := hc j u hu
  obtain ⟨cs', t, z, hh⟩ := cell_block h1
  exact (World.cell?_of_block (hs.same b cs' t z hh)).trans h1⟩
def RdT (w : World) (A : Option Addr) (n c : Nat) (ns : List NodeD) : Prop :=
 ∃ Z : List NdS, Z.map (·.x) = ns ∧ Z.length = n ∧ Rd w A n c 5 (Z.flatMap NdS.cs) ∧ ∀ z ∈ Z, Rd w z.A z.x.kids.length z.c 1 (ics z.x.kids)
theorem RdT.stay {w w' : World} {A : Option Addr} {n c : Nat} {ns : List NodeD} (h : RdT w A n c ns) (hs : StayC w w') : RdT w' A n c ns := by
 obtain ⟨Z, e, hl, h1, h2⟩ := h
 exact ⟨Z, e, hl, h1.stay hs, fun z hz => (h2 z hz).stay hs⟩
theorem RdT.len {w : World} {A : Option Addr} {n c : Nat} {ns : List NodeD} (h : RdT w A n c ns) : ns.length = n := by
 obtain ⟨Z, e, hl, _⟩ := h
 rw [← e, List.length_map, hl]
theorem RdT.le {w : World} {A : Option Addr} {n c : Nat} {ns : List NodeD} (h : RdT w A n c ns) : n ≤ 9223372036854775807 := by
 obtain ⟨Z, e, hl, h1, _⟩ := h
 exact h1.le
theorem zflat_at : ∀ {Z : List NdS} {k : Nat} {z : NdS}, Z[k]? = some z → ∀ j u, z.cs[j]? = some u → (Z.flatMap NdS.cs)[k * 5 + j]? = some u
 | [], k, z, h, j, u, hu => by simp at h
 | x :: Z, 0, z, h, j, u, hu => by
  obtain rfl : x = z := by simpa using h
  rw [List.flatMap_cons, List.getElem?_append_left (by have := (List.getElem?_eq_some_iff.1 hu).1; omega), Nat.zero_mul, Nat.zero_add]
  exact hu
 | x :: Z, k + 1, z, h, j, u, hu => by
  rw [List.flatMap_cons, List.getElem?_append_right (by show 5 ≤ _; omega)]
  have e : (k + 1) * 5 + j - x.cs.length = k * 5 + j := by show (k + 1) * 5 + j - 5 = _; omega
  rw [e]
  exact zflat_at (by simpa using h) j u hu
theorem RdT.at_ {w : World} {A : Option Addr} {n c : Nat} {ns : List NodeD} (h : RdT w A n c ns) {i : Nat} {x : NodeD} (hx : ns[i]? = some x) :
  ∃ b o A1 c1, A = some ⟨b, o, none⟩ ∧ b < w.heap.size ∧ (∀ j u, (NdS.cs ⟨x, A1, c1⟩)[j]? = some u → w.cell? ⟨b, o + i * 5 + j, none⟩ = some u) ∧ Rd w A1 x.kids.length c1 1 (ics x.kids) := by
 obtain ⟨Z, e, hl, h1, h2⟩ := h
 rw [← e, List.getElem?_map] at hx
 cases hz : Z[i]? with
 | none => rw [hz] at hx; cases hx
 | some z =>
  rw [hz] at hx
  obtain rfl : z.x = x := by simpa using hx
  have hi := (List.getElem?_eq_some_iff.1 hz).1
  obtain ⟨b, o, rfl, hb, hc⟩ := h1.2.2.2 (by omega)
  refine ⟨b, o, z.A, z.c, rfl, hb, fun j u hu => ?_, h2 z (List.mem_of_getElem? hz)⟩
  have := hc _ u (zflat_at hz j u hu)
  rwa [← Nat.add_assoc] at this
theorem RowN.rdT {F : Nat → Prop} {w : World} {v : Value} {ns : List NodeD} (h : RowN F w v ns) : ∃ A c, v = .slice A ns.length c ∧ RdT w A ns.length c ns := by
 obtain ⟨Z, e, h1, h2⟩ := h
 obtain ⟨A, c, rfl, hr, _⟩ := Own.rd h1
 have hl : Z.length = ns.length := by rw [← e, List.length_map]
 rw [hl] at hr
 refine ⟨A, c, by rw [hl], Z, e, hl, hr, fun z hz => ?_⟩
 obtain ⟨A2, c2, e2, hr2, _⟩ := Own.rd (h2 z hz).1
 unfold NdS.v at e2
 injection e2 with e3 e4 e5
 rw [e3, e5]
 exact hr2
theorem RowN.kl {F : Nat → Prop} {w : World} {v : Value} {ns : List NodeD} (h : RowN F w v ns) (i : Nat) (x : NodeD) (hx : ns[i]? = some x) : x.kids.length ≤ 4398046511103 := by
 obtain ⟨Z, e, h1, h2⟩ := h
 rw [← e, List.getElem?_map] at hx
 cases hz : Z[i]? with
 | none => rw [hz] at hx; cases hx
 | some z =>
  rw [hz] at hx
  obtain rfl : z.x = x := by simpa using hx
  exact (h2 z (List.mem_of_getElem? hz)).2.2
theorem kidsT_any {w : World} {A : Option Addr} {n c i : Nat} {ns : List NodeD} {x : NodeD} (h : RdT w A n c ns) (hx : ns[i]? = some x) (hk : x.kids.length ≤ 4398046511103) :
  Calls Tryd.prog 100 #[.slice A n c, .int .i64 i] w fun e w' => ∃ v, e = .returned v ∧ OwnI w' v (keepK i x.kids) ∧ Below w.heap.size w w' ∧ ∀ g, v.ownBlock = some g → w.heap.size ≤ g := by
 have hnl := h.len
 have hin := (List.getElem?_eq_some_iff.1 hx).1
 have hle := h.le
 obtain ⟨b, o, A1, c1, rfl, hb, hc, hr⟩ := h.at_ hx
 have c4 := hc 4 _ rfl
 have hir : i < n := by omega
 have hrl := hr.le
 have HR := qh hr
 unfold NdS.v at c4
 simp only at c4
 generalize hK : x.kids = kids at *
 clear hc hr h hx hK
 go_enter Tryd.func100, Tryd.ntmps100
 go_wp2_with fail
 go_loopw [5, 14] (fun vo vi wr => ∃ (j : Nat) (A2 : Option Addr) (c2 : Nat) (M : List Int), j ≤ kids.length ∧ vi = .int .i64 j ∧ vo = .slice A2 M.length c2 ∧ Hid (keepK i (kids.take j) = M) ∧ OwnI wr (.slice A2 M.length c2) M ∧ Hid (∀ g, (Value.slice A2 M.length c2).ownBlock = some g → w.heap.size ≤ g) ∧ Below w.heap.size w wr) (fun _ vi _ => kids.length - (intOf vi).toNat)
 case atStart => exact ⟨0, none, 0, [], Nat.zero_le _, rfl, rfl, qh rfl, OwnI.nil_ w, qh fun g hg => (by cases hg), Below.refl _ _⟩
 case round =>
  obtain ⟨j, A2, c2, M, hj, rfl, rfl, HM, hown, HV, hbel⟩ := hrel
  have hMl : M.length ≤ j := by
   rw [← HM.out]
   unfold keepK
   exact Nat.le_trans (List.length_filter_le _ _) (by rw [List.length_take]; omega)
  have HO := qh hown
  have HB := qh hbel
  clear hown
  by_cases hlt : j < kids.length
  ·obtain ⟨b3, o3, rfl, hb3, hc3⟩ := (HR.out.bel hbel).2.2.2 (by omega)
   obtain ⟨y, hy⟩ : ∃ y, kids[j]? = some y := ⟨_, List.getElem?_eq_getElem hlt⟩
   have hce : wr.cell? ⟨b3, o3 + j, none⟩ = some (.int .i64 y) := hc3 j _ (by rw [ics, List.getElem?_map, hy]; rfl)
   have HY := qh hy
   clear hy hc3 hbel
   by_cases h0 : 0 ≤ y
   ·have d0 : decide (0 ≤ y) = true := decide_eq_true h0
    by_cases h1 : y < (i : Int)
    ·have d1 : decide (y < (i : Int)) = true := decide_eq_true h1
     go_wp2_with (at_builtin; go_must (refine wpList_appendN _ rfl _ _ rfl _ M rfl (HO.out.bel (Below.alloc (Below.refl _ _) (Nat.le_refl _) _)) _ 1 1 [y] rfl Rd.one rfl (by simp; omega) ?_); intro v6 w6 ho6 hg6 hn6; generalize hG : M ++ [y] = G at ho6; have HG := qh hG; obtain ⟨A6, c6, rfl, -, -⟩ := Own.rd ho6; clear hG; have hb6 : Below w.heap.size w w6 := (HB.out.alloc HB.out.size _).grown hg6 (by have := HB.out.size; simp; omega) (fun g hg => HV.out g hg); have HO6 := qh ho6; have HB6 := qh hb6; have HN6 := qh hn6; clear ho6 hg6 hn6 hb6)
     go_round
     case rel =>
      refine ⟨j + 1, A6, c6, G, by omega, by go_num, rfl, qh ?_, HO6.out, qh fun g hg => ?_, HB6.out⟩
      ·rw [keepK_snoc _ _ _ _ HY.out, if_pos ⟨h0, h1⟩, HM.out, HG.out]
      ·rcases HN6.out with e9 | e9
       ·exact HV.out g (e9 ▸ hg)
       ·rw [e9] at hg
        injection hg with hg
        have := HB.out.size
        rw [← hg]
        simp
        omega
     case measure => simp [intOf]; omega
    ·have d1 : decide (y < (i : Int)) = false := decide_eq_false h1
     go_wp2_with fail
     go_round
     case rel => exact ⟨j + 1, _, _, M, by omega, by go_num, rfl, qh (by rw [keepK_snoc _ _ _ _ HY.out, if_neg (fun h => h1 h.2), HM.out]), HO.out, HV, HB.out⟩
     case measure => simp [intOf]; omega
   ·have d0 : decide (0 ≤ y) = false := decide_eq_false h0
    go_wp2_with fail
    go_round
    case rel => exact ⟨j + 1, _, _, M, by omega, by go_num, rfl, qh (by rw [keepK_snoc _ _ _ _ HY.out, if_neg (fun h => h0 h.1), HM.out]), HO.out, HV, HB.out⟩
    case measure => simp [intOf]; omega
  ·obtain rfl : j = kids.length := by omega
   go_wp2_with fail
   go_ret
   have hm := HM.out
   rw [List.take_of_length_le (Nat.le_refl _)] at hm
   rw [hm]
   exact ⟨_, rfl, HO.out, HB.out, HV.out⟩
theorem isT_any (A : Option Addr) (n c i : Nat) (w : World) (hi : i < n) : Calls Tryd.prog 83 #[.slice A n c, .int .i64 i] w fun e w' => e = .returned (.bool true) ∧ w' = w := by
 have d0 : decide (0 ≤ (i : Int)) = true := decide_eq_true (by omega)
 have d1 : decide ((i : Int) < (n : Int)) = true := decide_eq_true (by omega)
 go_enter Tryd.func83, Tryd.ntmps83
 go_wp2_with fail
 go_ret
 exact ⟨rfl, rfl⟩
def kidsAt (ns : List NodeD) (i : Nat) : List Int := ((ns[i]?).map (·.kids)).getD []
def ovE (ns : List NodeD) : Nat → Nat → List Int → List Int
 | 0, _, seen => seen
 | f + 1, i, seen => if (i : Int) ∈ seen then seen else (keepK i (kidsAt ns i)).foldl (fun sn k => ovE ns f k.toNat sn) (seen ++ [(i : Int)])
def SeenOk (n : Nat) (l : List Int) : Prop := l.Nodup ∧ ∀ x ∈ l, 0 ≤ x ∧ x < (n : Int)
theorem seen_len : ∀ (n : Nat) (l : List Int), SeenOk n l → l.length ≤ n
 | 0, l, h => by
  cases l with
  | nil => simp
  | cons x l => have := h.2 x (by simp); omega
 | n + 1, l, h => by
  by_cases hm : (n : Int) ∈ l
  ·have h1 := List.length_erase_of_mem hm
   have h2 : SeenOk n (l.erase (n : Int)) := ⟨h.1.erase _, fun x hx => by
    have h3 := h.2 x (List.mem_of_mem_erase hx)
    have h4 : x ≠ (n : Int) := fun e => by
     rw [e, h.1.mem_erase_iff] at hx
     exact hx.1 rfl
    omega⟩
   have h3 := seen_len n _ h2
   have h4 : 0 < l.length := List.length_pos_of_mem hm
   omega
  ·have h2 : SeenOk n l := ⟨h.1, fun x hx => by
    have h3 := h.2 x hx
    have h4 : x ≠ (n : Int) := fun e => hm (e ▸ hx)
    omega⟩
   have := seen_len n l h2
   omega
theorem seen_snoc {n : Nat} {l : List Int} {i : Nat} (h : SeenOk n l) (hi : i < n) (hn : (i : Int) ∉ l) : SeenOk n (l ++ [(i : Int)]) := by
 refine ⟨?_, fun x hx => ?_⟩
 ·rw [List.nodup_append]
  exact ⟨h.1, by simp, fun a ha b hb => by rw [List.mem_singleton.1 hb]; rintro rfl; exact hn ha⟩
 ·rcases List.mem_append.1 hx with h1 | h1
  ·exact h.2 x h1
  ·rw [List.mem_singleton.1 h1]; omega
theorem keepK_mem {n : Nat} {kids : List Int} {k : Int} (h : k ∈ keepK n kids) : 0 ≤ k ∧ k < n := by
 unfold keepK at h
 simpa using (List.mem_filter.1 h).2
theorem fold_ok {ns : List NodeD} {f i : Nat} (hi : i < ns.length) (ih : ∀ (k : Nat) (seen : List Int), k < ns.length → SeenOk ns.length seen → SeenOk ns.length (ovE ns f k seen)) : ∀ (l : List Int) (seen : List Int), (∀ k ∈ l, 0 ≤ k ∧ k < (i : Int)) → SeenOk ns.length seen → SeenOk ns.length (l.foldl (fun sn k => ovE ns f k.toNat sn) seen)
 | [], seen, _, h => h
 | k :: l, seen, hl, h => fold_ok hi ih l _ (fun k hk => hl k (.tail _ hk)) (ih _ _ (by have := hl k (.head _); omega) h)
theorem ovE_ok {ns : List NodeD} : ∀ (f i : Nat) (seen : List Int), i < ns.length → SeenOk ns.length seen → SeenOk ns.length (ovE ns f i seen)
 | 0, i, seen, hi, h => h
 | f + 1, i, seen, hi, h => by
  unfold ovE
  split
  ·exact h
  ·rename_i hn
   exact fold_ok hi (fun k sn hk hs => ovE_ok f k sn hk hs) _ _ (fun k hk => keepK_mem hk) (seen_snoc h hi hn)
def BSet (w : World) (b n : Nat) (f : Int → Bool) : Prop := ∃ D : DataW Unit, w.ownsMap Tryd.prog 3 (plainElem Tryd.prog 4) b n D ∧ ∀ k : Int, (Lit.int .i64 k).wf = true → D.atKey (.int .i64 k) (.lit (.bool false)) = .lit (.bool (f k))
section
variable {w : World} {b n : Nat} {f : Int → Bool}
theorem BSet.lt (h : BSet w b n f) : b < w.heap.size := by
 obtain ⟨D, h, _⟩ := h
 exact h.lt
theorem BSet.isMap (h : BSet w b n f) : ∃ es clock, w.heap[b]? = some (.map es clock) := by
 obtain ⟨D, ⟨es, clock, e, _⟩, _⟩ := h
 exact ⟨es, clock, e⟩
theorem BSet.made (w : World) : BSet (w.alloc (.map #[] 0)) w.heap.size 0 (fun _ => false) := ⟨.map [], World.ownsMap_made w _ _ _, fun x _ => rfl⟩
theorem BSet.keep {w' : World} (h : BSet w b n f) (hb : w'.heap[b]? = w.heap[b]?) : BSet w' b n f := by
 obtain ⟨D, ⟨es, clock, e, h1⟩, h2⟩ := h
 exact ⟨D, ⟨es, clock, hb.trans e, h1⟩, h2⟩
theorem BSet.look (h : BSet w b n f) {k : Int} (hk : (Lit.int .i64 k).wf = true) : (Instr.lookup 100 (.map (some b)) (.int .i64 k) false).run Tryd.prog w = .ok (.bool (f k)) w := by
 obtain ⟨D, ho, hf⟩ := h
 obtain ⟨v, ps, hrun, hv⟩ := ho.lookup keyed3 Tryd.underlying100 (zero4 w) (plainElem_bool Tryd.underlying4 false) (keyOf_int_mk Tryd.underlying3 hk)
 obtain ⟨c, rfl, hc⟩ := plainElem_bool_inv hv
 rw [hrun]
 rw [hf k hk] at hc
 simp only [Prod.mk.injEq, DataW.lit.injEq, Lit.bool.injEq] at hc
 rw [hc.1]
theorem BSet.store (h : BSet w b n f) {k : Int} (hk : (Lit.int .i64 k).wf = true) (hn : n < maxLen) :
  ∃ w', (Instr.mapUpdate 100 (.map (some b)) (.int .i64 k) (.bool true)).run Tryd.prog w = .ok () w' ∧ BSet w' b (n + 1) (fun y => if y = k then true else f y) ∧ Mod (· = b) w w' := by
 obtain ⟨D, ho, hf⟩ := h
 obtain ⟨w', hrun, ho', ht⟩ := ho.store keyed3 Tryd.underlying100 hn (keyOf_int_mk Tryd.underlying3 hk) (plainElem_bool Tryd.underlying4 true)
 refine ⟨w', hrun, ⟨_, ho', fun y hy => ?_⟩, mod_turned ht⟩
 show _ = DataW.lit (Lit.bool (if y = k then true else f y))
 by_cases e : y = k
 ·subst e
  rw [if_pos rfl, Maps.atKey_put_same ho.isMap (show WideAt.IsKeyLit (Lit.int .i64 y) from trivial)]
 ·rw [if_neg e, Maps.atKey_put_other]
  ·exact hf y hy
  ·intro h
   exact e (by injection h)
end
abbrev SeenAt (w : World) (b : Nat) (l : List Int) : Prop := BSet w b l.length fun x => decide (x ∈ l)
theorem SeenAt.add {w : World} {b : Nat} {l : List Int} (h : SeenAt w b l) {k : Int} (hk : (Lit.int .i64 k).wf = true) (hn : l.length < maxLen) :
  ∃ w', (Instr.mapUpdate 100 (.map (some b)) (.int .i64 k) (.bool true)).run Tryd.prog w = .ok () w' ∧ SeenAt w' b (l ++ [k]) ∧ Mod (· = b) w w' := by
 obtain ⟨w', h1, h2, h3⟩ := BSet.store h hk hn
 refine ⟨w', h1, ?_, h3⟩
 have e : (fun y : Int => if y = k then true else decide (y ∈ l)) = fun y => decide (y ∈ l ++ [k]) := by
  funext y
  by_cases e : y = k
  ·simp [e]
  ·simp [e]
 rw [e] at h2
 unfold SeenAt
 rw [List.length_append]
 exact h2
structure KeepsCW (e : Nat) (W W' : World) : Prop where
 size : W.heap.size ≤ W'.heap.size
 same : ∀ (k : Nat) (o : Obj), W.heap[k]? = some o → k ≠ e → (o.isCells = true ∨ o.isWalk = true) → W'.heap[k]? = some o
 map : (∃ es c, W.heap[e]? = some (.map es c)) → ∃ es c, W'.heap[e]? = some (.map es c)
theorem KeepsCW.trans {e : Nat} {A B C : World} (h : KeepsCW e A B) (k : KeepsCW e B C) : KeepsCW e A C := ⟨Nat.le_trans h.size k.size, fun i o hi hne ho => k.same i o (h.same i o hi hne ho) hne ho, fun hm => k.map (h.map hm)⟩
theorem KeepsCW.put {e : Nat} (W : World) (l : Nat) (o o' : Obj) (h1 : W.heap[l]? = some o) (h2 : o.isCells = false) (h3 : o.isWalk = false) : KeepsCW e W (W.putObj l o') :=
 ⟨by simp, fun k x hk _ hx => by
  have hne : k ≠ l := fun e => by
   rw [e, h1] at hk
   cases hk
   rcases hx with hx | hx
   ·rw [h2] at hx; cases hx
   ·rw [h3] at hx; cases hx
  exact (World.putObj_heap_other hne).trans hk, fun hm => by
  obtain ⟨es, c, hm⟩ := hm
  have hne : e ≠ l := fun e2 => by
   rw [e2, h1] at hm
   cases hm
   cases h3
  exact ⟨es, c, (World.putObj_heap_other hne).trans hm⟩⟩
theorem KeepsCW.stay {e : Nat} {W W' : World} (h : KeepsCW e W W') (he : ∃ es c, W.heap[e]? = some (.map es c)) : StayC W W' := ⟨h.size, fun k cs t z hk => by
 have hne : k ≠ e := fun e1 => by
  obtain ⟨es, c, h1⟩ := he
  rw [e1, h1] at hk
  cases hk
 rw [hk]
 exact h.same k _ hk hne (.inl rfl)⟩
def YieldOk (J Jx : List Int → World → Prop) (e0 N l : Nat) : Prop := ∀ pre x W, J pre W → pre.length < N → 0 ≤ x → x < (N : Int) → ∀ m, YieldAt Fence.wide m Tryd.prog l #[.int .i64 x] W fun e' W' =>
 (e' = .returned (.bool true) ∧ J (pre ++ [x]) W' ∧ KeepsCW e0 W W') ∨ (e' = .returned (.bool false) ∧ Jx (pre ++ [x]) W')
theorem callsIn_any {m k : Nat} {f : FuncId} {args : Array Value} {W : World} {R : Ending → World → Prop} (h : CallsIn Fence.wide m Tryd.prog f args W R) : CallsIn Fence.wide k Tryd.prog f args W R := callsIn_wide.2 (callsIn_wide.1 h)
section
variable {ns : List NodeD} {A : Option Addr} {n c l tb e0 B : Nat} {J Jx : List Int → World → Prop}
theorem mod_stay {W W' : World} {b : Nat} (h : Mod (· = b) W W') (hm : ∃ es c, W.heap[b]? = some (.map es c)) : StayC W W' := ⟨h.size, fun k cs t z hk => h.block k (Array.getElem?_eq_some_iff.1 hk).1 fun e => by
 obtain ⟨es, c, h1⟩ := hm
 rw [e, h1] at hk
 cases hk⟩
theorem abides_mod {J : List Int → World → Prop} (hJ : AbidesFrom B J) {pre : List Int} {W W' : World} {b : Nat} (h : J pre W) (hm : Mod (· = b) W W') (hB : B ≤ b) (hmap : ∃ es c, W.heap[b]? = some (.map es c)) : J pre W' := by
 refine hJ pre W W' (some b) h ⟨hm.os, hm.tape, hm.output, hm.size, fun k hk hne => hm.block k hk fun e => hne (by rw [e])⟩ fun r e => ?_
 injection e with e
 subst e
 obtain ⟨es, c, h1⟩ := hmap
 exact ⟨hB, _, h1, rfl⟩
theorem abides_bel {J : List Int → World → Prop} (hJ : AbidesFrom B J) {pre : List Int} {W W' : World} (h : J pre W) (hb : Below W.heap.size W W') : J pre W' :=
 hJ pre W W' none h ⟨hb.os, hb.tape, hb.output, hb.size, fun k hk _ => hb.block k hk⟩ fun r e => by cases e
theorem over_in (hJ : AbidesFrom B J) (hB : B ≤ tb) (hne : tb ≠ e0) (hY : YieldOk J Jx e0 ns.length l) (hks : ∀ (i : Nat) x, ns[i]? = some x → x.kids.length ≤ 4398046511103) (hbig : ns.length ≤ 4398046511103) :
  ∀ (f i : Nat), i < f → i < ns.length → ∀ (seen : List Int) (W : World) (m : Nat), SeenOk ns.length seen → RdT W A n c ns → SeenAt W tb seen → (∃ es c, W.heap[e0]? = some (.map es c)) → J seen W →
   CallsIn Fence.wide m Tryd.prog 84 #[.slice A n c, .int .i64 i, .map (some tb), .func (.yield l) #[] #[]] W fun e W' =>
    (e = .returned (.bool true) ∧ J (ovE ns f i seen) W' ∧ SeenAt W' tb (ovE ns f i seen) ∧ StayC W W' ∧ ∃ es c, W'.heap[e0]? = some (.map es c)) ∨ (e = .returned (.bool false) ∧ ∃ pre, Jx pre W')
 | 0, i, hi, _, _, _, _, _, _, _, _, _ => by omega
 | f + 1, i, hf, hi, seen, W, m, hs, hT, hS, hE, hJs => by
  obtain ⟨x, hx⟩ : ∃ x, ns[i]? = some x := ⟨_, List.getElem?_eq_getElem hi⟩
  have hwf : (Lit.int .i64 (i : Int)).wf = true := wf_of (by omega)
  have hlk := hS.look hwf
  have hsl := seen_len _ _ hs
  refine callsIn_any (m := 9) ?_
  have h84 : (Fence.wide).fn 84 := trivial
  have h100 : (Fence.wide).fn 100 := trivial
  refine callsIn_of_wp Tryd.func84 rfl h84 ?_ rfl
  simp only [Tryd.ntmps84, List.size_toArray, List.length_cons, List.length_nil, Nat.reduceAdd, Nat.reduceSub, Array.replicate_succ, Array.replicate_zero, List.push_toArray, List.append_toArray, List.nil_append, List.cons_append]
  by_cases hm : (i : Int) ∈ seen
  ·have e : ovE ns (f + 1) i seen = seen := by unfold ovE; rw [if_pos hm]
   have hd : decide ((i : Int) ∈ seen) = true := decide_eq_true hm
   have HF := qh (And.intro hJs (And.intro hS hE))
   rw [hd] at hlk
   clear hJs hS hE hT hs hx hd
   gi_wp2
   go_ret
   rw [e]
   exact .inl ⟨rfl, HF.out.1, HF.out.2.1, StayC.refl _, HF.out.2.2⟩
  ·have hd : decide ((i : Int) ∈ seen) = false := decide_eq_false hm
   rw [hd] at hlk
   have e : ovE ns (f + 1) i seen = (keepK i x.kids).foldl (fun sn k => ovE ns f k.toNat sn) (seen ++ [(i : Int)]) := by
    rw [ovE, if_neg hm]
    unfold kidsAt
    rw [hx]
    rfl
   have hok1 := seen_snoc hs hi hm
   have hl1 := seen_len _ _ hok1
   rw [List.length_append] at hl1
   simp only [List.length_cons, List.length_nil] at hl1
   obtain ⟨W1, hrun, hS1, hm1⟩ := hS.add hwf (by unfold maxLen; omega)
   have hJ1 := abides_mod hJ hJs hm1 hB hS.isMap
   have hE1 : ∃ es c, W1.heap[e0]? = some (.map es c) := by
    obtain ⟨es, c, h1⟩ := hE
    exact ⟨es, c, (hm1.block e0 (Array.getElem?_eq_some_iff.1 h1).1 (fun e => hne e.symm)).trans h1⟩
   have hst1 := mod_stay hm1 hS.isMap
   obtain ⟨fn, tmps, assign, body, hy, hR2⟩ := hY seen i W1 hJ1 (by omega) (by omega) (by omega) 8
   have HX := qh hx
   have HKS := qh (hks i x hx)
   have HOK := qh hok1
   have HT1 := qh (hT.stay hst1)
   have HS1 := qh hS1
   have HST1 := qh hst1
   have HE1 := qh hE1
   have HE := qh e
   have HJ := qh hJ
   have HY := qh hY
   have HKA := qh hks
   have hpos : ∀ k ∈ keepK i x.kids, 0 ≤ k ∧ k < (i : Int) := fun k hk => keepK_mem hk
   have HPOS := qh hpos
   clear hx hok1 hT hS1 hst1 hE1 hE hJ1 hJ hY hks e hS hm1 hd hs hJs hpos hm
   gi_wp2
   refine hR2.mono ?_
   rintro e' W2 (⟨rfl, hJ2, hk2⟩ | ⟨rfl, hJx2⟩)
   ·have HT2 := qh (HT1.out.stay (hk2.stay HE1.out))
    have hS2 : SeenAt W2 tb (seen ++ [(i : Int)]) := by
     obtain ⟨es, c, hmm⟩ := HS1.out.isMap
     exact HS1.out.keep ((hk2.same tb _ hmm hne (.inr rfl)).trans hmm.symm)
    have HS2 := qh hS2
    have HE2 := qh (hk2.map HE1.out)
    have HST2 := qh (HST1.out.trans (hk2.stay HE1.out))
    have HJ2 := qh hJ2
    clear hS2 hk2 hJ2 hy hrun hlk
    gi_wp2_with fail
    refine (callsIn_wide.2 (kidsT_any HT2.out HX.out HKS.out)).mono ?_
    rintro e W3 ⟨v, rfl, ho3, hb3, hv3⟩
    obtain ⟨A3, c3, rfl, hr3, -⟩ := Own.rd ho3
    have HR3 := qh hr3
    have hkl := hr3.le
    have HB3 := qh hb3
    clear ho3 hb3 hv3 hr3
    gi_wp2_with fail
    have HJ3 := qh (abides_bel HJ.out HJ2.out HB3.out)
    have HS3 := qh (HS2.out.keep (HB3.out.block _ HS2.out.lt))
    have HE3 : Hid (∃ es c, W3.heap[e0]? = some (.map es c)) := qh (by
     obtain ⟨es, c, h1⟩ := HE2.out
     exact ⟨es, c, (HB3.out.block e0 (Array.getElem?_eq_some_iff.1 h1).1).trans h1⟩)
    have HT3 := qh (HT2.out.stay (StayC.bel HB3.out))
    have HST3 := qh (HST2.out.trans (StayC.bel HB3.out))
    generalize keepK i x.kids = K at *
    gi_loopw [24] (fun vi wr => ∃ j : Nat, j ≤ K.length ∧ vi = .int .i64 j ∧ Hid (J ((K.take j).foldl (fun sn k => ovE ns f k.toNat sn) (seen ++ [(i : Int)])) wr) ∧ SeenAt wr tb ((K.take j).foldl (fun sn k => ovE ns f k.toNat sn) (seen ++ [(i : Int)])) ∧ StayC W3 wr ∧ ∃ es c, wr.heap[e0]? = some (.map es c)) (fun vi _ => K.length - (intOf vi).toNat)
    case atStart => exact ⟨0, Nat.zero_le _, rfl, HJ3, HS3.out, StayC.refl _, HE3.out⟩
    case round =>
     obtain ⟨j, hj, rfl, HJr, hSr, hstr, hEr⟩ := hrel
     have HSR := qh hSr
     have HSTR := qh hstr
     have HER := qh hEr
     clear hSr hEr
     by_cases hlt : j < K.length
     ·obtain ⟨b4, o4, rfl, hb4, hc4⟩ := (HR3.out.stay hstr).2.2.2 (by omega)
      obtain ⟨k, hk⟩ : ∃ k, K[j]? = some k := ⟨_, List.getElem?_eq_getElem hlt⟩
      obtain ⟨h0, h1⟩ := HPOS.out k (List.mem_of_getElem? hk)
      obtain ⟨q, rfl⟩ : ∃ q : Nat, k = q := ⟨k.toNat, by omega⟩
      have hce : wr.cell? ⟨b4, o4 + j, none⟩ = some (.int .i64 q) := hc4 j _ (by rw [ics, List.getElem?_map, hk]; rfl)
      have hst : (K.take (j + 1)).foldl (fun sn k => ovE ns f k.toNat sn) (seen ++ [(i : Int)]) = ovE ns f q ((K.take j).foldl (fun sn k => ovE ns f k.toNat sn) (seen ++ [(i : Int)])) := by
       rw [List.take_add_one, hk, List.foldl_append]
       rfl
      have hok : SeenOk ns.length ((K.take j).foldl (fun sn k => ovE ns f k.toNat sn) (seen ++ [(i : Int)])) := fold_ok hi (fun k sn hk hs => ovE_ok f k sn hk hs) _ _ (fun k hk => HPOS.out k (List.mem_of_mem_take hk)) HOK.out
      generalize (K.take j).foldl (fun sn k => ovE ns f k.toNat sn) (seen ++ [(i : Int)]) = sj at *
      have KC := qh (over_in HJ.out hB hne HY.out HKA.out hbig f q (by omega) (by omega) sj wr 8 hok (HT3.out.stay hstr) HSR.out HER.out HJr.out)
      have HST := qh hst
      clear hst hok hc4 hk hstr
      gi_wp2_with fail
      refine (callsIn_any KC.out).mono ?_
      rintro e W4 (⟨rfl, hJ4, hS4, hst4, hE4⟩ | ⟨rfl, pre, hJx⟩)
      ·have HJ4 := qh hJ4
       have HS4 := qh hS4
       have HST4 := qh hst4
       have HE4 := qh hE4
       clear hJ4 hS4 hst4 hE4
       gi_wp2
       go_roundw
       case rel => exact ⟨j + 1, by omega, by go_num, qh (by rw [HST.out]; exact HJ4.out), by rw [HST.out]; exact HS4.out, HSTR.out.trans HST4.out, HE4.out⟩
       case measure => simp [intOf]; omega
      ·have HJX := qh hJx
       clear hJx
       gi_wp2
       go_ret
       exact .inr ⟨rfl, pre, HJX.out⟩
     ·obtain rfl : j = K.length := by omega
      clear hstr
      gi_wp2
      go_ret
      have e1 := HE.out
      rw [e1]
      have e2 : K.take K.length = K := List.take_of_length_le (Nat.le_refl _)
      have hj := HJr.out
      have hs := HSR.out
      rw [e2] at hj hs
      exact .inl ⟨rfl, hj, hs, HST3.out.trans HSTR.out, HER.out⟩
   ·have HJX := qh hJx2
    clear hJx2 hy hrun hlk
    gi_wp2
    go_ret
    exact .inr ⟨rfl, _, HJX.out⟩
end
theorem all_any (A : Option Addr) (n c i : Nat) (w : World) : Calls Tryd.prog 56 #[.slice A n c, .int .i64 i] w fun e w' => e = .returned (.func (.func 82) #[] #[.pointer (some ⟨w.heap.size, 0, none⟩), .pointer (some ⟨w.heap.size + 1, 0, none⟩)]) ∧ w' = (w.alloc (.cells #[.slice A n c] 25)).alloc (.cells #[.int .i64 i] 3) := by
 go_enter Tryd.func56, Tryd.ntmps56
 go_wp2_with fail
 go_ret
 exact ⟨rfl, rfl⟩
abbrev Num (N : Nat) := { x : Int // 0 ≤ x ∧ x < (N : Int) }
theorem all_stops {ns : List NodeD} {A : Option Addr} {n c e0 p2 p3 i : Nat} {w : World} (m : Nat) (hi : i < ns.length) (hks : ∀ (i : Nat) x, ns[i]? = some x → x.kids.length ≤ 4398046511103) (hbig : ns.length ≤ 4398046511103)
  (h2 : Blk w p2 25 #[.slice A n c]) (h3 : Blk w p3 3 #[.int .i64 i]) (hT : RdT w A n c ns) (hE : ∃ es c, w.heap[e0]? = some (.map es c)) :
  SeqStopsK Fence.wide m Tryd.prog 82 #[.pointer (some ⟨p2, 0, none⟩), .pointer (some ⟨p3, 0, none⟩)] (fun x : Num ns.length => #[Value.int .i64 x.1]) (KeepsCW e0) (fun xs => xs.map (·.1) = ovE ns (i + 1) i []) (fun _ => True) ns.length w := by
 intro l J Jx W hW hJ hJx hY h0
 have hY' : YieldOk (fun l W => ∃ la : List (Num ns.length), la.map (·.1) = l ∧ J la W) (fun l W => ∃ la : List (Num ns.length), la.map (·.1) = l ∧ Jx la W) e0 ns.length l := by
  rintro pre x W1 ⟨la, hla, hj⟩ hl h0 h1 k
  obtain ⟨fn, tmps, assign, body, hy, hR⟩ := hY la ⟨x, h0, h1⟩ W1 hj (by rw [← hla, List.length_map] at hl; exact hl)
  refine ⟨fn, tmps, assign, body, hy, RoundIn.mono ⟨hR.1, fun c cs _ => hR.2 c cs (room_wide _)⟩ ?_⟩
  rintro e W' (⟨rfl, h2, h3⟩ | ⟨rfl, h2⟩)
  ·exact .inl ⟨rfl, ⟨_, by rw [List.map_append, hla]; rfl, h2⟩, h3⟩
  ·exact .inr ⟨rfl, ⟨_, by rw [List.map_append, hla]; rfl, h2⟩⟩
 have hJ' : AbidesFrom W.heap.size (fun l W => ∃ la : List (Num ns.length), la.map (·.1) = l ∧ J la W) := by
  rintro l A B row ⟨la, e, hj⟩ hg hr
  exact ⟨la, e, hJ la A B row hj hg hr⟩
 replace h0 : ∃ la : List (Num ns.length), la.map (·.1) = ([] : List Int) ∧ J la W := ⟨[], rfl, h0⟩
 have hnl := hT.len
 have c2 : W.cell? ⟨p2, 0, none⟩ = some (.slice A n c) := (hW.cell (p := ⟨p2, 0, none⟩) h2.lt).trans (h2.cell 0)
 have c3 : W.cell? ⟨p3, 0, none⟩ = some (.int .i64 i) := (hW.cell (p := ⟨p3, 0, none⟩) h3.lt).trans (h3.cell 0)
 have hl2 : p2 < W.heap.size := Nat.lt_of_lt_of_le h2.lt hW.size
 have hl3 : p3 < W.heap.size := Nat.lt_of_lt_of_le h3.lt hW.size
 have hmk := run_makeMap (P := Tryd.prog) 100 W
 have hbW : Below W.heap.size W (W.alloc (.map #[] 0)) := bl1
 obtain ⟨es0, cl0, hE0⟩ := hE
 have hElt := (Array.getElem?_eq_some_iff.1 hE0).1
 have hs := hW.size
 have K := qh (over_in (B := W.heap.size) (tb := W.heap.size) hJ' (Nat.le_refl _) (by omega) hY' hks hbig (i + 1) i (by omega) hi [] (W.alloc (.map #[] 0)) 8 ⟨by simp, fun x hx => by cases hx⟩
  ((hT.stay (StayC.bel hW)).stay (StayC.bel hbW)) (by have := BSet.made W; simpa [SeenAt] using this) ⟨es0, cl0, (hbW.block e0 (by omega)).trans ((hW.block e0 hElt).trans hE0)⟩ (abides_bel hJ' h0 hbW))
 have d0 : decide (0 ≤ (i : Int)) = true := decide_eq_true (by omega)
 have d1 : decide ((i : Int) < (n : Int)) = true := decide_eq_true (by omega)
 clear h2 h3 hT hW hJ hJx hY hY' hJ' h0 hks hbig hbW hE0
 refine callsIn_any (m := 9) ?_
 have h82 : (Fence.wide).fn 82 := trivial
 have h83 : (Fence.wide).fn 83 := trivial
 have h84 : (Fence.wide).fn 84 := trivial
 refine callsIn_of_wp Tryd.func82 rfl h82 ?_ rfl
 simp only [Tryd.ntmps82, List.size_toArray, List.length_cons, List.length_nil, Nat.reduceAdd, Nat.reduceSub, Array.replicate_succ, Array.replicate_zero, List.push_toArray, List.append_toArray, List.nil_append, List.cons_append]
 gi_wp2_with fail
 refine (callsIn_wide.2 (isT_any A n c i W (by omega))).mono ?_
 rintro e W1 ⟨rfl, rfl⟩
 gi_wp2_with fail
 refine (callsIn_any K.out).mono ?_
 rintro e W4 (⟨rfl, ⟨la, hla, hJ4⟩, -, -, -⟩ | ⟨rfl, pre, la, hla, hJx⟩)
 ·have HJ := qh hJ4
  clear hJ4
  gi_wp2
  go_end0
  exact ⟨⟨_, rfl⟩, .inl ⟨_, hla, HJ.out⟩⟩
 ·have HJ := qh hJx
  clear hJx
  gi_wp2
  go_end0
  exact ⟨⟨_, rfl⟩, .inr ⟨_, trivial, HJ.out⟩⟩
def treeN (ns : List NodeD) (seen : List Int) : Nat → List Int × List NodeD
 | 0 => (List.replicate ns.length 0, [])
 | j + 1 => match ns[j]? with
  | none => treeN ns seen j
  | some x => if (j : Int) ∈ seen then
    ((treeN ns seen j).1.set j (treeN ns seen j).2.length, (treeN ns seen j).2 ++ [{ x with kids := x.kids.map fun k => (((treeN ns seen j).1.set j (treeN ns seen j).2.length)[k.toNat]?).getD 0 }])
   else treeN ns seen j
def treeOf (ns : List NodeD) : List NodeD := if ns = [] then [] else (treeN ns (ovE ns ns.length (ns.length - 1) []) ns.length).2
theorem treeN_len (ns : List NodeD) (seen : List Int) : ∀ j, (treeN ns seen j).1.length = ns.length
 | 0 => by simp [treeN]
 | j + 1 => by
  unfold treeN
  split
  ·exact treeN_len ns seen j
  ·split
   ·simp only [List.length_set]
    exact treeN_len ns seen j
   ·exact treeN_len ns seen j
theorem treeN_out (ns : List NodeD) (seen : List Int) : ∀ j, (treeN ns seen j).2.length ≤ j
 | 0 => by simp [treeN]
 | j + 1 => by
  unfold treeN
  split
  ·have := treeN_out ns seen j; omega
  ·split
   ·simp only [LL]
    have := treeN_out ns seen j; omega
   ·have := treeN_out ns seen j; omega
theorem run_make_rowN {P : Program} (t e : TypeId) (i : TypeInfo) (z : Value) (ht : P.underlying t = some (.slice e)) (hi : P.info? e = some i) (hz : i.zero = some z)
  (kl kc : IntKind) (n c : Nat) (hnc : n ≤ c) (hbytes : i.bytes * c ≤ 281474976710656) (h63 : c ≤ 9223372036854775807) (w : World) :
  (Instr.makeSlice t (.int kl (n : Int)) (.int kc (c : Int))).run P w = .ok (.slice (some ⟨w.heap.size, 0, none⟩) n c) (w.alloc (.cells (madeCells z.cells (c * i.size)) e)) := by
 have hb : (i.bytes : Int) * (c : Int) ≤ 281474976710656 := by
  have h : ((i.bytes * c : Nat) : Int) ≤ 281474976710656 := by omega
  rwa [Int.natCast_mul] at h
 have hr := run_make (P := P) w t e i z ht hi hz kl kc n c (by omega) (by omega) hb (by omega)
 simp only [Int.toNat_natCast] at hr
 exact hr
theorem made_one (z : Value) (n : Nat) : madeCells #[z] n = (List.replicate n z).toArray := by
 apply Array.toList_inj.1
 rw [toList_madeCells_one]
theorem make_I (n : Nat) (hn : n ≤ 8796093022208) (w : World) : (Instr.makeSlice 22 (.int .i64 (n : Int)) (.int .i64 (n : Int))).run Tryd.prog w = .ok (.slice (some ⟨w.heap.size, 0, none⟩) n n) (w.alloc (.cells (List.replicate n (.int .i64 0)).toArray 3)) := by
 obtain ⟨i0, hi, hz0, hz1, hz2⟩ := info_parts info_Int
 have := run_make_rowN (P := Tryd.prog) 22 3 i0 _ Tryd.underlying22 hi hz0 .i64 .i64 n n (Nat.le_refl _) (by rw [hz2]; omega) (by omega) w
 rw [hz1, Nat.mul_one] at this
 rw [← made_one]
 exact this
theorem row_own {w : World} {B : Nat} {t : TypeId} {sz n : Nat} {v : Value} {cs : List Value} (h : w.ownsRow B t sz v n cs) : Own w t sz v n cs := ⟨h.1, h.2.imp id fun ⟨g, cap, cur, e, _, hg, hn, hc, hs, ht⟩ => ⟨g, cap, cur, e, hg, hn, by simp only [maxLen] at hc; omega, Nat.le_of_eq hs.symm, ht⟩⟩
theorem row_base {w : World} {B : Nat} {t : TypeId} {sz n : Nat} {v : Value} {cs : List Value} (h : w.ownsRow B t sz v n cs) {b : Nat} (e : v.ownBlock = some b) : B ≤ b := by
 rcases h.2 with ⟨rfl, _⟩ | ⟨g, cap, cur, rfl, hb, _⟩
 ·cases e
 ·obtain rfl : g = b := by simpa [Value.ownBlock] using e
  exact hb
theorem clone_any {w : World} {A : Option Addr} {k c : Nat} {kids : List Int} (h : Rd w A k c 1 (ics kids)) (hk : kids.length = k) (hb : k ≤ 4398046511103) :
  Calls Tryd.prog 57 #[.slice A k c] w fun e w' => ∃ v, e = .returned v ∧ OwnI w' v kids ∧ Below w.heap.size w w' ∧ ∀ g, v.ownBlock = some g → w.heap.size ≤ g := by
 cases A with
 | none =>
  have h0 : k = 0 := by
   rcases Nat.eq_zero_or_pos k with h1 | h1
   ·exact h1
   ·obtain ⟨b, o, e, _⟩ := h.2.2.2 h1
    cases e
  subst h0
  obtain rfl : kids = [] := List.eq_nil_of_length_eq_zero hk
  refine (Tryd.slices_Clone_int_nil 0 c w).mono ?_
  rintro e w' ⟨rfl, rfl⟩
  exact ⟨_, rfl, OwnI.nil_ _, Below.refl _ _, fun g e => by cases e⟩
 | some a =>
  rcases Nat.eq_zero_or_pos k with h0 | h0
  ·subst h0
   obtain rfl : kids = [] := List.eq_nil_of_length_eq_zero hk
   refine (Tryd.slices_Clone_int_zero a c w).mono ?_
   rintro e w' ⟨v, rfl, ho, _, hb⟩
   exact ⟨v, rfl, row_own ho, hb, fun g e => row_base ho e⟩
  ·obtain ⟨b, o, e, hlt, hc⟩ := h.2.2.2 h0
   injection e with e
   subst e
   refine (Tryd.slices_Clone_int b o k c kids w (by omega) (by omega) fun j hj => hc j _ ?_).mono ?_
   ·rw [ics, List.getElem?_map, List.getElem?_eq_getElem hj]
    simp [hj]
   ·rintro e w' ⟨v, rfl, ho, _, hb⟩
    rw [List.take_of_length_le (by omega)] at ho
    refine ⟨v, rfl, ?_, hb, fun g e => row_base ho e⟩
    unfold OwnI
    rw [hk]
    exact row_own ho
section
variable {ops : Array Oper} {rest : List Oper} {o : Oper} {a : Act} {Q : Exit → Act → World → Prop}
theorem wpList_appendNode (w : World) (hgd : o.guard = none) (s x : Operand) (ho : o.op = .call { callee := .builtin .append, args := #[s, x], argTypes := #[25, 25] })
  (v : Value) (Z : List NdS) (hs : a.eval s = v) (hown : Own w 51 5 v Z.length (Z.flatMap NdS.cs)) (A : Option Addr) (c : Nat) (z : NdS) (hx : a.eval x = .slice A 1 c) (hr : Rd w A 1 c 5 z.cs) (hbound : Z.length + 1 ≤ 1099511627776)
  (h : ∀ v' w', Own w' 51 5 v' (Z ++ [z]).length ((Z ++ [z]).flatMap NdS.cs) → w.grownBy w' v.ownBlock → (v'.ownBlock = v.ownBlock ∨ v'.ownBlock = some w.heap.size) → wpList Tryd.prog ops Q rest (a.put o.dst v') w') :
  wpList Tryd.prog ops Q (o :: rest) a w := by
 obtain ⟨i0, hi, hz0, hz1, hz2⟩ := info_parts info_Node
 refine wpList_append_Own w hgd s x _ ho _ i0 _ 5 64 Tryd.underlying25 hi hz0 hz1 hz2 rfl v Z.length (Z.flatMap NdS.cs) hs hown A 1 c z.cs hx hr ?_ (by omega) (by omega) (fun v' w' h1 h2 h3 => h v' w' ?_ h2 h3)
 ·intro u hu
  simp only [NdS.cs, NdS.v, List.mem_cons, List.not_mem_nil, or_false] at hu
  rcases hu with rfl | rfl | rfl | rfl | rfl <;> rfl
 ·rw [List.length_append, List.flatMap_append, List.flatMap_singleton]
  exact h1
end
end
section
set_option linter.unusedVariables false
set_option linter.unusedSimpArgs false
theorem kidsAt_ok {ns : List NodeD} (hk : KidsOk ns) (i : Nat) : ∀ k ∈ kidsAt ns i, 0 ≤ k ∧ k < (i : Int) := by
 intro k h
 unfold kidsAt at h
 cases hx : ns[i]? with
 | none => rw [hx] at h; cases h
 | some x => rw [hx] at h; exact hk i x hx k h
theorem keepK_all {i : Nat} {kids : List Int} (h : ∀ k ∈ kids, 0 ≤ k ∧ k < (i : Int)) : keepK i kids = kids := List.filter_eq_self.2 fun k hk => decide_eq_true (h k hk)
def ClosedIn (ns : List NodeD) (seen R : List Int) : Prop := (∀ x ∈ seen, x ∈ R) ∧ ∀ j : Nat, (j : Int) ∈ R → (j : Int) ∉ seen → ∀ k ∈ kidsAt ns j, k ∈ R
theorem fold_closed {ns : List NodeD} {f i : Nat} (ih : ∀ (k : Nat) (seen : List Int), k < f → ClosedIn ns seen (ovE ns f k seen) ∧ (k : Int) ∈ ovE ns f k seen) : ∀ (l : List Int) (seen : List Int), (∀ k ∈ l, 0 ≤ k ∧ k < (f : Int)) → ClosedIn ns seen (l.foldl (fun sn k => ovE ns f k.toNat sn) seen) ∧ ∀ k ∈ l, k ∈ l.foldl (fun sn k => ovE ns f k.toNat sn) seen
 | [], seen, h => ⟨⟨fun x hx => hx, fun j h1 h2 => absurd h1 h2⟩, fun k hk => by cases hk⟩
 | k :: l, seen, h => by
  simp only [List.foldl_cons]
  have hk := h k (.head _)
  obtain ⟨⟨a1, a2⟩, a3⟩ := ih k.toNat seen (by omega)
  obtain ⟨⟨b1, b2⟩, b3⟩ := fold_closed (i := i) ih l (ovE ns f k.toNat seen) (fun k hk => h k (.tail _ hk))
  rw [Int.toNat_of_nonneg hk.1] at a3
  refine ⟨⟨fun x hx => b1 x (a1 x hx), fun j h1 h2 q hq => ?_⟩, fun q hq => ?_⟩
  ·by_cases h3 : (j : Int) ∈ ovE ns f k.toNat seen
   ·exact b1 q (a2 j h3 h2 q hq)
   ·exact b2 j h1 h3 q hq
  ·rcases List.mem_cons.1 hq with rfl | hq
   ·exact b1 _ a3
   ·exact b3 q hq
theorem ovE_closed {ns : List NodeD} (hk : KidsOk ns) : ∀ (f i : Nat) (seen : List Int), i < f → ClosedIn ns seen (ovE ns f i seen) ∧ (i : Int) ∈ ovE ns f i seen
 | 0, i, seen, h => by omega
 | f + 1, i, seen, h => by
  unfold ovE
  split
  ·rename_i hm
   exact ⟨⟨fun x hx => hx, fun j h1 h2 => absurd h1 h2⟩, hm⟩
  ·rename_i hm
   have hko := kidsAt_ok hk i
   rw [keepK_all hko]
   obtain ⟨⟨a1, a2⟩, a3⟩ := fold_closed (i := i) (ns := ns) (f := f) (fun k seen hkf => ovE_closed hk f k seen hkf) (kidsAt ns i) (seen ++ [(i : Int)]) (fun k hk2 => by have := hko k hk2; omega)
   refine ⟨⟨fun x hx => a1 x (List.mem_append_left _ hx), fun j h1 h2 => ?_⟩, a1 _ (by simp)⟩
   by_cases hj : j = i
   ·subst hj
    exact a3
   ·exact a2 j h1 (by simp only [List.mem_append, List.mem_singleton, not_or]; exact ⟨h2, by omega⟩)
theorem treeN_all {ns : List NodeD} (hk : KidsOk ns) {seen : List Int} (hs : ∀ i : Nat, i < ns.length → (i : Int) ∈ seen) : ∀ j, j ≤ ns.length → (treeN ns seen j).2 = ns.take j ∧ ∀ k : Nat, k < j → (treeN ns seen j).1[k]? = some (k : Int)
 | 0, h => ⟨by simp [treeN], fun k hk => by omega⟩
 | j + 1, h => by
  obtain ⟨h1, h2⟩ := treeN_all hk hs j (by omega)
  have hx : ns[j]? = some ns[j] := List.getElem?_eq_getElem (by omega)
  have hl := treeN_len ns seen j
  unfold treeN
  rw [hx]
  simp only
  rw [if_pos (hs j (by omega)), h1]
  have hlen : (ns.take j).length = j := by rw [List.length_take]; omega
  rw [hlen]
  have h3 : ∀ k : Nat, k < j + 1 → ((treeN ns seen j).1.set j (j : Int))[k]? = some (k : Int) := fun k hk => by
   by_cases e : k = j
   ·subst e
    rw [List.getElem?_set_self (by rw [hl]; omega)]
   ·rw [List.getElem?_set_ne (by omega)]
    exact h2 k (by omega)
  refine ⟨?_, h3⟩
  have h4 : (ns[j].kids.map fun k => (((treeN ns seen j).1.set j (j : Int))[k.toNat]?).getD 0) = ns[j].kids := by
   conv => rhs; rw [← List.map_id ns[j].kids]
   refine List.map_congr_left fun k hkk => ?_
   have := hk j _ hx k hkk
   rw [h3 k.toNat (by omega)]
   simp only [Option.getD_some, id_eq]
   omega
  simp only
  rw [h4, List.take_add_one, hx]
  rfl
theorem treeOf_same {ns : List NodeD} (hk : KidsOk ns) (hu : ∀ i : Nat, i + 1 < ns.length → (i : Int) ∈ kidsAll ns) : treeOf ns = ns := by
 unfold treeOf
 split
 ·rename_i h; exact h.symm
 ·rename_i h
  have hpos : 0 < ns.length := List.length_pos_iff.2 h
  obtain ⟨⟨_, c2⟩, c3⟩ := ovE_closed hk ns.length (ns.length - 1) [] (by omega)
  have hall : ∀ d i : Nat, i + d + 1 = ns.length → (i : Int) ∈ ovE ns ns.length (ns.length - 1) [] := by
   intro d
   induction d using Nat.strongRecOn with
   | _ d ih =>
    intro i hi
    by_cases hd : d = 0
    ·obtain rfl : i = ns.length - 1 := by omega
     exact c3
    ·have h1 := hu i (by omega)
     obtain ⟨x, hx, hxk⟩ := List.mem_flatMap.1 h1
     obtain ⟨j, hj⟩ := List.getElem?_of_mem hx
     have h2 := hk j x hj _ hxk
     have h3 := (List.getElem?_eq_some_iff.1 hj).1
     exact c2 j (ih (ns.length - 1 - j) (by omega) j (by omega)) (by simp) _ (by unfold kidsAt; rw [hj]; exact hxk)
  have := (treeN_all hk (seen := ovE ns ns.length (ns.length - 1) []) (fun i hi => hall (ns.length - 1 - i) i (by omega)) ns.length (Nat.le_refl _)).1
  rw [this, List.take_length]
section
variable {L : List TokD} {n : Nat} {s : PS} {x : Int}
theorem BkN.kidsOk {P : List Int} (h : BkN L n s P) : KidsOk s.ns := fun i x hx k hk => (h.node i x hx).kids k hk
theorem BkN.last (h : BkN L n s [x]) : ∃ k : Nat, x = k ∧ k + 1 = s.ns.length := by
 obtain ⟨k, rfl, hk⟩ := h.ok (.head _)
 refine ⟨k, rfl, ?_⟩
 have h1 := h.use (s.ns.length - 1)
 rw [if_pos (by omega)] at h1
 by_cases e : k + 1 = s.ns.length
 ·exact e
 ·exfalso
  rw [List.count_cons_of_ne (by omega), List.count_nil] at h1
  have h2 : ((s.ns.length - 1 : Nat) : Int) ∈ kidsAll s.ns := List.count_pos_iff.1 (by omega)
  obtain ⟨y, hy, hyk⟩ := List.mem_flatMap.1 h2
  obtain ⟨j, hj⟩ := List.getElem?_of_mem hy
  have h3 := (h.node j y hj).kids _ hyk
  have h4 := (List.getElem?_eq_some_iff.1 hj).1
  omega
theorem BkN.tree (h : BkN L n s [x]) : treeOf s.ns = s.ns := by
 obtain ⟨k, rfl, hk⟩ := h.last
 refine treeOf_same h.kidsOk fun i hi => List.count_pos_iff.1 ?_
 have h1 := h.use i
 rw [if_pos (by omega), List.count_cons_of_ne (by omega), List.count_nil] at h1
 omega
end
end
section
open Go.RowKit Go.Shelf
set_option linter.unusedVariables false
set_option linter.unusedSimpArgs false
attribute [local go_sem] Oper.semAt_some
def mark (D : Nat) : Deferred := { target := .collected D, args := #[] }
theorem leaves_mark {F : Fence} {n : Nat} {P : Program} {fn : Func} {tmps : Array Value} {R : Ending → World → Prop} {v : Value} {D : Nat} {W : World} (hD : W.heap[D]? = some (.deferred (some [])))
  (hR : ∀ W', (W'.heap.size = W.heap.size ∧ (∀ i, i ≠ D → W'.heap[i]? = W.heap[i]?) ∧ W'.os = W.os ∧ W'.tape = W.tape ∧ W'.output = W.output) → (results fn tmps).run P W' = .ok v W' ∧ R (.returned v) W') :
  LeavesInM F n P fn tmps R [mark D] .returning W := by
 have hput : ∀ i, i ≠ D → (W.putObj D (.deferred none)).heap[i]? = W.heap[i]? := fun i hi => World.putObj_heap_other (fun e => hi (by first | exact e | exact e.symm))
 refine ⟨by simp, .inl ⟨D, _, rfl, run_takeDeferred hD, ?_⟩⟩
 obtain ⟨h1, h2⟩ := hR (W.putObj D (.deferred none)) ⟨by simp [World.putObj], hput, rfl, rfl, rfl⟩
 exact ⟨v, h1, h2⟩
structure TrS (w : World) (ns : List NodeD) (seen : List Int) (bx e0 nb D : Nat) (wr : World) (j : Nat) (v : Value) : Prop where
 bel : Below w.heap.size w wr
 num : Own wr 3 1 (.slice (some ⟨nb, 0, none⟩) ns.length ns.length) ns.length (ics (treeN ns seen j).1)
 out : RowN (· = nb) wr v (treeN ns seen j).2
 outB : ∀ g, v.ownBlock = some g → w.heap.size ≤ g
 box : Blk wr bx 100 #[.map (some e0)]
 set_ : SeenAt wr e0 seen
 def_ : wr.heap[D]? = some (.deferred (some []))
 nB : w.heap.size ≤ nb
 dB : w.heap.size ≤ D
theorem TrS.move {w : World} {ns : List NodeD} {seen : List Int} {bx e0 nb D j j' : Nat} {wr wr' : World} {v : Value} (h : TrS w ns seen bx e0 nb D wr j v) (hb : Below wr.heap.size wr wr') (e : treeN ns seen j' = treeN ns seen j) : TrS w ns seen bx e0 nb D wr' j' v := by
 refine ⟨h.bel.trans (hb.mono h.bel.size), by rw [e]; exact h.num.new hb, ?_, h.outB, h.box.bel hb, h.set_.keep (hb.block _ h.set_.lt), (hb.block D (Array.getElem?_eq_some_iff.1 h.def_).1).trans h.def_, h.nB, h.dB⟩
 rw [e]
 obtain ⟨Z, e1, z1, z2⟩ := h.out
 exact ⟨Z, e1, z1.new hb, fun z hz => ⟨(z2 z hz).1.bel hb, (z2 z hz).2⟩⟩
theorem TrS.fin {w : World} {ns : List NodeD} {seen : List Int} {bx e0 nb D j : Nat} {wr wr' : World} {v : Value} (h : TrS w ns seen bx e0 nb D wr j v) (hk : wr'.heap.size = wr.heap.size ∧ (∀ i, i ≠ D → wr'.heap[i]? = wr.heap[i]?) ∧ wr'.os = wr.os ∧ wr'.tape = wr.tape ∧ wr'.output = wr.output) :
  RowN (fun _ => False) wr' v (treeN ns seen j).2 ∧ Below w.heap.size w wr' ∧ ∀ g, v.ownBlock = some g → w.heap.size ≤ g := by
 obtain ⟨h1, h2, h3, h4, h5⟩ := hk
 have hd := h.def_
 refine ⟨?_, ⟨h3.trans h.bel.os, h4.trans h.bel.tape, h5.trans h.bel.output, by rw [h1]; exact h.bel.size, fun k hk => (h2 k (by have := h.dB; omega)).trans (h.bel.block k hk)⟩, h.outB⟩
 obtain ⟨Z, e1, z1, z2⟩ := h.out
 have own_ne : ∀ {t : TypeId} {sz n : Nat} {v : Value} {cs : List Value}, Own wr t sz v n cs → ∀ b, v.ownBlock = some b → b ≠ D := by
  intro t sz n v cs ho b hb e
  rcases ho.2 with ⟨rfl, _⟩ | ⟨g, _, cur, rfl, hh, _⟩
  ·cases hb
  ·obtain rfl : g = b := by simpa [Value.ownBlock] using hb
   rw [e, hd] at hh
   cases hh
 refine ⟨Z, e1, Own.keep z1 fun b hb => h2 b (own_ne z1 b hb), fun z hz => ⟨?_, fun _ _ => id, (z2 z hz).2.2⟩⟩
 have h9 := (z2 z hz).1
 unfold OwnI at h9 ⊢
 exact Own.keep h9 fun b hb => h2 b (own_ne h9 b hb)
theorem TrS.next {w : World} {ns : List NodeD} {seen : List Int} {bx e0 nb D j : Nat} {wr wi W' w6 : World} {v v6 : Value} {Z : List NdS} {z : NdS} (h : TrS w ns seen bx e0 nb D wr j v) (eZ : Z.map (·.x) = (treeN ns seen j).2) (z1 : Own wr 51 5 v Z.length (Z.flatMap NdS.cs)) (z2 : ∀ z ∈ Z, OwnI wr z.v z.x.kids ∧ (∀ b, z.v.ownBlock = some b → ¬ b = nb) ∧ z.x.kids.length ≤ 4398046511103) (hzl : z.x.kids.length ≤ 4398046511103)
  (hm : Mod (fun g => g = nb ∨ wr.heap.size ≤ g) wr wi) (hnum : Own wi 3 1 (.slice (some ⟨nb, 0, none⟩) ns.length ns.length) ns.length (ics (treeN ns seen (j + 1)).1)) (hz : OwnI wi z.v z.x.kids) (hzn : ∀ g, z.v.ownBlock = some g → wr.heap.size ≤ g)
  (e : (treeN ns seen (j + 1)).2 = (treeN ns seen j).2 ++ [z.x]) (hb : Below wi.heap.size wi W') (h6 : Own w6 51 5 v6 (Z ++ [z]).length ((Z ++ [z]).flatMap NdS.cs)) (hg : W'.grownBy w6 v.ownBlock) (hn : v6.ownBlock = v.ownBlock ∨ v6.ownBlock = some W'.heap.size) :
  TrS w ns seen bx e0 nb D w6 (j + 1) v6 := by
 have hs0 := h.bel.size
 have hs1 := hm.size
 have hs2 := hb.size
 have hs3 := hg.size
 have hnl : nb < wr.heap.size := h.num.lt rfl
 have vlt : ∀ g, v.ownBlock = some g → g < wr.heap.size := fun g e => z1.lt e
 have vne : v.ownBlock ≠ some nb := own_own_ne h.num z1 (by decide) rfl
 -- a block of wr that is neither nb nor the row's lies in w6 as it lay
 have kp : ∀ k, k < wr.heap.size → k ≠ nb → v.ownBlock ≠ some k → w6.heap[k]? = wr.heap[k]? := fun k hk h1 h2 =>
  (hg.block k (by omega) (fun e => h2 e.symm)).trans ((hb.block k (by omega)).trans (hm.block k hk (by rintro (e | e); exact h1 e; omega)))
 have kpi : ∀ k, k < wi.heap.size → v.ownBlock ≠ some k → w6.heap[k]? = wi.heap[k]? := fun k hk h2 => (hg.block k (by omega) (fun e => h2 e.symm)).trans (hb.block k hk)
 have z1i : Own wi 51 5 v Z.length (Z.flatMap NdS.cs) := z1.mod hm fun b hb h9 => by
  rcases h9 with e | e
  ·exact vne (e ▸ hb)
  ·have := vlt b hb; omega
 have bel6 : Below w.heap.size w w6 := by
  refine ⟨hg.os.trans (hb.os.trans (hm.os.trans h.bel.os)), hg.tape.trans (hb.tape.trans (hm.tape.trans h.bel.tape)), hg.output.trans (hb.output.trans (hm.output.trans h.bel.output)), by omega, fun k hk => (kp k (by omega) (fun e => by have := h.nB; omega) fun e => ?_).trans (h.bel.block k hk)⟩
  have := h.outB k e
  omega
 refine ⟨bel6, Own.keep hnum fun b hb9 => kpi b (hnum.lt hb9) fun e9 => ?_, ⟨Z ++ [z], by rw [List.map_append, eZ, e]; rfl, h6, fun y hy => ?_⟩, fun g hg6 => ?_, ?_, h.set_.keep (kp _ h.set_.lt ?_ ?_), (kp D (Array.getElem?_eq_some_iff.1 h.def_).1 ?_ ?_).trans h.def_, h.nB, h.dB⟩
 ·exact own_own_ne hnum z1i (by decide) hb9 e9
 ·rcases List.mem_append.1 hy with hy | hy
  ·obtain ⟨h1, h2⟩ := z2 y hy
   refine ⟨?_, h2⟩
   unfold OwnI at h1 ⊢
   exact Own.keep h1 fun b hb9 => kp b (h1.lt hb9) (h2.1 b hb9) (own_own_ne h1 z1 (by decide) hb9)
  ·rw [List.mem_singleton.1 hy]
   refine ⟨?_, fun b hb9 e9 => by have := hzn b hb9; omega, hzl⟩
   unfold OwnI at hz ⊢
   exact Own.keep hz fun b hb9 => kpi b (hz.lt hb9) (own_own_ne hz z1i (by decide) hb9)
 ·rcases hn with e9 | e9
  ·exact h.outB g (e9 ▸ hg6)
  ·rw [e9] at hg6
   injection hg6 with hg6
   omega
 ·refine (kp bx h.box.lt ?_ ?_).trans h.box
  ·rintro rfl
   exact own_blk_ne h.num h.box (by decide) rfl
  ·exact own_blk_ne z1 h.box (by decide)
 ·rintro rfl
  obtain ⟨es, c, e9⟩ := h.set_.isMap
  rcases h.num.2 with ⟨e8, _⟩ | ⟨g, _, cur, e8, hh, _⟩
  ·cases e8
  ·injection e8 with e8
   injection e8 with e8
   injection e8 with e8
   subst e8
   rw [hh] at e9
   cases e9
 ·intro e7
  obtain ⟨es, c, e9⟩ := h.set_.isMap
  rcases z1.2 with ⟨rfl, _⟩ | ⟨g, _, cur, rfl, hh, _⟩
  ·cases e7
  ·obtain rfl : g = e0 := by simpa [Value.ownBlock] using e7
   rw [hh] at e9
   cases e9
 ·rintro rfl
  have e9 := h.def_
  rcases h.num.2 with ⟨e8, _⟩ | ⟨g, _, cur, e8, hh, _⟩
  ·cases e8
  ·injection e8 with e8
   injection e8 with e8
   injection e8 with e8
   subst e8
   rw [hh] at e9
   cases e9
 ·intro e7
  have e9 := h.def_
  rcases z1.2 with ⟨rfl, _⟩ | ⟨g, _, cur, rfl, hh, _⟩
  ·cases e7
  ·obtain rfl : g = D := by simpa [Value.ownBlock] using e7
   rw [hh] at e9
   cases e9
theorem map_set {f : Int → Int} {kids : List Int} {q : Nat} {y : Int} (h : kids[q]? = some y) : ((kids.take q).map f ++ kids.drop q)[q]? = some y ∧ ((kids.take q).map f ++ kids.drop q).set q (f y) = (kids.take (q + 1)).map f ++ kids.drop (q + 1) := by
 have hq := (List.getElem?_eq_some_iff.1 h).1
 have hl : ((kids.take q).map f).length = q := by rw [List.length_map, List.length_take]; omega
 have hd : kids.drop q = y :: kids.drop (q + 1) := by
  rw [List.drop_eq_getElem_cons hq]
  congr 1
  exact Option.some.inj ((List.getElem?_eq_getElem hq).symm.trans h)
 refine ⟨?_, ?_⟩
 ·rw [List.getElem?_append_right (by omega), hl, Nat.sub_self, hd]
  rfl
 ·rw [List.set_append_right _ _ (by omega), hl, Nat.sub_self, hd, List.take_add_one, h]
  simp
theorem tree_some {w : World} {A : Option Addr} {n c bb : Nat} {ns : List NodeD} (hb : Blk w bb 71 #[.slice A n c]) (hT : RdT w A n c ns) (hK : KidsOk ns) (hks : ∀ (i : Nat) x, ns[i]? = some x → x.kids.length ≤ 4398046511103) (hbig : ns.length ≤ 1099511627775) (hn : ns ≠ []) :
  Calls Tryd.prog 35 #[.pointer (some ⟨bb, 0, none⟩)] w fun e w' => ∃ v, e = .returned v ∧ RowN (fun _ => False) w' v (treeOf ns) ∧ Below w.heap.size w w' ∧ ∀ g, v.ownBlock = some g → w.heap.size ≤ g := by
 have hnl := hT.len
 have hn0 : ns.length ≠ 0 := fun h => hn (List.length_eq_zero_iff.1 h)
 have hpos : 1 ≤ n := by omega
 have hnz : ((n : Int) == 0) = false := by
  have : n ≠ 0 := by omega
  simpa using this
 have cb : w.cell? ⟨bb, 0, none⟩ = some (.slice A n c) := hb.cell 0
 have hlt := hb.lt
 have hmk := run_makeMap (P := Tryd.prog) 100 w
 have hw : IntKind.i64.wrap ((n : Int) - 1) = ((n - 1 : Nat) : Int) := by rw [IntWalk.i64_in _ (by omega)]; omega
 have HT := qh hT
 have HKS := qh hks
 have HKO := qh hK
 have HB := qh hb
 have HKP : Hid (∀ W', Below w.heap.size w W' → W'.cell? ⟨bb, 0, none⟩ = some (.slice A n c)) := qh fun W' h => (h.cell (p := ⟨bb, 0, none⟩) hlt).trans cb
 clear hT hb
 refine (callsIn_wide (n := 9)).1 ?_
 refine callsIn_of_wp_marks Tryd.func35 rfl trivial ?_ rfl
 simp only [Tryd.ntmps35, List.size_toArray, List.length_cons, List.length_nil, Nat.reduceAdd, Nat.reduceSub, Array.replicate_succ, Array.replicate_zero, List.push_toArray, List.append_toArray, List.nil_append, List.cons_append]
 refine wpIn_wide.2 ?_
 go_wp2_with fail
 go_region_held3 (fun w' => w'.cell? ⟨bb, 0, none⟩ = some (.slice A n c)) (first | exact HKP.out _ (by repeat (first | exact Below.refl _ _ | assumption | refine Below.setCell ?_ (by first | (simp; done) | (simp; omega) | omega) _ | refine below_drewN ?_ _ | refine Below.drew ?_ | refine Below.alloc ?_ (by first | (simp; done) | (simp; omega) | omega) _)) | go_keep) (first | (go_at_call 56; refine (all_any A n c (n - 1) _).mono ?_; rintro e w2 ⟨rfl, rfl⟩))
 generalize hW2 : World.drew _ = W2
 have hbel : Below w.heap.size w W2 := by rw [← hW2]; exact (by repeat (first | exact Below.refl _ _ | assumption | refine Below.setCell ?_ (by first | (simp; done) | (simp; omega) | omega) _ | refine below_drewN ?_ _ | refine Below.drew ?_ | refine Below.alloc ?_ (by first | (simp; done) | (simp; omega) | omega) _))
 have hz2 : W2.heap.size = w.heap.size + 4 := by rw [← hW2]; simp [World.drew]
 have hbx : Blk W2 (w.heap.size + 1) 100 #[.map (some w.heap.size)] := by
  have h1 := Blk.new (w.alloc (.map #[] 0)) 100 #[.map (some w.heap.size)]
  rw [World.size_alloc] at h1
  rw [← hW2]
  exact (h1.alloc (.cells #[.slice A n c] 25)).alloc (.cells #[.int .i64 ((n - 1 : Nat) : Int)] 3)
 have hp2 : Blk W2 (w.heap.size + 1 + 1) 25 #[.slice A n c] := by
  have h1 := Blk.new ((w.alloc (.map #[] 0)).alloc (.cells #[.map (some w.heap.size)] 100)) 25 #[.slice A n c]
  rw [World.size_alloc, World.size_alloc] at h1
  rw [← hW2]
  exact h1.alloc (.cells #[.int .i64 ((n - 1 : Nat) : Int)] 3)
 have hp3 : Blk W2 (w.heap.size + 1 + 1 + 1) 3 #[.int .i64 ((n - 1 : Nat) : Int)] := by
  have h1 := Blk.new (((w.alloc (.map #[] 0)).alloc (.cells #[.map (some w.heap.size)] 100)).alloc (.cells #[.slice A n c] 25)) 3 #[.int .i64 ((n - 1 : Nat) : Int)]
  rw [World.size_alloc, World.size_alloc, World.size_alloc] at h1
  rw [← hW2]
  exact h1
 have hset : SeenAt W2 w.heap.size [] := by
  have h1 := BSet.made w
  have h2 : SeenAt (w.alloc (.map #[] 0)) w.heap.size [] := by simpa [SeenAt] using h1
  rw [← hW2]
  have hb9 : Below (w.heap.size + 1) (w.alloc (.map #[] 0)) ((((w.alloc (.map #[] 0)).alloc (.cells #[.map (some w.heap.size)] 100)).alloc (.cells #[.slice A n c] 25)).alloc (.cells #[.int .i64 ((n - 1 : Nat) : Int)] 3)).drew := (by repeat (first | exact Below.refl _ _ | assumption | refine Below.setCell ?_ (by first | (simp; done) | (simp; omega) | omega) _ | refine below_drewN ?_ _ | refine Below.drew ?_ | refine Below.alloc ?_ (by first | (simp; done) | (simp; omega) | omega) _))
  exact h2.keep (hb9.block _ (by omega))
 clear hW2 hmk
 dsimp only [Exit.then]
 go_at_K
 go_wp2_with fail
 refine (wpIn_wide (n := 9)).1 ?_
 refine wpIn_rangeFunc_ownG rfl (by omega) (gf := 82) (lb := #[.pointer (some ⟨w.heap.size + 1 + 1, 0, none⟩), .pointer (some ⟨w.heap.size + 1 + 1 + 1, 0, none⟩)]) rfl trivial (enters_of Tryd.func82 (by kernel_rfl) rfl)
  (all_stops (e0 := w.heap.size) 8 (by omega) hks (by omega) hp2 hp3 (HT.out.stay (StayC.bel hbel)) hset.isMap) (fun h k => h.trans k) (fun W l o o' _ h1 h2 h3 => KeepsCW.put W l o o' h1 h2 h3) (Below.refl _ _) (fun _ => rfl)
  (fun pre W' => Below w.heap.size w W' ∧ Blk W' (w.heap.size + 1) 100 #[.map (some w.heap.size)] ∧ SeenAt W' w.heap.size (pre.map (·.1)))
  (fun _ _ _ => False)
  ?hI ?hIx ⟨hbel, hbx, hset⟩
  (fun x => { tmps := #[.pointer (some ⟨bb, 0, none⟩), undef, .slice none 0 0, .pointer (some ⟨w.heap.size + 1, 0, none⟩), .int .i64 x.1, undef, undef, undef, undef, undef, undef, .pointer (some ⟨bb, 0, none⟩), .bool false, .bool false, .pointer (some ⟨bb, 0, none⟩), .pointer (some ⟨bb, 0, none⟩), .pointer (some ⟨bb, 0, none⟩), .slice A n c, .int .i64 n, .bool false, .bool false, .map (some w.heap.size), .pointer (some ⟨bb, 0, none⟩), .pointer (some ⟨bb, 0, none⟩), .pointer (some ⟨bb, 0, none⟩), .slice A n c, .pointer (some ⟨bb, 0, none⟩), .pointer (some ⟨bb, 0, none⟩), .pointer (some ⟨bb, 0, none⟩), .slice A n c, .int .i64 n, .int .i64 ((n - 1 : Nat) : Int), .func (.func 82) #[] #[.pointer (some ⟨w.heap.size + 1 + 1, 0, none⟩), .pointer (some ⟨w.heap.size + 1 + 1 + 1, 0, none⟩)], .int .i64 x.1, undef, undef, undef, undef, undef, undef, undef, undef, undef, undef, undef, undef, undef, undef, undef, undef, undef, undef, undef, undef, undef, undef, undef, undef, undef, undef, undef, undef, undef, undef, undef, undef, undef, undef, undef, undef, undef, undef, undef, undef, undef, undef, undef, undef, undef, undef, undef, undef, undef, undef, undef, undef, undef, undef], defers := [] }) ?assign ?body ?done ?stop
 case hI =>
  rintro s A' B' row ⟨h1, h2, h3⟩ hg hr
  refine ⟨h1.grown hg h1.size fun k e => by have := (hr k e).1; omega, (hg.block _ h2.lt fun e => by have := (hr _ e.symm).1; omega).trans h2, h3.keep (hg.block _ h3.lt fun e => by have := (hr _ e.symm).1; omega)⟩
 case hIx => exact fun _ _ _ _ _ h => h.elim
 case assign =>
  intro l x W' K hK
  gi_wp2
  exact hK
 case body =>
  rintro l pre x W' ⟨h1, h2, h3⟩ hlt
  obtain ⟨W4, hrun, hS4, hm4⟩ := h3.add (wf_of (x := x.1) (by have := x.2; omega)) (by rw [List.length_map]; unfold maxLen; omega)
  have cx : W'.cell? ⟨w.heap.size + 1, 0, none⟩ = some (.map (some w.heap.size)) := h2.cell 0
  have hxl := h2.lt
  have HP := qh (And.intro h1 (And.intro h2 (And.intro hS4 (And.intro hm4 h3.isMap))))
  clear h1 h2 h3 hS4 hm4
  gi_wp2
  obtain ⟨h1, h2, h3, h4, h5⟩ := HP.out
  refine ⟨KeepsFrom.of_grownBy (row := some w.heap.size) ⟨h4.os, h4.tape, h4.output, h4.size, fun k hk hne => h4.block k hk fun e => hne (by rw [e])⟩ (fun j e => by injection e with e; omega), ⟨h4.size, fun k o hk hne _ => (h4.block k (Array.getElem?_eq_some_iff.1 hk).1 hne).trans hk, fun _ => h3.isMap⟩, h1.trans (h4.below h1.size fun i hi e => by omega), h2.mod h4 (by omega), ?_⟩
  rw [List.map_append]
  exact h3
 case stop => exact fun _ _ _ _ _ _ h => h.elim
 case done =>
  rintro D xs W' hD hS ⟨h1, h2, h3⟩ hdef
  have hi1 : n - 1 + 1 = ns.length := by omega
  rw [hS, hi1] at h3
  have htr : treeOf ns = (treeN ns (ovE ns ns.length (n - 1) []) ns.length).2 := by unfold treeOf; rw [if_neg hn, hnl]
  have HTR := qh htr
  clear htr
  generalize ovE ns ns.length (n - 1) [] = seen at *
  have hzz : w.heap.size ≤ W2.heap.size := hbel.size
  clear hp2 hp3 hset hbx hbel hz2 hS
  have hmn := make_I n (by omega) W'
  have cb' := HKP.out W' h1
  have hbl' : bb < W'.heap.size := Nat.lt_of_lt_of_le hlt h1.size
  have hxl := h2.lt
  have hDl := (Array.getElem?_eq_some_iff.1 hdef).1
  have hs1 := h1.size
  have hbn : Below W'.heap.size W' (W'.alloc (.cells (List.replicate n (.int .i64 0)).toArray 3)) := bl1
  have H0 : Hid (TrS w ns seen (w.heap.size + 1) w.heap.size W'.heap.size D (W'.alloc (.cells (List.replicate n (.int .i64 0)).toArray 3)) 0 (.slice none 0 0)) := qh (by
   refine ⟨h1.trans (hbn.mono h1.size), ?_, RowN.nil_ _ _, fun g e => (by cases e), h2.bel hbn, h3.keep (hbn.block _ h3.lt), (hbn.block _ hDl).trans hdef, by omega, by omega⟩
   have h9 := Own.made (t := 3) (sz := 1) W' (List.replicate n (Value.int .i64 0)).toArray n (by omega) (by simp)
   rw [hnl]
   have e9 : ics (treeN ns seen 0).1 = (List.replicate n (Value.int .i64 0)) := by unfold ics treeN; simp [hnl]
   rw [e9]
   exact h9)
  clear h1 h2 h3 hdef hbn
  dsimp only
  go_wp2_with fail
  go_loopw [6, 47] (fun vo vi wr => ∃ (j : Nat) (A2 : Option Addr) (m2 c2 : Nat), j ≤ n ∧ vi = .int .i64 j ∧ vo = .slice A2 m2 c2 ∧ Hid (TrS w ns seen (w.heap.size + 1) w.heap.size W'.heap.size D wr j (.slice A2 m2 c2))) (fun _ vi _ => n - (intOf vi).toNat)
  case atStart => exact ⟨0, none, 0, 0, Nat.zero_le _, rfl, rfl, H0⟩
  case round =>
   obtain ⟨j, A2, m2, c2, hj, rfl, rfl, H⟩ := hrel
   clear H0 cb'
   by_cases hlt2 : j < n
   ·obtain ⟨x, hx⟩ : ∃ x, ns[j]? = some x := ⟨_, List.getElem?_eq_getElem (by omega)⟩
    obtain ⟨b, o, A1, c1, rfl, hb0, hc, hr1⟩ := HT.out.at_ hx
    have hbw := H.out.bel
    have hb1 : b < wr.heap.size := Nat.lt_of_lt_of_le hb0 hbw.size
    have z0 := (hbw.cell (p := ⟨b, _, none⟩) hb0).trans (hc 0 _ rfl)
    have z1 := (hbw.cell (p := ⟨b, _, none⟩) hb0).trans (hc 1 _ rfl)
    have z2 := (hbw.cell (p := ⟨b, _, none⟩) hb0).trans (hc 2 _ rfl)
    have z3 := (hbw.cell (p := ⟨b, _, none⟩) hb0).trans (hc 3 _ rfl)
    have z4 := (hbw.cell (p := ⟨b, _, none⟩) hb0).trans (hc 4 _ rfl)
    simp only [Nat.add_zero, NdS.v] at z0 z1 z2 z3 z4
    have cx : wr.cell? ⟨w.heap.size + 1, 0, none⟩ = some (.map (some w.heap.size)) := H.out.box.cell 0
    have hxl2 := H.out.box.lt
    have hsl := H.out.set_.lt
    have hb51 : Below wr.heap.size wr (wr.alloc (.cells #[.int .i64 x.op, .int .i64 x.at_, .string x.s, .int .i64 x.n, .slice A1 x.kids.length c1] 51)) := bl1
    have hlk := (H.out.set_.keep (hb51.block _ hsl)).look (wf_of (x := (j : Int)) (by omega))
    have s9 : IntKind.i64.wrap (j : Int) = (j : Int) := IntWalk.i64_in _ (by omega)
    have HX := qh hx
    have HR1 := qh hr1
    have HB51 := qh hb51
    clear hc hx hr1 hb51
    by_cases hm : (j : Int) ∈ seen
    ·have e1 : decide ((j : Int) ∈ seen) = true := decide_eq_true hm
     rw [e1] at hlk
     clear e1
     have hkl := HKS.out j x HX.out
     have hko := HKO.out j x HX.out
     obtain ⟨xop, xat, xs', xn, kids⟩ := x
     simp only at z0 z1 z2 z3 z4 hkl hko HR1 HB51 hlk
     have hxi : ns[j]? = some ⟨xop, xat, xs', xn, kids⟩ := HX.out
     have e2 : treeN ns seen (j + 1) = ((treeN ns seen j).1.set j (treeN ns seen j).2.length, (treeN ns seen j).2 ++ [⟨xop, xat, xs', xn, kids.map fun k => (((treeN ns seen j).1.set j (treeN ns seen j).2.length)[k.toNat]?).getD 0⟩]) := by
      rw [treeN, hxi]
      simp only
      rw [if_pos hm]
     have hml : m2 = (treeN ns seen j).2.length := by
      obtain ⟨A9, c9, e9, _⟩ := H.out.out.rdT
      injection e9
     rw [← hml] at e2
     have hol := treeN_out ns seen j
     have hnlen := treeN_len ns seen j
     have E2 := qh e2
     generalize hNU : (treeN ns seen j).1 = num at *
     have H1 := qh H.out.num
     rw [hNU] at H1
     obtain ⟨q1, q2, q3⟩ := Own.set_ (j := j) H1.out (by omega) (.int .i64 m2)
     have hcn : (ics num)[j]? = some (.int .i64 (num[j]?.getD 0)) := by
      unfold ics
      rw [List.getElem?_map, List.getElem?_eq_getElem (by omega)]
      simp
     rw [hcn] at q1
     have hnbl2 : W'.heap.size < wr.heap.size := H.out.num.lt rfl
     have Q3 := qh q3
     have HML := qh hml
     have hW4 : Below w.heap.size w ((wr.setCell ⟨W'.heap.size, j, none⟩ (.int .i64 m2)).alloc (.cells #[.int .i64 xop, .int .i64 xat, .string xs', .int .i64 xn, .slice A1 kids.length c1] 51)) := by have := hbw; have := hbw.size; exact (by repeat (first | exact Below.refl _ _ | assumption | refine Below.setCell ?_ (by first | (simp; done) | (simp; omega) | omega) _ | refine below_drewN ?_ _ | refine Below.drew ?_ | refine Below.alloc ?_ (by first | (simp; done) | (simp; omega) | omega) _))
     have KC : Hid (Calls Tryd.prog 57 #[.slice A1 kids.length c1] ((wr.setCell ⟨W'.heap.size, j, none⟩ (.int .i64 m2)).alloc (.cells #[.int .i64 xop, .int .i64 xat, .string xs', .int .i64 xn, .slice A1 kids.length c1] 51)) fun e w' => ∃ v, e = .returned v ∧ OwnI w' v kids ∧ Below ((wr.setCell ⟨W'.heap.size, j, none⟩ (.int .i64 m2)).alloc (.cells #[.int .i64 xop, .int .i64 xat, .string xs', .int .i64 xn, .slice A1 kids.length c1] 51)).heap.size ((wr.setCell ⟨W'.heap.size, j, none⟩ (.int .i64 m2)).alloc (.cells #[.int .i64 xop, .int .i64 xat, .string xs', .int .i64 xn, .slice A1 kids.length c1] 51)) w' ∧ ∀ g, v.ownBlock = some g → ((wr.setCell ⟨W'.heap.size, j, none⟩ (.int .i64 m2)).alloc (.cells #[.int .i64 xop, .int .i64 xat, .string xs', .int .i64 xn, .slice A1 kids.length c1] 51)).heap.size ≤ g) := qh (clone_any (HR1.out.bel hW4) rfl hkl)
     have HXB : Hid (Blk ((wr.setCell ⟨W'.heap.size, j, none⟩ (.int .i64 m2)).alloc (.cells #[.int .i64 xop, .int .i64 xat, .string xs', .int .i64 xn, .slice A1 kids.length c1] 51)) wr.heap.size 51 #[.int .i64 xop, .int .i64 xat, .string xs', .int .i64 xn, .slice A1 kids.length c1]) := qh (by
      have h9 := Blk.new (wr.setCell ⟨W'.heap.size, j, none⟩ (.int .i64 m2)) 51 #[.int .i64 xop, .int .i64 xat, .string xs', .int .i64 xn, .slice A1 kids.length c1]
      have e9 : (wr.setCell ⟨W'.heap.size, j, none⟩ (.int .i64 m2)).heap.size = wr.heap.size := by simp [World.setCell]
      rw [e9] at h9
      exact h9)
     have HQA := qh (show Own ((wr.setCell ⟨W'.heap.size, j, none⟩ (.int .i64 m2)).alloc (.cells #[.int .i64 xop, .int .i64 xat, .string xs', .int .i64 xn, .slice A1 kids.length c1] 51)) 3 1 (.slice (some ⟨W'.heap.size, 0, none⟩) ns.length ns.length) ns.length (ics (num.set j m2)) from by
      have e9 : (ics num).set j (.int .i64 m2) = ics (num.set j m2) := by unfold ics; rw [List.map_set]
      rw [← e9]
      exact Q3.out.new (by repeat (first | exact Below.refl _ _ | assumption | refine Below.setCell ?_ (by first | (simp; done) | (simp; omega) | omega) _ | refine below_drewN ?_ _ | refine Below.drew ?_ | refine Below.alloc ?_ (by first | (simp; done) | (simp; omega) | omega) _)))
     have HM4 : Hid (Mod (· = W'.heap.size) wr ((wr.setCell ⟨W'.heap.size, j, none⟩ (.int .i64 m2)).alloc (.cells #[.int .i64 xop, .int .i64 xat, .string xs', .int .i64 xn, .slice A1 kids.length c1] 51))) := qh ((Mod.setCell (S := (· = W'.heap.size)) (p := ⟨W'.heap.size, j, none⟩) (Mod.refl _ _) (fun _ => rfl) _).alloc _)
     have HW4 := qh hW4
     have hsz : ((wr.setCell ⟨W'.heap.size, j, none⟩ (.int .i64 m2)).alloc (.cells #[.int .i64 xop, .int .i64 xat, .string xs', .int .i64 xn, .slice A1 kids.length c1] 51)).heap.size = wr.heap.size + 1 := by simp [World.setCell]
     clear q3 hcn hxi hNU e2 hml hW4
     go_wp2_with (go_at_call 57; go_must (refine KC.out.mono ?_); rintro e W3 ⟨v3, rfl, ho3, hb3, hv3⟩; obtain ⟨A3, c3, rfl, hr3, -⟩ := Own.rd ho3; rw [hsz] at hv3; have hxb3 := HXB.out.bel hb3; have y0 := hxb3.cell 0; have y1 := hxb3.cell 1; have y2 := hxb3.cell 2; have y3 := hxb3.cell 3; have y4 := hxb3.cell 4; have yf := hxb3.frozen 4; have ylt := hxb3.lt; have hk9 := hr3.le; simp only [GG] at y0 y1 y2 y3 y4; have HXB3 := qh hxb3; have HO3 := qh ho3; have HV3 := qh hv3; have HB3 := qh hb3; clear hxb3 ho3 hb3 hv3 hr3)
     have HF : Hid ((fun z : Int => ((num.set j m2)[z.toNat]?).getD 0) = fun z : Int => ((num.set j m2)[z.toNat]?).getD 0) := qh rfl
     obtain ⟨fz, hfz⟩ : ∃ fz : Int → Int, fz = fun z : Int => ((num.set j m2)[z.toNat]?).getD 0 := ⟨_, rfl⟩
     have HFZ := qh hfz
     clear HF hfz q1 q2 y0 y1 y2 y3 y4 yf KC
     obtain ⟨wo, rfl⟩ : ∃ wo, wo = wr := ⟨_, rfl⟩
     go_loopw [68] (fun vi wi => ∃ q : Nat, q ≤ kids.length ∧ vi = .int .i64 q ∧ Hid (Own wi 3 1 (.slice A3 kids.length c3) kids.length (ics ((kids.take q).map fz ++ kids.drop q))) ∧ Hid (Blk wi wo.heap.size 51 #[.int .i64 xop, .int .i64 xat, .string xs', .int .i64 xn, .slice A3 kids.length c3]) ∧ Hid (Mod (fun g => wo.heap.size ≤ g) W3 wi)) (fun vi _ => kids.length - (intOf vi).toNat)
     case atStart =>
      refine ⟨0, Nat.zero_le _, rfl, qh ?_, qh (HXB3.out.set_ 4 _), qh (Mod.setCell (S := fun g => wo.heap.size ≤ g) (p := ⟨wo.heap.size, 4, none⟩) (Mod.refl _ _) (fun _ => Nat.le_refl _) _)⟩
      have h9 := HO3.out
      unfold OwnI at h9
      refine Own.keep h9 fun g hg => Below.heap_setCell W3 _ _ g ?_
      have := HV3.out g hg
      show g ≠ wo.heap.size
      omega
     case round =>
      obtain ⟨q, hq, rfl, HOq, HXq, HMq⟩ := hrel
      have x0 := HXq.out.cell 0
      have x1 := HXq.out.cell 1
      have x2 := HXq.out.cell 2
      have x3 := HXq.out.cell 3
      have x4 := HXq.out.cell 4
      have xlt := HXq.out.lt
      simp only [GG] at x0 x1 x2 x3 x4
      have HM3 : Hid (Mod (fun g => wo.heap.size ≤ g) ((wo.setCell ⟨W'.heap.size, j, none⟩ (.int .i64 m2)).alloc (.cells #[.int .i64 xop, .int .i64 xat, .string xs', .int .i64 xn, .slice A1 kids.length c1] 51)) wr) := qh (Mod.trans (Mod.new HB3.out) HMq.out fun _ _ h => h)
      have HNQ := qh (HQA.out.mod HM3.out fun g hg hs => by
       have e9 : W'.heap.size = g := by simpa [Value.ownBlock] using hg
       omega)
      by_cases hlt3 : q < kids.length
      ·obtain ⟨y, hy⟩ : ∃ y, kids[q]? = some y := ⟨_, List.getElem?_eq_getElem hlt3⟩
       obtain ⟨hy0, hy1⟩ := hko y (List.mem_of_getElem? hy)
       obtain ⟨p, rfl⟩ : ∃ p : Nat, y = p := ⟨y.toNat, by omega⟩
       obtain ⟨hms1, hms2⟩ := map_set (f := fz) hy
       have hA3 : ∃ b3, A3 = some ⟨b3, 0, none⟩ := by
        rcases HOq.out.2 with ⟨e9, e8⟩ | ⟨g, _, _, e9, _⟩
        ·omega
        ·injection e9 with e9
         exact ⟨g, e9⟩
       obtain ⟨b3, rfl⟩ := hA3
       obtain ⟨r1, r2, r3⟩ := Own.set_ (j := q) HOq.out (by omega) (.int .i64 (fz p))
       have hb3l : b3 < wr.heap.size := HOq.out.lt rfl
       have hb3g := HV3.out b3 rfl
       rw [show (ics ((kids.take q).map fz ++ kids.drop q))[q]? = some (.int .i64 (p : Int)) from by unfold ics; rw [List.getElem?_map, hms1]; rfl] at r1
       have hnl3 : W'.heap.size < wr.heap.size := HNQ.out.lt rfl
       have hpv : (ics (num.set j m2))[p]? = some (.int .i64 (fz p)) := by
        have hpl : p < (num.set j m2).length := by rw [List.length_set]; omega
        unfold ics
        rw [List.getElem?_map, HFZ.out, List.getElem?_eq_getElem hpl]
        simp [hpl]
        rw [List.getElem?_eq_getElem hpl]
        rfl
       obtain ⟨A8, c8, e8, hr8, _⟩ := Own.rd HNQ.out
       injection e8 with e8 e7 e6
       subst e8
       obtain ⟨b8, o8, e8, hb8, hc8⟩ := hr8.2.2.2 (by omega)
       injection e8 with e8
       injection e8 with e8 e5
       subst e8 e5
       have nc := hc8 p _ hpv
       simp only [Nat.zero_add] at nc
       have R3 := qh r3
       have HMS := qh hms2
       clear r3 hms1 hms2 hy hpv hr8 hc8
       have hpn : p < n := by omega
       go_wp2_with fail
       go_still_tail 8, (by kernel_rfl)
       go_wp2_with fail
       go_round
       case rel =>
        refine ⟨q + 1, by omega, by go_num, qh ?_, qh (HXq.out.far (p := ⟨b3, q, none⟩) (by show wo.heap.size ≠ b3; omega) _), qh (Mod.drew (Mod.setCell (S := fun g => wo.heap.size ≤ g) (p := ⟨b3, q, none⟩) HMq.out (fun _ => by show wo.heap.size ≤ b3; omega) _))⟩
        rw [← HMS.out]
        have e9 : ics ((((kids.take q).map fz ++ kids.drop q)).set q (fz p)) = (ics ((kids.take q).map fz ++ kids.drop q)).set q (.int .i64 (fz p)) := by unfold ics; rw [List.map_set]
        rw [e9]
        exact R3.out
       case measure => simp [intOf]; omega
      ·obtain rfl : q = kids.length := by omega
       have hoz := HOq.out
       rw [List.take_of_length_le (Nat.le_refl _), List.drop_of_length_le (Nat.le_refl _), List.append_nil] at hoz
       have hMA : Mod (fun g => g = W'.heap.size ∨ wo.heap.size ≤ g) wo wr := Mod.trans (Mod.mono HM4.out fun _ _ h => .inl h) HM3.out fun _ _ h => .inr h
       obtain ⟨Z, eZ, z1, z2⟩ := H.out.out
       have hZl : Z.length = m2 := by
        obtain ⟨A9, c9, e9, _⟩ := Own.rd z1
        injection e9 with _ e9
        exact e9.symm
       have z1i : Own wr 51 5 (.slice A2 m2 c2) Z.length (Z.flatMap NdS.cs) := z1.mod hMA fun b hb h9 => by
        rcases h9 with e | e
        ·exact own_own_ne H.out.num z1 (by decide) rfl (e ▸ hb)
        ·have := z1.lt hb; omega
       have hml2 : (kids.map fz).length = kids.length := List.length_map _
       have hzc : (⟨⟨xop, xat, xs', xn, kids.map fz⟩, A3, c3⟩ : NdS).cs = [.int .i64 xop, .int .i64 xat, .string xs', .int .i64 xn, .slice A3 kids.length c3] := by
        unfold NdS.cs NdS.v
        simp only [hml2]
       have hnr : Rd (wr.alloc (.cells #[.int .i64 xop, .int .i64 xat, .string xs', .int .i64 xn, .slice A3 kids.length c3] 51)) (some ⟨wr.heap.size, 0, none⟩) 1 1 5 (⟨⟨xop, xat, xs', xn, kids.map fz⟩, A3, c3⟩ : NdS).cs := by
        have h9 := Rd.node (w := wr) (z := ⟨⟨xop, xat, xs', xn, kids.map fz⟩, A3, c3⟩)
        rw [hzc] at h9 ⊢
        exact h9
       have hoz2 : OwnI wr (⟨⟨xop, xat, xs', xn, kids.map fz⟩, A3, c3⟩ : NdS).v (kids.map fz) := by
        unfold OwnI NdS.v
        simp only [hml2]
        exact hoz
       have HT9 := qh (And.intro eZ (And.intro z1 (And.intro z2 (And.intro hMA hoz2))))
       have HZ1 := qh z1i
       have HNR := qh hnr
       clear eZ z1 z2 hMA hoz2 z1i hnr hzc hoz
       have hbg2 : Z.length + 1 ≤ 1099511627776 := by have := HML.out; omega
       have HZL := qh hZl
       clear hZl
       go_wp2_with (at_builtin; go_must (refine wpList_appendNode _ rfl _ _ rfl (.slice A2 m2 c2) Z rfl (by exact Own.new HZ1.out bl1) _ 1 ⟨⟨xop, xat, xs', xn, kids.map fz⟩, A3, c3⟩ rfl HNR.out hbg2 ?_); intro v6 w6 ho6 hg6 hn6; generalize hG : Z ++ [(⟨⟨xop, xat, xs', xn, kids.map fz⟩, A3, c3⟩ : NdS)] = G at ho6; have HG := qh hG; obtain ⟨A6, c6, rfl, -, -⟩ := Own.rd ho6; clear hG; have HO6 := qh ho6; have HG6 := qh hg6; have HN6 := qh hn6; clear ho6 hg6 hn6)
       go_round
       case rel =>
        obtain ⟨t1, t2, t3, t4, t5⟩ := HT9.out
        refine ⟨j + 1, A6, G.length, c6, by omega, by go_num, rfl, qh ?_⟩
        refine TrS.next (z := ⟨⟨xop, xat, xs', xn, kids.map fz⟩, A3, c3⟩) H.out t1 t2 t3 (by show (kids.map fz).length ≤ _; omega) t4 ?_ t5 (fun g hg => by unfold NdS.v at hg; simp only [hml2] at hg; have := HV3.out g hg; omega) ?_ (show Below wr.heap.size wr _ from bl1) (by rw [HG.out]; exact HO6.out) HG6.out HN6.out
        ·rw [E2.out]
         exact HNQ.out
        ·rw [E2.out, HFZ.out]
       case measure => simp [intOf]; omega
    ·have e1 : decide ((j : Int) ∈ seen) = false := decide_eq_false hm
     rw [e1] at hlk
     have e2 : treeN ns seen (j + 1) = treeN ns seen j := by rw [treeN, HX.out]; simp only; rw [if_neg hm]
     have E2 := qh e2
     clear e1 e2
     go_wp2_with fail
     go_round
     case rel => exact ⟨j + 1, A2, m2, c2, by omega, by go_num, rfl, qh (H.out.move HB51.out E2.out)⟩
     case measure => simp [intOf]; omega
   ·obtain rfl : j = n := by omega
    go_wp2_with fail
    refine leaves_mark H.out.def_ fun W'' hk => ⟨results_tmp rfl _ _ _, .slice A2 m2 c2, rfl, ?_⟩
    rw [HTR.out, hnl]
    exact H.out.fin hk
end
section
open Go.RowKit
set_option linter.unusedVariables false
set_option linter.unusedSimpArgs false
theorem tree_none {w : World} {A : Option Addr} {c bb : Nat} (hb : Blk w bb 71 #[.slice A 0 c]) :
  Calls Tryd.prog 35 #[.pointer (some ⟨bb, 0, none⟩)] w fun e w' => e = .returned (.slice none 0 0) ∧ w' = w := by
 have cb : w.cell? ⟨bb, 0, none⟩ = some (.slice A 0 c) := hb.cell 0
 have hlt := hb.lt
 clear hb
 go_enter Tryd.func35, Tryd.ntmps35
 go_wp2_with fail
 go_ret
 exact ⟨rfl, rfl⟩
theorem tree_any {w : World} {bb : Nat} {v : Value} {F : Nat → Prop} {ns : List NodeD} (hb : Blk w bb 71 #[v]) (hT : RowN F w v ns) (hK : KidsOk ns) (hbig : ns.length ≤ 1099511627775) :
  Calls Tryd.prog 35 #[.pointer (some ⟨bb, 0, none⟩)] w fun e w' => ∃ v, e = .returned v ∧ RowN (fun _ => False) w' v (treeOf ns) ∧ Below w.heap.size w w' ∧ ∀ g, v.ownBlock = some g → w.heap.size ≤ g := by
 obtain ⟨A, c, rfl, hr⟩ := hT.rdT
 by_cases hn : ns = []
 ·subst hn
  refine (tree_none hb).mono ?_
  rintro e w' ⟨rfl, rfl⟩
  exact ⟨_, rfl, RowN.nil_ _ _, Below.refl _ _, fun g e => by cases e⟩
 ·exact tree_some hb hr hK hT.kl hbig hn
theorem RowN.far {F : Nat → Prop} {w : World} {v : Value} {ns : List NodeD} {g : Nat} {t : TypeId} {cs : Array Value} (h : RowN F w v ns) (hb : Blk w g t cs) (h1 : t ≠ 51) (h2 : t ≠ 3) (i : Nat) (u : Value) : RowN F (w.setCell ⟨g, i, none⟩ u) v ns := by
 obtain ⟨Z, e, z1, z2⟩ := h
 refine RowN.keep ⟨Z, e, z1, z2⟩ (fun b hbv => Below.heap_setCell w ⟨g, i, none⟩ u b fun e2 => ?_) (fun k cs' hk _ hc => Below.heap_setCell w ⟨g, i, none⟩ u k fun e2 => ?_) (fun k _ hf => hf)
 ·rw [show b = g from e2] at hbv
  exact own_blk_ne z1 hb (Ne.symm h1) hbv
 ·exact Blk.ne_ (t := 3) (t' := t) hc hb (Ne.symm h2) e2
abbrev parsed (L : List TokD) : Option (PS × Int) := exprE L (L.length + 3) startS
theorem told_fuel {w : World} {A : Option Addr} {n c m : Nat} {L : List TokD} {r : PS × Int} (hl : Rd w A n c 4 (L.flatMap tcs)) (hla : ∀ b o, A = some ⟨b, o, none⟩ → b < w.heap.size) (hn : L.length = n) (hbig : n ≤ 274877906944)
  (hts : ∀ t ∈ L, t.s.size ≤ maxLen) (htab : Asp w) (hr : exprE L m startS = some r) :
  Calls Tryd.prog 16 #[.slice A n c] w fun e w' => ∃ v, e = .returned (.agg #[.int .i64 (nodeOf r), .int .i64 (usedOf r), .int .i64 r.1.e, v]) ∧ RowN (fun _ => False) w' v (treeOf r.1.ns) ∧ Below w.heap.size w w' := by
 have h0 : 0 < w.heap.size := by
  have hg : Tryd.prog.globalNamed "strings.asciiSpace" = some 0 := by kernel_rfl
  unfold Asp Lib.TabIs World.var? at htab
  rw [hg] at htab
  simp only [Option.bind_some] at htab
  rcases Nat.eq_zero_or_pos w.heap.size with h | h
  ·rw [Array.getElem?_eq_none (by omega)] at htab; cases htab
  ·exact h
 have hbl : Below w.heap.size w ((w.alloc (.cells #[.int .i64 0, .int .i64 0, .int .i64 0, .slice none 0 0] 31)).alloc (.cells #[.slice none 0 0] 71)) := bl2
 have hbb : Blk ((w.alloc (.cells #[.int .i64 0, .int .i64 0, .int .i64 0, .slice none 0 0] 31)).alloc (.cells #[.slice none 0 0] 71)) (w.heap.size + 1) 71 #[.slice none 0 0] := by
  have := Blk.new (w.alloc (.cells #[.int .i64 0, .int .i64 0, .int .i64 0, .slice none 0 0] 31)) 71 #[.slice none 0 0]
  rw [World.size_alloc] at this
  exact this
 have hra : Blk ((w.alloc (.cells #[.int .i64 0, .int .i64 0, .int .i64 0, .slice none 0 0] 31)).alloc (.cells #[.slice none 0 0] 71)) w.heap.size 31 #[.int .i64 0, .int .i64 0, .int .i64 0, .slice none 0 0] := (Blk.new w 31 _).alloc _
 have hg := exprE_gd L m _ _ hr
 have hko : KidsOk r.1.ns := hg.1.kids (fun i x h => by cases h)
 have hcap : r.1.ns.length ≤ 1099511627775 := by
  have h1 := hg.1.cnt
  have h2 := hg.1.le (Nat.zero_le _)
  simp only [startS, List.length_nil] at h1
  omega
 have K := qh (parse_any (B := w.heap.size) hbb (by omega) h0 (hl.bel hbl) hla hn hbig hts (htab.below hbl) hr)
 have HB := qh hbl
 have HRA := qh hra
 have HKO := qh hko
 have HBS : Hid (w.heap.size ≤ ((w.alloc (.cells #[.int .i64 0, .int .i64 0, .int .i64 0, .slice none 0 0] 31)).alloc (.cells #[.slice none 0 0] 71)).heap.size) := qh (by simp; omega)
 clear hl hla hts htab hr hbl hbb hra hg hko
 go_enter Tryd.func16, Tryd.ntmps16
 go_wp2_with (first | (go_at_call 34; go_must (refine K.out.mono ?_); rintro e w1 ⟨rfl, ⟨v, hv1, hv2, hv3⟩, hk⟩; have HRA1 := qh (hk.blk HRA.out id (by decide)); have HB1 := qh (HB.out.trans (hk.below HBS.out (fun _ => False.elim))); have HV := qh hv1; have HN := qh hv3; clear hk hv1 hv2 hv3) | (go_at_call 35; go_must (refine (tree_any HV.out HN.out HKO.out hcap).mono ?_); rintro e w2 ⟨v2, rfl, hr2, hb2, hn2⟩; obtain ⟨A2, c2, rfl, -⟩ := hr2.rdT; have hra2 := HRA1.out.bel hb2; have x0 := hra2.cell 0; have x1 := hra2.cell 1; have x2 := hra2.cell 2; have x3 := hra2.cell 3; have f0 := hra2.frozen 0; have f1 := hra2.frozen 1; have f2 := hra2.frozen 2; have f3 := hra2.frozen 3; have xlt := hra2.lt; simp only [GG] at x0 x1 x2 x3; have HR2 := qh hr2; have HRA2 := qh hra2; have HB2 := qh (HB1.out.trans (hb2.mono HB1.out.size)); clear hr2 hra2 hb2 hn2))
 have b0 := HRA2.out
 have b1 := b0.set_ 0 (.int .i64 (nodeOf r))
 have b2 := b1.set_ 1 (.int .i64 (usedOf r))
 have b3 := b2.set_ 2 (.int .i64 r.1.e)
 have b4 := b3.set_ 3 (.slice A2 (treeOf r.1.ns).length c2)
 have hr4 := (((HR2.out.far b0 (by decide) (by decide) 0 (.int .i64 (nodeOf r))).far b1 (by decide) (by decide) 1 (.int .i64 (usedOf r))).far b2 (by decide) (by decide) 2 (.int .i64 r.1.e)).far b3 (by decide) (by decide) 3 (.slice A2 (treeOf r.1.ns).length c2)
 have hb2 := HB2.out
 have hb4 : Below w.heap.size w ((((w2.setCell ⟨w.heap.size, 0, none⟩ (.int .i64 (nodeOf r))).setCell ⟨w.heap.size, 1, none⟩ (.int .i64 (usedOf r))).setCell ⟨w.heap.size, 2, none⟩ (.int .i64 r.1.e)).setCell ⟨w.heap.size, 3, none⟩ (.slice A2 (treeOf r.1.ns).length c2)) := (by repeat (first | exact Below.refl _ _ | assumption | refine Below.setCell ?_ (by first | (simp; done) | (simp; omega) | omega) _ | refine below_drewN ?_ _ | refine Below.drew ?_ | refine Below.alloc ?_ (by first | (simp; done) | (simp; omega) | omega) _))
 generalize (((w2.setCell ⟨w.heap.size, 0, none⟩ (.int .i64 (nodeOf r))).setCell ⟨w.heap.size, 1, none⟩ (.int .i64 (usedOf r))).setCell ⟨w.heap.size, 2, none⟩ (.int .i64 r.1.e)).setCell ⟨w.heap.size, 3, none⟩ (.slice A2 (treeOf r.1.ns).length c2) = W4 at *
 have q0 := b4.cell 0
 have q1 := b4.cell 1
 have q2 := b4.cell 2
 have q3 := b4.cell 3
 simp at q0 q1 q2 q3
 refine bodyPost_ret (v := .agg #[.int .i64 (nodeOf r), .int .i64 (usedOf r), .int .i64 r.1.e, .slice A2 (treeOf r.1.ns).length c2]) (by first | (simp [results, Tryd.results16, go_sem, q0, q1, q2, q3]; done) | (simp [results, Tryd.results16, go_sem, q0, q1, q2, q3]; rfl)) rfl ?_
 exact ⟨_, rfl, hr4, hb4⟩
theorem told_any {w : World} {A : Option Addr} {n c : Nat} {L : List TokD} {r : PS × Int} (hl : Rd w A n c 4 (L.flatMap tcs)) (hla : ∀ b o, A = some ⟨b, o, none⟩ → b < w.heap.size) (hn : L.length = n) (hbig : n ≤ 274877906944)
  (hts : ∀ t ∈ L, t.s.size ≤ maxLen) (htab : Asp w) (hr : parsed L = some r) :
  Calls Tryd.prog 16 #[.slice A n c] w fun e w' => ∃ v, e = .returned (.agg #[.int .i64 (nodeOf r), .int .i64 (usedOf r), .int .i64 r.1.e, v]) ∧ RowN (fun _ => False) w' v (treeOf r.1.ns) ∧ Below w.heap.size w w' :=
 told_fuel (m := L.length + 3) hl hla hn hbig hts htab hr
end
section
open Go.RowKit
set_option linter.unusedVariables false
set_option linter.unusedSimpArgs false
def signT (t : ByteArray) : TokD := ⟨4, 0, t, 0⟩
def wordT (t : ByteArray) : TokD := ⟨1, 0, t, 0⟩
def numT (n : Int) : TokD := ⟨2, 0, ⟨#[]⟩, n⟩
theorem sign_any (t : ByteArray) (w : World) : Calls Tryd.prog 21 #[.string t] w fun e w' => e = .returned (.agg #[.int .i64 4, .int .i64 0, .string t, .int .i64 0]) ∧ Below w.heap.size w w' := by
 go_enter Tryd.func21, Tryd.ntmps21
 go_wp2_with fail
 exact bodyPost_ret (v := .agg #[.int .i64 4, .int .i64 0, .string t, .int .i64 0]) (by first | (simp [results, Tryd.results21, go_sem]; done) | (simp [results, Tryd.results21, go_sem]; rfl)) rfl ⟨rfl, bl1⟩
theorem num_any (n : Int) (w : World) : Calls Tryd.prog 23 #[.int .i64 n] w fun e w' => e = .returned (.agg #[.int .i64 2, .int .i64 0, .string ⟨#[]⟩, .int .i64 n]) ∧ Below w.heap.size w w' := by
 go_enter Tryd.func23, Tryd.ntmps23
 go_wp2_with fail
 exact bodyPost_ret (v := .agg #[.int .i64 2, .int .i64 0, .string ⟨#[]⟩, .int .i64 n]) (by first | (simp [results, Tryd.results23, go_sem]; done) | (simp [results, Tryd.results23, go_sem]; rfl)) rfl ⟨rfl, bl1⟩
theorem Rd.toks (w : World) (L : List TokD) (cs : Array Value) (n : Nat) (hn : L.length = n) (hc : cs = (L.flatMap tcs).toArray) (hm : n ≤ 9223372036854775807) : Rd (w.alloc (.cells cs 39)) (some ⟨w.heap.size, 0, none⟩) n n 4 (L.flatMap tcs) := by
 subst hc
 refine ⟨Nat.le_refl _, hm, ?_, fun _ => ⟨w.heap.size, 0, rfl, by simp, fun j u hj => ?_⟩⟩
 ·subst hn
  induction L with
  | nil => rfl
  | cons t L ih => rw [List.flatMap_cons, List.length_append, ih (by simp at hm; omega), List.length_cons]; show 4 + _ = _; omega
 ·rw [Nat.zero_add, (Blk.new w 39 _).cell]
  simpa using hj
theorem RowN.node {F : Nat → Prop} {w : World} {v : Value} {ns : List NodeD} (h : RowN F w v ns) : ∃ A c, v = .slice A ns.length c ∧ ∀ (i : Nat) (x : NodeD), ns[i]? = some x → ∃ b o A1 c1, A = some ⟨b, o, none⟩ ∧ b < w.heap.size ∧ w.cell? ⟨b, o + i * 5, none⟩ = some (.int .i64 x.op) ∧ w.cell? ⟨b, o + i * 5 + 1, none⟩ = some (.int .i64 x.at_) ∧ w.cell? ⟨b, o + i * 5 + 2, none⟩ = some (.string x.s) ∧ w.cell? ⟨b, o + i * 5 + 3, none⟩ = some (.int .i64 x.n) ∧ w.cell? ⟨b, o + i * 5 + 4, none⟩ = some (.slice A1 x.kids.length c1) ∧ Rd w A1 x.kids.length c1 1 (ics x.kids) := by
 obtain ⟨A, c, e, hr⟩ := h.rdT
 refine ⟨A, c, e, fun i x hx => ?_⟩
 obtain ⟨b, o, A1, c1, e2, hb, hc, hk⟩ := hr.at_ hx
 exact ⟨b, o, A1, c1, e2, hb, hc 0 _ rfl, hc 1 _ rfl, hc 2 _ rfl, hc 3 _ rfl, hc 4 _ rfl, hk⟩
def shownL : List TokD := [numT 1, signT gPlus, numT 2, signT gStar, numT 3]
def shownNs : List NodeD := [⟨4, 0, ⟨#[]⟩, 1, []⟩, ⟨4, 0, ⟨#[]⟩, 2, []⟩, ⟨4, 0, ⟨#[]⟩, 3, []⟩, ⟨12, 0, gStar, 0, [1, 2]⟩, ⟨12, 0, gPlus, 0, [0, 3]⟩]
def shownR : PS × Int := (⟨5, 0, 0, shownNs, [1, 1, 1, 2, 3]⟩, 4)
theorem shown_run : parsed shownL = some shownR := by kernel_rfl
theorem shown_tree : treeOf shownNs = shownNs := by kernel_rfl
theorem level_star : levelB ⟨#[42]⟩ = 7 := by kernel_rfl
theorem shown_any (w : World) (htab : Asp w) : Calls Tryd.prog 14 #[] w fun e w' => e = .returned (.bool true) ∧ Below w.heap.size w w' := by
 have HT := qh htab
 have HB := qh (Below.refl w.heap.size w)
 have hlv : levelB ⟨#[42]⟩ = 7 := level_star
 clear htab
 go_enter Tryd.func14, Tryd.ntmps14
 go_wp2_with (first | (go_at_call 23; go_must (refine (num_any _ _).mono ?_); rintro e w1 ⟨rfl, hb⟩; replace HB := qh (HB.out.trans (hb.mono HB.out.size)); (try clear hsz); have hsz := HB.out.size; clear hb) | (go_at_call 21; go_must (refine (sign_any _ _).mono ?_); rintro e w1 ⟨rfl, hb⟩; replace HB := qh (HB.out.trans (hb.mono HB.out.size)); (try clear hsz); have hsz := HB.out.size; clear hb)  | (go_at_call 16; have hb9 := HB.out; go_must (refine (told_any (L := shownL) (Rd.toks _ shownL _ 5 rfl rfl (by omega)) (fun b o e => by cases e; simp) rfl (by omega) (by intro t ht; simp only [shownL, List.mem_cons, List.not_mem_nil, or_false] at ht; rcases ht with rfl | rfl | rfl | rfl | rfl <;> exact sml (by decide)) (HT.out.below (by repeat (first | exact Below.refl _ _ | assumption | refine Below.setCell ?_ (by first | (simp; done) | (simp; omega) | omega) _ | refine below_drewN ?_ _ | refine Below.drew ?_ | refine Below.alloc ?_ (by first | (simp; done) | (simp; omega) | omega) _))) shown_run).mono ?_); rintro e w2 ⟨v, rfl, hr, hb⟩; rw [show treeOf shownR.1.ns = shownNs from shown_tree] at hr; obtain ⟨A, c, rfl, hn⟩ := hr.node; obtain ⟨b, o, A4, c4, rfl, hlt, p0, p1, p2, -, -, -⟩ := hn 4 _ rfl; obtain ⟨b', o', A3, c3, e3, -, q0, q1, q2, -, -, -⟩ := hn 3 _ rfl; injection e3 with e3; injection e3 with e3 e4; subst e3 e4; simp only [Nat.reduceMul] at p0 p1 p2 q0 q1 q2; have hbw : Below w.heap.size w w2 := Below.trans (by have := hb9; exact (by repeat (first | exact Below.refl _ _ | assumption | refine Below.setCell ?_ (by first | (simp; done) | (simp; omega) | omega) _ | refine below_drewN ?_ _ | refine Below.drew ?_ | refine Below.alloc ?_ (by first | (simp; done) | (simp; omega) | omega) _))) (hb.mono (by have := hb9.size; simp; omega)); replace HB := qh hbw; clear hsz; have hsz := HB.out.size; clear hr hb hn hb9 hbw)  | (go_at_call 24; go_must (refine (level_any ⟨#[42]⟩ (sml (by decide)) _).mono ?_); rintro e w3 ⟨rfl, hb⟩; rw [hlv]; have hb9 := HB.out; have hbw : Below w.heap.size w w3 := Below.trans (by have := hb9; exact (by repeat (first | exact Below.refl _ _ | assumption | refine Below.setCell ?_ (by first | (simp; done) | (simp; omega) | omega) _ | refine below_drewN ?_ _ | refine Below.drew ?_ | refine Below.alloc ?_ (by first | (simp; done) | (simp; omega) | omega) _))) (hb.mono (by have := hb9.size; simp; omega)); replace HB := qh hbw; clear hb hb9 hbw))
 go_ret
 exact ⟨rfl, HB.out⟩
end
section
set_option linter.unusedVariables false
set_option linter.unusedSimpArgs false
inductive Tr
 | mk (op n : Int) (s : ByteArray) (kids : List Tr)
mutual
def Tr.size : Tr → Nat
 | .mk _ _ _ ks => Tr.sizes ks + 1
def Tr.sizes : List Tr → Nat
 | [] => 0
 | k :: ks => Tr.size k + Tr.sizes ks
end
def Tr.idxs : Nat → List Tr → List Int
 | _, [] => []
 | b, k :: ks => (((b + Tr.size k : Nat) : Int) - 1) :: Tr.idxs (b + Tr.size k) ks
mutual
def Tr.flat : Nat → Tr → List NodeD
 | b, .mk op n s ks => Tr.flats b ks ++ [⟨op, 0, s, n, Tr.idxs b ks⟩]
def Tr.flats : Nat → List Tr → List NodeD
 | _, [] => []
 | b, k :: ks => Tr.flat b k ++ Tr.flats (b + Tr.size k) ks
end
mutual
def Tr.dep : Tr → Int
 | .mk _ _ _ ks => Tr.depm ks + 1
def Tr.depm : List Tr → Int
 | [] => 0
 | k :: ks => max (Tr.dep k) (Tr.depm ks)
end
mutual
def Tr.deps : Tr → List Int
 | .mk _ _ _ ks => Tr.depss ks ++ [Tr.depm ks + 1]
def Tr.depss : List Tr → List Int
 | [] => []
 | k :: ks => Tr.deps k ++ Tr.depss ks
end
theorem sizes_app : ∀ (a b : List Tr), Tr.sizes (a ++ b) = Tr.sizes a + Tr.sizes b
 | [], b => by simp [Tr.sizes]
 | k :: a, b => by simp only [List.cons_append, Tr.sizes, sizes_app a b]; omega
theorem idxs_app : ∀ (n : Nat) (a b : List Tr), Tr.idxs n (a ++ b) = Tr.idxs n a ++ Tr.idxs (n + Tr.sizes a) b
 | n, [], b => by simp [Tr.sizes, Tr.idxs]
 | n, k :: a, b => by simp only [List.cons_append, Tr.idxs, Tr.sizes, idxs_app _ a b, Nat.add_assoc]
theorem flats_app : ∀ (n : Nat) (a b : List Tr), Tr.flats n (a ++ b) = Tr.flats n a ++ Tr.flats (n + Tr.sizes a) b
 | n, [], b => by simp [Tr.sizes, Tr.flats]
 | n, k :: a, b => by simp only [List.cons_append, Tr.flats, Tr.sizes, flats_app _ a b, Nat.add_assoc, List.append_assoc]
theorem depss_app : ∀ (a b : List Tr), Tr.depss (a ++ b) = Tr.depss a ++ Tr.depss b
 | [], b => by simp [Tr.depss]
 | k :: a, b => by simp only [List.cons_append, Tr.depss, depss_app a b, List.append_assoc]
mutual
theorem flat_len : ∀ (n : Nat) (e : Tr), (Tr.flat n e).length = Tr.size e
 | n, .mk op m s ks => by simp only [Tr.flat, Tr.size, LL, flats_len n ks]
theorem flats_len : ∀ (n : Nat) (ks : List Tr), (Tr.flats n ks).length = Tr.sizes ks
 | n, [] => by simp [Tr.flats, Tr.sizes]
 | n, k :: ks => by simp only [Tr.flats, Tr.sizes, List.length_append, flat_len n k, flats_len _ ks]
end
mutual
theorem deps_len : ∀ (e : Tr), (Tr.deps e).length = Tr.size e
 | .mk op m s ks => by simp only [Tr.deps, Tr.size, LL, depss_len ks]
theorem depss_len : ∀ (ks : List Tr), (Tr.depss ks).length = Tr.sizes ks
 | [] => by simp [Tr.depss, Tr.sizes]
 | k :: ks => by simp only [Tr.depss, Tr.sizes, List.length_append, deps_len k, depss_len ks]
end
mutual
theorem tflat_at : ∀ (n : Nat) (e : Tr), ∀ x ∈ Tr.flat n e, x.at_ = 0
 | n, .mk op m s ks => fun x hx => by
  simp only [Tr.flat, List.mem_append, List.mem_singleton] at hx
  rcases hx with h | rfl
  ·exact tflats_at n ks x h
  ·rfl
theorem tflats_at : ∀ (n : Nat) (ks : List Tr), ∀ x ∈ Tr.flats n ks, x.at_ = 0
 | n, [] => fun x hx => by simp [Tr.flats] at hx
 | n, k :: ks => fun x hx => by
  simp only [Tr.flats, List.mem_append] at hx
  exact hx.elim (tflat_at n k x) (tflats_at _ ks x)
end
theorem size_pos : ∀ e : Tr, 0 < Tr.size e
 | .mk _ _ _ ks => by simp [Tr.size]
theorem dep_last : ∀ e : Tr, ∃ l, Tr.deps e = l ++ [Tr.dep e] ∧ l.length + 1 = Tr.size e
 | .mk op n s ks => ⟨Tr.depss ks, by simp [Tr.deps, Tr.dep], by simp [Tr.size, depss_len]⟩
theorem deepest_idxs : ∀ (ks : List Tr) (s : PS) (pre post : List Int) (m : Int), s.dp = pre ++ Tr.depss ks ++ post → (Tr.idxs pre.length ks).foldl (fun m k => max m (deepOf s k)) m = max m (Tr.depm ks) ∨ m < 0
 | [], s, pre, post, m, h => by
  simp only [Tr.idxs, List.foldl_nil, Tr.depm]
  omega
 | k :: ks, s, pre, post, m, h => by
  by_cases hm : m < 0
  ·exact .inr hm
  refine .inl ?_
  obtain ⟨l, hl, hn⟩ := dep_last k
  have hk : deepOf s (((pre.length + Tr.size k : Nat) : Int) - 1) = Tr.dep k := by
   unfold deepOf
   rw [if_neg (by have := size_pos k; omega), h]
   rw [show (((pre.length + Tr.size k : Nat) : Int) - 1).toNat = pre.length + l.length from by omega]
   simp only [Tr.depss, hl, List.append_assoc]
   rw [List.getElem?_append_right (by omega), List.getElem?_append_right (by omega)]
   simp
  simp only [Tr.idxs, List.foldl_cons, hk]
  have h2 := deepest_idxs ks s (pre ++ Tr.deps k) post (max m (Tr.dep k)) (by rw [h]; simp [Tr.depss])
  rw [show (pre ++ Tr.deps k).length = pre.length + Tr.size k from by rw [List.length_append, deps_len]] at h2
  rcases h2 with h2 | h2
  ·rw [h2]
   simp only [Tr.depm]
   omega
  ·omega
def built (s : PS) (a : Nat) (ks : List Tr) : PS := ⟨a, s.bad, s.e, s.ns ++ Tr.flats s.ns.length ks, s.dp ++ Tr.depss ks⟩
def topOf (s : PS) (e : Tr) : Int := ((s.ns.length + Tr.size e : Nat) : Int) - 1
theorem built_len (s : PS) (a : Nat) (ks : List Tr) : (built s a ks).ns.length = s.ns.length + Tr.sizes ks := by simp [built, flats_len]
theorem built_app (s : PS) (a b : Nat) (ks l : List Tr) : built (built s a ks) b l = built s b (ks ++ l) := by
 have := built_len s a ks
 unfold built at this ⊢
 simp only at this ⊢
 rw [this, flats_app, depss_app]
 simp
theorem built_step (s : PS) (a n : Nat) (ks : List Tr) : stepP (built s a ks) n = built s (a + n) ks := rfl
theorem top_built (s : PS) (a : Nat) (ks : List Tr) (e : Tr) : Tr.idxs s.ns.length (ks ++ [e]) = Tr.idxs s.ns.length ks ++ [topOf (built s a ks) e] := by
 rw [idxs_app]
 unfold topOf
 rw [built_len]
 rfl
theorem idxs_one (s : PS) (e : Tr) : Tr.idxs s.ns.length [e] = [topOf s e] := rfl
theorem place_built (s : PS) (a : Nat) (ks : List Tr) (k : Int) (h : (s.ns.length : Int) ≤ k) : placeOf (built s a ks) k = 0 := by
 unfold placeOf
 rw [if_neg (by omega)]
 cases hx : (built s a ks).ns[k.toNat]? with
 | none => rfl
 | some x =>
  have hx2 : (s.ns ++ Tr.flats s.ns.length ks)[k.toNat]? = some x := hx
  rw [List.getElem?_append_right (by omega)] at hx2
  exact tflats_at _ _ _ (List.mem_of_getElem? hx2)
theorem top_ge (s : PS) (e : Tr) : (s.ns.length : Int) ≤ topOf s e := by
 have := size_pos e
 unfold topOf
 omega
theorem depm_nn : ∀ ks : List Tr, 0 ≤ Tr.depm ks
 | [] => by simp [Tr.depm]
 | k :: ks => by have := depm_nn ks; simp only [Tr.depm]; omega
theorem idxs_mem : ∀ (n : Nat) (ks : List Tr) (k : Int), k ∈ Tr.idxs n ks → 0 ≤ k ∧ k < ((n + Tr.sizes ks : Nat) : Int)
 | n, [], k, h => by cases h
 | n, e :: ks, k, h => by
  simp only [Tr.idxs, List.mem_cons] at h
  have := size_pos e
  simp only [Tr.sizes]
  rcases h with rfl | h
  ·omega
  ·have := idxs_mem _ _ _ h
   omega
theorem add_built {s : PS} (he : s.e = 0) (hl : s.dp.length = s.ns.length) (a : Nat) (op n : Int) (t : ByteArray) (ks : List Tr) (hd : Tr.depm ks < 40) :
  addP (built s a ks) op 0 t n (Tr.idxs s.ns.length ks) = (built s a [.mk op n t ks], topOf s (.mk op n t ks)) := by
 have hdp : deepest (built s a ks) (Tr.idxs s.ns.length ks) = Tr.depm ks := by
  have := deepest_idxs ks (built s a ks) s.dp [] 0 (by simp [built])
  rw [hl] at this
  unfold deepest
  have h2 := depm_nn ks
  omega
 unfold addP
 rw [if_neg (show ¬ (built s a ks).e ≠ 0 from fun e => e he), hdp, if_neg (by omega)]
 have hf : (Tr.idxs s.ns.length ks).filter (fun k => decide (0 ≤ k ∧ k < ((built s a ks).ns.length : Int))) = Tr.idxs s.ns.length ks := List.filter_eq_self.2 fun k hk => by
  have := idxs_mem _ _ _ hk
  rw [built_len]
  exact decide_eq_true this
 rw [hf]
 refine Prod.ext ?_ ?_
 ·simp only [built, Tr.flats, Tr.flat, Tr.depss, Tr.deps, List.append_nil, List.append_assoc]
 ·show ((built s a ks).ns.length : Int) = _
  rw [built_len]
  unfold topOf
  simp only [Tr.size]
  omega
end
section
set_option linter.unusedVariables false
set_option linter.unusedSimpArgs false
def strT (s : ByteArray) : TokD := ⟨3, 0, s, 0⟩
def rowsT (all : Bool) : List (List TokD) → List TokD
 | [] => []
 | t :: r => t ++ ((if all || !r.isEmpty then [signT gComma] else []) ++ rowsT all r)
def pairsT : List (List TokD) → List TokD
 | k :: v :: r => k ++ (signT gColon :: (v ++ (signT gComma :: pairsT r)))
 | _ => []
def insideT (t : List TokD) : List TokD := signT gLp :: (t ++ [signT gRp])
def opWords (s : ByteArray) : List TokD :=
 if s = tNotIn then [wordT kNot, wordT kIn] else if s = tIsNot then [wordT kIs, wordT kNot] else if s = kIn ∨ s = kIs then [wordT s] else [signT s]
def nthT (P : List (List TokD)) (i : Nat) : List TokD := (P[i]?).getD []
def lay (op n : Int) (s : ByteArray) (P : List (List TokD)) : List TokD :=
 if op = 1 then [wordT kNone] else if op = 2 then [wordT kTrue] else if op = 3 then [wordT kFalse]
 else if op = 4 then [numT n] else if op = 5 then [strT s] else if op = 6 then [wordT s]
 else if op = 7 then signT gLb :: (rowsT false P ++ [signT gRb])
 else if op = 8 then signT gLp :: (rowsT true P ++ [signT gRp])
 else if op = 9 then signT gLc :: (pairsT P ++ [signT gRc])
 else if op = 10 then signT gMinus :: insideT (nthT P 0)
 else if op = 11 then wordT kNot :: insideT (nthT P 0)
 else if op = 12 ∨ op = 13 then insideT (nthT P 0) ++ (opWords s ++ insideT (nthT P 1))
 else if op = 14 then insideT (nthT P 0) ++ (wordT kAnd :: insideT (nthT P 1))
 else if op = 15 then insideT (nthT P 0) ++ (wordT kOr :: insideT (nthT P 1))
 else if op = 16 then insideT (nthT P 0) ++ (wordT kIf :: (insideT (nthT P 1) ++ (wordT kElse :: insideT (nthT P 2))))
 else if op = 17 then insideT (nthT P 0) ++ (signT gLp :: (rowsT false P.tail ++ [signT gRp]))
 else if op = 18 then insideT (nthT P 0) ++ [signT gDot, wordT s]
 else if op = 19 then insideT (nthT P 0) ++ (signT gLb :: (nthT P 1 ++ [signT gRb]))
 else if op = 20 then insideT (nthT P 0) ++ (signT gLb :: (nthT P 1 ++ (signT gColon :: (nthT P 2 ++ [signT gRb]))))
 else if op = 22 then wordT s :: (if P.isEmpty then [] else signT gEq :: nthT P 0)
 else wordT kLambda :: (rowsT false P.dropLast ++ (signT gColon :: (P.getLast?).getD []))
mutual
def Tr.toks : Tr → List TokD
 | .mk op n s ks => lay op n s (Tr.tokss ks)
def Tr.tokss : List Tr → List (List TokD)
 | [] => []
 | k :: ks => Tr.toks k :: Tr.tokss ks
end
inductive Good : Tr → Prop
 | none_ : Good (.mk 1 0 ⟨#[]⟩ [])
 | true_ : Good (.mk 2 0 ⟨#[]⟩ [])
 | false_ : Good (.mk 3 0 ⟨#[]⟩ [])
 | int_ (n : Int) : 0 ≤ n → n ≤ 64 → Good (.mk 4 n ⟨#[]⟩ [])
 | str_ (s : ByteArray) : s.size ≤ 64 → Good (.mk 5 0 s [])
 | name_ (s : ByteArray) : s.size ≤ 64 → nameB s = true → Good (.mk 6 0 s [])
 | list_ (ks : List Tr) : (∀ k ∈ ks, Good k) → ks.length ≤ 4 → Good (.mk 7 0 ⟨#[]⟩ ks)
 | tuple_ (ks : List Tr) : (∀ k ∈ ks, Good k) → ks.length ≤ 4 → Good (.mk 8 0 ⟨#[]⟩ ks)
 | dict_ (ks : List Tr) : (∀ k ∈ ks, Good k) → ks.length % 2 = 0 → ks.length ≤ 4 → Good (.mk 9 0 ⟨#[]⟩ ks)
 | neg_ (a : Tr) : Good a → Good (.mk 10 0 ⟨#[]⟩ [a])
 | not_ (a : Tr) : Good a → Good (.mk 11 0 ⟨#[]⟩ [a])
 | bin_ (s : ByteArray) (a b : Tr) : s ∈ binaries → Good a → Good b → Good (.mk 12 0 s [a, b])
 | cmp_ (s : ByteArray) (a b : Tr) : s ∈ comparers → Good a → Good b → Good (.mk 13 0 s [a, b])
 | and_ (a b : Tr) : Good a → Good b → Good (.mk 14 0 ⟨#[]⟩ [a, b])
 | or_ (a b : Tr) : Good a → Good b → Good (.mk 15 0 ⟨#[]⟩ [a, b])
 | if_ (a b c : Tr) : Good a → Good b → Good c → Good (.mk 16 0 ⟨#[]⟩ [a, b, c])
 | call_ (f : Tr) (ks : List Tr) : Good f → (∀ k ∈ ks, Good k) → ks.length ≤ 4 → Good (.mk 17 0 ⟨#[]⟩ (f :: ks))
 | attr_ (s : ByteArray) (a : Tr) : s.size ≤ 64 → nameB s = true → Good a → Good (.mk 18 0 s [a])
 | index_ (a b : Tr) : Good a → Good b → Good (.mk 19 0 ⟨#[]⟩ [a, b])
 | slice_ (a b c : Tr) : Good a → Good b → Good c → Good (.mk 20 0 ⟨#[]⟩ [a, b, c])
 | lambda_ (s : ByteArray) (a : Tr) : s.size ≤ 64 → nameB s = true → Good a → Good (.mk 21 0 ⟨#[]⟩ [.mk 22 0 s [], a])
def isT (t : TokD) (u : ByteArray) : Bool := decide (t.k = if kwB u then 1 else 4) && decide (t.s = u)
def noT (l : List ByteArray) (t : TokD) : Bool := l.all fun u => !isT t u
section
variable {L : List TokD} {s : PS}
theorem isP_eq (u : ByteArray) (b : Nat) : isP L s u b = isT (tokP L s b) u := rfl
theorem noT_is {l : List ByteArray} {b : Nat} (h : noT l (tokP L s b) = true) : ∀ u ∈ l, isP L s u b = false := fun u hu => by
 have := List.all_eq_true.1 h u hu
 rw [isP_eq]
 simpa using this
theorem noT_mono {l l' : List ByteArray} {t : TokD} (h : noT l t = true) (hs : ∀ u ∈ l', u ∈ l) : noT l' t = true := List.all_eq_true.2 fun u hu => List.all_eq_true.1 h u (hs u hu)
end
abbrev hPost : List ByteArray := [gDot, gLp, gLb]
abbrev hFac : List ByteArray := hPost ++ [gPow]
abbrev hTerm : List ByteArray := hFac ++ [gStar, gDiv, gMod]
abbrev hSum : List ByteArray := hTerm ++ [gPlus, gMinus]
abbrev hNot : List ByteArray := hSum ++ [gEqq, gNe, gLt, gLe, gGt, gGe, kIn, kIs, kNot]
abbrev hAnd : List ByteArray := hNot ++ [kAnd]
abbrev hOr : List ByteArray := hAnd ++ [kOr]
abbrev hExpr : List ByteArray := hOr ++ [kIf]
def Rt {α : Type} (A : Option α) (r : α) : Prop := ∀ q, A = some q → q = r
section
variable {L : List TokD} {ex : Ex} {s : PS} {r : PS × Int}
theorem post_up {m : Nat} (h : Rt (atomE ex L m s) r) (hn : noT hPost (tokP L r.1 0) = true) : Rt (postfixE ex L m s) r := by
 intro q hq
 unfold postfixE at hq
 split at hq
 ·cases hq
 ·rename_i s1 x ha
  obtain rfl := h _ ha
  cases m with
  | zero => cases hq
  | succ m =>
   unfold postE at hq
   simp only [any_none (noT_is hn)] at hq
   rw [if_pos (by first | trivial | rfl)] at hq
   exact (Option.some.inj hq).symm
theorem fac_up {m0 : Nat} (hm : isT (tokP L s 0) gMinus = false) (h : Rt (postfixE ex L m0 s) r) (hn : isT (tokP L r.1 0) gPow = false) : ∀ m, Rt (factorE ex L m0 m s) r
 | 0 => fun q hq => by cases hq
 | m + 1 => by
  intro q hq
  unfold factorE at hq
  simp only [take_none hm] at hq
  rw [if_neg (by first | decide | simp)] at hq
  split at hq
  ·cases hq
  ·rename_i s1 x ha
   obtain rfl := h _ ha
   rw [take_none hn, if_neg (by first | decide | simp)] at hq
   exact (Option.some.inj hq).symm
theorem parts_up {part : Ex} {op : Int} {signs : List ByteArray} {m : Nat} (h : Rt (part s) r) (hn : noT signs (tokP L r.1 0) = true) : Rt (partsE L part op signs m s) r := by
 intro q hq
 unfold partsE at hq
 split at hq
 ·cases hq
 ·rename_i s1 x ha
  obtain rfl := h _ ha
  cases m with
  | zero => cases hq
  | succ m =>
   unfold leftE at hq
   simp only [any_none (noT_is hn)] at hq
   rw [if_pos (by first | trivial | rfl)] at hq
   exact (Option.some.inj hq).symm
theorem cmp_off (h : noT [gEqq, gNe, gLt, gLe, gGt, gGe, kIn, kIs, kNot] (tokP L s 0) = true) : compares L s = (⟨#[]⟩, 0) := by
 have h2 := noT_is (L := L) (s := s) h
 exact cmp_none (fun t ht => h2 t (List.mem_append_left [kNot] ht)) fun e => by rw [h2 kNot (by simp)] at e; cases e
theorem not_up {m0 : Nat} (hm : isT (tokP L s 0) kNot = false) (h : Rt (sumE ex L m0 s) r) (hn : compares L r.1 = (⟨#[]⟩, 0)) : ∀ m, Rt (notE ex L m0 m s) r
 | 0 => fun q hq => by cases hq
 | m + 1 => by
  intro q hq
  unfold notE at hq
  simp only [take_none hm] at hq
  rw [if_neg (by first | decide | simp)] at hq
  split at hq
  ·cases hq
  ·rename_i s1 x ha
   obtain rfl := h _ ha
   rw [hn, if_pos (by first | trivial | rfl)] at hq
   exact (Option.some.inj hq).symm
theorem expr_up {m : Nat} (hm : isT (tokP L s 0) kLambda = false) (h : Rt (orE ex L m s) r) (hn : isT (tokP L r.1 0) kIf = false) : Rt (exprB ex L m s) r := by
 intro q hq
 unfold exprB at hq
 simp only [take_none hm] at hq
 rw [if_neg (by first | decide | simp)] at hq
 split at hq
 ·cases hq
 ·rename_i s1 x ha
  obtain rfl := h _ ha
  rw [take_none hn, if_neg (by first | decide | simp)] at hq
  exact (Option.some.inj hq).symm
theorem noT_at {l : List ByteArray} {t : TokD} (h : noT l t = true) {u : ByteArray} (hu : u ∈ l) : isT t u = false := by
 have := List.all_eq_true.1 h u hu
 simpa using this
theorem fac_of_atom {m : Nat} (h : Rt (atomE ex L m s) r) (h1 : isT (tokP L s 0) gMinus = false) (hn : noT hFac (tokP L r.1 0) = true) (k : Nat) : Rt (factorE ex L m k s) r :=
 fac_up h1 (post_up h (noT_mono hn fun u hu => List.mem_append_left _ hu)) (noT_at hn (by simp)) k
theorem fac_of_post {m : Nat} (h : Rt (postfixE ex L m s) r) (h1 : isT (tokP L s 0) gMinus = false) (hn : noT hFac (tokP L r.1 0) = true) (k : Nat) : Rt (factorE ex L m k s) r := fac_up h1 h (noT_at hn (by simp)) k
theorem term_of_fac {m : Nat} (h : Rt (factorE ex L m m s) r) (hn : noT hTerm (tokP L r.1 0) = true) : Rt (termE ex L m s) r := parts_up h (noT_mono hn fun u hu => List.mem_append_right _ hu)
theorem sum_of_term {m : Nat} (h : Rt (termE ex L m s) r) (hn : noT hSum (tokP L r.1 0) = true) : Rt (sumE ex L m s) r := parts_up h (noT_mono hn fun u hu => List.mem_append_right _ hu)
theorem not_of_sum {m : Nat} (h : Rt (sumE ex L m s) r) (h1 : isT (tokP L s 0) kNot = false) (hn : noT hNot (tokP L r.1 0) = true) (k : Nat) : Rt (notE ex L m k s) r := not_up h1 h (cmp_off (noT_mono hn fun u hu => List.mem_append_right _ hu)) k
theorem and_of_not {m : Nat} (h : Rt (notE ex L m m s) r) (hn : noT hAnd (tokP L r.1 0) = true) : Rt (andE ex L m s) r := parts_up h (noT_mono hn fun u hu => List.mem_append_right _ hu)
theorem or_of_and {m : Nat} (h : Rt (andE ex L m s) r) (hn : noT hOr (tokP L r.1 0) = true) : Rt (orE ex L m s) r := parts_up h (noT_mono hn fun u hu => List.mem_append_right _ hu)
theorem expr_of_or {m : Nat} (h : Rt (orE ex L m s) r) (h1 : isT (tokP L s 0) kLambda = false) (hn : noT hExpr (tokP L r.1 0) = true) : Rt (exprB ex L m s) r := expr_up h1 h (noT_at hn (by simp))
theorem h_or {t : TokD} (h : noT hExpr t = true) : noT hOr t = true := noT_mono h fun u hu => List.mem_append_left _ hu
theorem h_and {t : TokD} (h : noT hOr t = true) : noT hAnd t = true := noT_mono h fun u hu => List.mem_append_left _ hu
theorem h_not {t : TokD} (h : noT hAnd t = true) : noT hNot t = true := noT_mono h fun u hu => List.mem_append_left _ hu
theorem h_sum {t : TokD} (h : noT hNot t = true) : noT hSum t = true := noT_mono h fun u hu => List.mem_append_left _ hu
theorem h_term {t : TokD} (h : noT hSum t = true) : noT hTerm t = true := noT_mono h fun u hu => List.mem_append_left _ hu
theorem h_fac {t : TokD} (h : noT hTerm t = true) : noT hFac t = true := noT_mono h fun u hu => List.mem_append_left _ hu
theorem h_post {t : TokD} (h : noT hFac t = true) : noT hPost t = true := noT_mono h fun u hu => List.mem_append_left _ hu
theorem expr_of_and {m : Nat} (h : Rt (andE ex L m s) r) (h1 : isT (tokP L s 0) kLambda = false) (hn : noT hExpr (tokP L r.1 0) = true) : Rt (exprB ex L m s) r := expr_of_or (or_of_and h (h_or hn)) h1 hn
theorem expr_of_not {m : Nat} (h : Rt (notE ex L m m s) r) (h1 : isT (tokP L s 0) kLambda = false) (hn : noT hExpr (tokP L r.1 0) = true) : Rt (exprB ex L m s) r := expr_of_and (and_of_not h (h_and (h_or hn))) h1 hn
theorem expr_of_sum {m : Nat} (h : Rt (sumE ex L m s) r) (h0 : noT [gMinus, kNot, kLambda] (tokP L s 0) = true) (hn : noT hExpr (tokP L r.1 0) = true) : Rt (exprB ex L m s) r := expr_of_not (not_of_sum h (noT_at h0 (by simp)) (h_not (h_and (h_or hn))) m) (noT_at h0 (by simp)) hn
theorem expr_of_term {m : Nat} (h : Rt (termE ex L m s) r) (h0 : noT [gMinus, kNot, kLambda] (tokP L s 0) = true) (hn : noT hExpr (tokP L r.1 0) = true) : Rt (exprB ex L m s) r := expr_of_sum (sum_of_term h (h_sum (h_not (h_and (h_or hn))))) h0 hn
theorem expr_of_post {m : Nat} (h : Rt (postfixE ex L m s) r) (h0 : noT [gMinus, kNot, kLambda] (tokP L s 0) = true) (hn : noT hExpr (tokP L r.1 0) = true) : Rt (exprB ex L m s) r := expr_of_term (term_of_fac (fac_of_post h (noT_at h0 (by simp)) (h_fac (h_term (h_sum (h_not (h_and (h_or hn)))))) m) (h_term (h_sum (h_not (h_and (h_or hn)))))) h0 hn
theorem expr_of_atom {m : Nat} (h : Rt (atomE ex L m s) r) (h0 : noT [gMinus, kNot, kLambda] (tokP L s 0) = true) (hn : noT hExpr (tokP L r.1 0) = true) : Rt (exprB ex L m s) r := expr_of_post (post_up h (h_post (h_fac (h_term (h_sum (h_not (h_and (h_or hn)))))))) h0 hn
theorem parts_two {part : Ex} {op : Int} {signs : List ByteArray} {m : Nat} {s1 s2 : PS} {x y : Int} {u : ByteArray} (h1 : Rt (part s) (s1, x)) (hu : anyP L signs s1 = (stepP s1 1, u, true)) (h2 : Rt (part (stepP s1 1)) (s2, y))
  (ha : addP s2 op (placeOf s2 x) (if op = 12 then u else ⟨#[]⟩) 0 [x, y] = r) (hn : noT signs (tokP L r.1 0) = true) : Rt (partsE L part op signs m s) r := by
 intro q hq
 unfold partsE at hq
 split at hq
 ·cases hq
 ·rename_i s1' x' ha1
  obtain ⟨rfl, rfl⟩ := Prod.mk.inj (h1 _ ha1)
  cases m with
  | zero => cases hq
  | succ m =>
   unfold leftE at hq
   simp only [hu] at hq
   rw [if_neg (by first | decide | simp)] at hq
   split at hq
   ·cases hq
   ·rename_i s2' y' hy
    obtain ⟨rfl, rfl⟩ := Prod.mk.inj (h2 _ hy)
    rw [ha] at hq
    cases m with
    | zero => cases hq
    | succ m =>
     unfold leftE at hq
     simp only [any_none (noT_is hn)] at hq
     rw [if_pos (by first | trivial | rfl)] at hq
     exact (Option.some.inj hq).symm
end
end
end Go.Proofs.YtjdcicopjipmnaaDoor
