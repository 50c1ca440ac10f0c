/- A tree as memory holds it; a node's kids; is there such a node. What is below a node (plain); a map of numbers. over: what is below a node. All: an iterator over what is below a node. Builder.Tree in plain words, and what it makes. -/
import Derived.Test.YtjdcicopjipmnaaDoorPse
import Derived.RangeFuncNested
import Derived.RangeFuncBound
import Derived.RangeFuncCalls
import Derived.RangeFuncLeaves
import Derived.RangeFuncBox
import Derived.Shelf.Abstract
import Derived.Shelf.RegionOpen
import Derived.OwnWalkIn
import Derived.TacticsInMore
import Derived.LoopNIn
import Derived.LoopIn
import Derived.Laws.MakeOwn
namespace Go.Proofs.YtjdcicopjipmnaaDoor
open Go.RowKit
set_option linter.unusedVariables false
set_option linter.unusedSimpArgs false
open Go.RowKit Go.Maps Go.WideMaps
open Go.RowKit Go.Shelf
attribute [local go_sem] Oper.semAt_some
/-- all cells lie as they lay -/
structure StayC (W W' : World) : Prop where
  size : W.heap.size ≤ W'.heap.size
  same : ∀ (k : Nat) cs t z, W.heap[k]? = some (.cells cs t z) → W'.heap[k]? = W.heap[k]?
theorem StayC.refl (W : World) : StayC W W := ⟨Nat.le_refl _, fun _ _ _ _ _ => rfl⟩
theorem StayC.trans {A B C : World} (h : StayC A B) (k : StayC B C) : StayC A C := ⟨Nat.le_trans h.size k.size, fun i cs t z hi => by
  have e := h.same i cs t z hi
  rw [← e] at hi ⊢
  exact k.same i cs t z hi⟩
theorem StayC.bel {W W' : World} (h : Below W.heap.size W W') : StayC W W' := ⟨h.size, fun k cs t z hk => h.block k (Array.getElem?_eq_some_iff.1 hk).1⟩
theorem cell_block {W : World} {b o : Nat} {u : Value} (h : W.cell? ⟨b, o, none⟩ = some u) : ∃ cs t z, W.heap[b]? = some (.cells cs t z) := by
  unfold World.cell? at h
  simp only at h
  split at h
  · rename_i cs t z hh
    exact ⟨cs, t, z, hh⟩
  · cases h
theorem Rd.stay {w w' : World} {A : Option Addr} {n c sz : Nat} {cs : List Value} (h : Rd w A n c sz cs) (hs : StayC w w') : Rd w' A n c sz cs :=
  ⟨h.1, h.2.1, h.2.2.1, fun hn => by
    obtain ⟨b, o, e, hb, hc⟩ := h.2.2.2 hn
    refine ⟨b, o, e, Nat.lt_of_lt_of_le hb hs.size, fun j u hu => ?_⟩
    have h1 := hc j u hu
    obtain ⟨cs', t, z, hh⟩ := cell_block h1
    exact (World.cell?_of_block (hs.same b cs' t z hh)).trans h1⟩
/-- the slice reads as these nodes, each with its row of kids -/
def RdT (w : World) (A : Option Addr) (n c : Nat) (ns : List NodeD) : Prop :=
  ∃ Z : List NdS, Z.map (·.x) = ns ∧ Z.length = n ∧ Rd w A n c 5 (Z.flatMap NdS.cs) ∧ ∀ z ∈ Z, Rd w z.A z.x.kids.length z.c 1 (ics z.x.kids)
theorem RdT.stay {w w' : World} {A : Option Addr} {n c : Nat} {ns : List NodeD} (h : RdT w A n c ns) (hs : StayC w w') : RdT w' A n c ns := by
  obtain ⟨Z, e, hl, h1, h2⟩ := h
  exact ⟨Z, e, hl, h1.stay hs, fun z hz => (h2 z hz).stay hs⟩
theorem RdT.len {w : World} {A : Option Addr} {n c : Nat} {ns : List NodeD} (h : RdT w A n c ns) : ns.length = n := by
  obtain ⟨Z, e, hl, _⟩ := h
  rw [← e, List.length_map, hl]
theorem RdT.le {w : World} {A : Option Addr} {n c : Nat} {ns : List NodeD} (h : RdT w A n c ns) : n ≤ 9223372036854775807 := by
  obtain ⟨Z, e, hl, h1, _⟩ := h
  exact h1.le
theorem zflat_at : ∀ {Z : List NdS} {k : Nat} {z : NdS}, Z[k]? = some z → ∀ j u, z.cs[j]? = some u → (Z.flatMap NdS.cs)[k * 5 + j]? = some u
  | [], k, z, h, j, u, hu => by simp at h
  | x :: Z, 0, z, h, j, u, hu => by
    obtain rfl : x = z := by simpa using h
    rw [List.flatMap_cons, List.getElem?_append_left (by have := (List.getElem?_eq_some_iff.1 hu).1; omega), Nat.zero_mul, Nat.zero_add]
    exact hu
  | x :: Z, k + 1, z, h, j, u, hu => by
    rw [List.flatMap_cons, List.getElem?_append_right (by show 5 ≤ _; omega)]
    have e : (k + 1) * 5 + j - x.cs.length = k * 5 + j := by show (k + 1) * 5 + j - 5 = _; omega
    rw [e]
    exact zflat_at (by simpa using h) j u hu
/-- one of its nodes -/
theorem RdT.at_ {w : World} {A : Option Addr} {n c : Nat} {ns : List NodeD} (h : RdT w A n c ns) {i : Nat} {x : NodeD} (hx : ns[i]? = some x) :
    ∃ b o A1 c1, A = some ⟨b, o, none⟩ ∧ b < w.heap.size ∧ (∀ j u, (NdS.cs ⟨x, A1, c1⟩)[j]? = some u → w.cell? ⟨b, o + i * 5 + j, none⟩ = some u) ∧ Rd w A1 x.kids.length c1 1 (ics x.kids) := by
  obtain ⟨Z, e, hl, h1, h2⟩ := h
  rw [← e, List.getElem?_map] at hx
  cases hz : Z[i]? with
  | none => rw [hz] at hx; cases hx
  | some z =>
    rw [hz] at hx
    obtain rfl : z.x = x := by simpa using hx
    have hi := (List.getElem?_eq_some_iff.1 hz).1
    obtain ⟨b, o, rfl, hb, hc⟩ := h1.2.2.2 (by omega)
    refine ⟨b, o, z.A, z.c, rfl, hb, fun j u hu => ?_, h2 z (List.mem_of_getElem? hz)⟩
    have := hc _ u (zflat_at hz j u hu)
    rwa [← Nat.add_assoc] at this
theorem RowN.rdT {F : Nat → Prop} {w : World} {v : Value} {ns : List NodeD} (h : RowN F w v ns) : ∃ A c, v = .slice A ns.length c ∧ RdT w A ns.length c ns := by
  obtain ⟨Z, e, h1, h2⟩ := h
  obtain ⟨A, c, rfl, hr, _⟩ := Own.rd h1
  have hl : Z.length = ns.length := by rw [← e, List.length_map]
  rw [hl] at hr
  refine ⟨A, c, by rw [hl], Z, e, hl, hr, fun z hz => ?_⟩
  obtain ⟨A2, c2, e2, hr2, _⟩ := Own.rd (h2 z hz).1
  unfold NdS.v at e2
  injection e2 with e3 e4 e5
  rw [e3, e5]
  exact hr2
theorem RowN.kl {F : Nat → Prop} {w : World} {v : Value} {ns : List NodeD} (h : RowN F w v ns) (i : Nat) (x : NodeD) (hx : ns[i]? = some x) : x.kids.length ≤ 4398046511103 := by
  obtain ⟨Z, e, h1, h2⟩ := h
  rw [← e, List.getElem?_map] at hx
  cases hz : Z[i]? with
  | none => rw [hz] at hx; cases hx
  | some z =>
    rw [hz] at hx
    obtain rfl : z.x = x := by simpa using hx
    exact (h2 z (List.mem_of_getElem? hz)).2.2
set_option maxRecDepth 100000 in
set_option maxHeartbeats 4000000 in
theorem kidsT_any {w : World} {A : Option Addr} {n c i : Nat} {ns : List NodeD} {x : NodeD} (h : RdT w A n c ns) (hx : ns[i]? = some x) (hk : x.kids.length ≤ 4398046511103) :
    Calls Tryd.prog 100 #[.slice A n c, .int .i64 i] w fun e w' => ∃ v, e = .returned v ∧ OwnI w' v (keepK i x.kids) ∧ Below w.heap.size w w' ∧ ∀ g, v.ownBlock = some g → w.heap.size ≤ g := by
  have hnl := h.len
  have hin := (List.getElem?_eq_some_iff.1 hx).1
  have hle := h.le
  obtain ⟨b, o, A1, c1, rfl, hb, hc, hr⟩ := h.at_ hx
  have c4 := hc 4 _ rfl
  have hir : i < n := by omega
  have hrl := hr.le
  have HR := Lib.hid hr
  unfold NdS.v at c4
  simp only at c4
  generalize hK : x.kids = kids at *
  clear hc hr h hx hK
  go_enter Tryd.func100, Tryd.ntmps100
  go_wp2_with fail
  go_loopw [5, 14] (fun vo vi wr => ∃ (j : Nat) (A2 : Option Addr) (c2 : Nat) (M : List Int), j ≤ kids.length ∧ vi = .int .i64 j ∧ vo = .slice A2 M.length c2 ∧ Hid (keepK i (kids.take j) = M) ∧ OwnI wr (.slice A2 M.length c2) M ∧ Hid (∀ g, (Value.slice A2 M.length c2).ownBlock = some g → w.heap.size ≤ g) ∧ Below w.heap.size w wr) (fun _ vi _ => kids.length - (intOf vi).toNat)
  case atStart => exact ⟨0, none, 0, [], Nat.zero_le _, rfl, rfl, Lib.hid rfl, OwnI.nil_ w, Lib.hid fun g hg => (by cases hg), Below.refl _ _⟩
  case round =>
    obtain ⟨j, A2, c2, M, hj, rfl, rfl, HM, hown, HV, hbel⟩ := hrel
    have hMl : M.length ≤ j := by
      rw [← HM.out]
      unfold keepK
      exact Nat.le_trans (List.length_filter_le _ _) (by rw [List.length_take]; omega)
    have HO := Lib.hid hown
    have HB := Lib.hid hbel
    clear hown
    by_cases hlt : j < kids.length
    · obtain ⟨b3, o3, rfl, hb3, hc3⟩ := (HR.out.bel hbel).2.2.2 (by omega)
      obtain ⟨y, hy⟩ : ∃ y, kids[j]? = some y := ⟨_, List.getElem?_eq_getElem hlt⟩
      have hce : wr.cell? ⟨b3, o3 + j, none⟩ = some (.int .i64 y) := hc3 j _ (by rw [ics, List.getElem?_map, hy]; rfl)
      have HY := Lib.hid hy
      clear hy hc3 hbel
      by_cases h0 : 0 ≤ y
      · have d0 : decide (0 ≤ y) = true := decide_eq_true h0
        by_cases h1 : y < (i : Int)
        · have d1 : decide (y < (i : Int)) = true := decide_eq_true h1
          go_wp2_with (at_builtin; go_must (refine wpList_appendN _ rfl _ _ rfl _ M rfl (HO.out.bel (Below.alloc (Below.refl _ _) (Nat.le_refl _) _)) _ 1 1 [y] rfl Rd.one rfl (by simp; omega) ?_); intro v6 w6 ho6 hg6 hn6; generalize hG : M ++ [y] = G at ho6; have HG := Lib.hid hG; obtain ⟨A6, c6, rfl, -, -⟩ := Own.rd ho6; clear hG; have hb6 : Below w.heap.size w w6 := (HB.out.alloc HB.out.size _).grown hg6 (by have := HB.out.size; simp; omega) (fun g hg => HV.out g hg); have HO6 := Lib.hid ho6; have HB6 := Lib.hid hb6; have HN6 := Lib.hid hn6; clear ho6 hg6 hn6 hb6)
          go_round
          case rel =>
            refine ⟨j + 1, A6, c6, G, by omega, by go_num, rfl, Lib.hid ?_, HO6.out, Lib.hid fun g hg => ?_, HB6.out⟩
            · rw [keepK_snoc _ _ _ _ HY.out, if_pos ⟨h0, h1⟩, HM.out, HG.out]
            · rcases HN6.out with e9 | e9
              · exact HV.out g (e9 ▸ hg)
              · rw [e9] at hg
                injection hg with hg
                have := HB.out.size
                rw [← hg]
                simp
                omega
          case measure => simp [intOf]; omega
        · have d1 : decide (y < (i : Int)) = false := decide_eq_false h1
          go_wp2_with fail
          go_round
          case rel => exact ⟨j + 1, _, _, M, by omega, by go_num, rfl, Lib.hid (by rw [keepK_snoc _ _ _ _ HY.out, if_neg (fun h => h1 h.2), HM.out]), HO.out, HV, HB.out⟩
          case measure => simp [intOf]; omega
      · have d0 : decide (0 ≤ y) = false := decide_eq_false h0
        go_wp2_with fail
        go_round
        case rel => exact ⟨j + 1, _, _, M, by omega, by go_num, rfl, Lib.hid (by rw [keepK_snoc _ _ _ _ HY.out, if_neg (fun h => h0 h.1), HM.out]), HO.out, HV, HB.out⟩
        case measure => simp [intOf]; omega
    · obtain rfl : j = kids.length := by omega
      go_wp2_with fail
      go_ret
      have hm := HM.out
      rw [List.take_of_length_le (Nat.le_refl _)] at hm
      rw [hm]
      exact ⟨_, rfl, HO.out, HB.out, HV.out⟩
theorem isT_any (A : Option Addr) (n c i : Nat) (w : World) (hi : i < n) : Calls Tryd.prog 83 #[.slice A n c, .int .i64 i] w fun e w' => e = .returned (.bool true) ∧ w' = w := by
  have d0 : decide (0 ≤ (i : Int)) = true := decide_eq_true (by omega)
  have d1 : decide ((i : Int) < (n : Int)) = true := decide_eq_true (by omega)
  go_enter Tryd.func83, Tryd.ntmps83
  go_wp2_with fail
  go_ret
  exact ⟨rfl, rfl⟩

def kidsAt (ns : List NodeD) (i : Nat) : List Int := ((ns[i]?).map (·.kids)).getD []
/-- over a node, and what is below it: those that are seen, in order -/
def ovE (ns : List NodeD) : Nat → Nat → List Int → List Int
  | 0, _, seen => seen
  | f + 1, i, seen => if (i : Int) ∈ seen then seen else (keepK i (kidsAt ns i)).foldl (fun sn k => ovE ns f k.toNat sn) (seen ++ [(i : Int)])
/-- different nodes of n -/
def SeenOk (n : Nat) (l : List Int) : Prop := l.Nodup ∧ ∀ x ∈ l, 0 ≤ x ∧ x < (n : Int)
theorem seen_len : ∀ (n : Nat) (l : List Int), SeenOk n l → l.length ≤ n
  | 0, l, h => by
    cases l with
    | nil => simp
    | cons x l => have := h.2 x (by simp); omega
  | n + 1, l, h => by
    by_cases hm : (n : Int) ∈ l
    · have h1 := List.length_erase_of_mem hm
      have h2 : SeenOk n (l.erase (n : Int)) := ⟨h.1.erase _, fun x hx => by
        have h3 := h.2 x (List.mem_of_mem_erase hx)
        have h4 : x ≠ (n : Int) := fun e => by
          rw [e, h.1.mem_erase_iff] at hx
          exact hx.1 rfl
        omega⟩
      have h3 := seen_len n _ h2
      have h4 : 0 < l.length := List.length_pos_of_mem hm
      omega
    · have h2 : SeenOk n l := ⟨h.1, fun x hx => by
        have h3 := h.2 x hx
        have h4 : x ≠ (n : Int) := fun e => hm (e ▸ hx)
        omega⟩
      have := seen_len n l h2
      omega
theorem seen_snoc {n : Nat} {l : List Int} {i : Nat} (h : SeenOk n l) (hi : i < n) (hn : (i : Int) ∉ l) : SeenOk n (l ++ [(i : Int)]) := by
  refine ⟨?_, fun x hx => ?_⟩
  · rw [List.nodup_append]
    exact ⟨h.1, by simp, fun a ha b hb => by rw [List.mem_singleton.1 hb]; rintro rfl; exact hn ha⟩
  · rcases List.mem_append.1 hx with h1 | h1
    · exact h.2 x h1
    · rw [List.mem_singleton.1 h1]; omega
theorem keepK_mem {n : Nat} {kids : List Int} {k : Int} (h : k ∈ keepK n kids) : 0 ≤ k ∧ k < n := by
  unfold keepK at h
  simpa using (List.mem_filter.1 h).2
theorem fold_ok {ns : List NodeD} {f i : Nat} (hi : i < ns.length) (ih : ∀ (k : Nat) (seen : List Int), k < ns.length → SeenOk ns.length seen → SeenOk ns.length (ovE ns f k seen)) : ∀ (l : List Int) (seen : List Int), (∀ k ∈ l, 0 ≤ k ∧ k < (i : Int)) → SeenOk ns.length seen → SeenOk ns.length (l.foldl (fun sn k => ovE ns f k.toNat sn) seen)
  | [], seen, _, h => h
  | k :: l, seen, hl, h => fold_ok hi ih l _ (fun k hk => hl k (.tail _ hk)) (ih _ _ (by have := hl k (.head _); omega) h)
theorem ovE_ok {ns : List NodeD} : ∀ (f i : Nat) (seen : List Int), i < ns.length → SeenOk ns.length seen → SeenOk ns.length (ovE ns f i seen)
  | 0, i, seen, hi, h => h
  | f + 1, i, seen, hi, h => by
    unfold ovE
    split
    · exact h
    · rename_i hn
      exact fold_ok hi (fun k sn hk hs => ovE_ok f k sn hk hs) _ _ (fun k hk => keepK_mem hk) (seen_snoc h hi hn)

/-- block b is a map of at most n numbers -/
def BSet (w : World) (b n : Nat) (f : Int → Bool) : Prop := ∃ D : DataW Unit, w.ownsMap Tryd.prog 3 (plainElem Tryd.prog 4) b n D ∧ ∀ k : Int, (Lit.int .i64 k).wf = true → D.atKey (.int .i64 k) (.lit (.bool false)) = .lit (.bool (f k))
section
variable {w : World} {b n : Nat} {f : Int → Bool}
theorem BSet.lt (h : BSet w b n f) : b < w.heap.size := by
  obtain ⟨D, h, _⟩ := h
  exact h.lt
theorem BSet.isMap (h : BSet w b n f) : ∃ es clock, w.heap[b]? = some (.map es clock) := by
  obtain ⟨D, ⟨es, clock, e, _⟩, _⟩ := h
  exact ⟨es, clock, e⟩
theorem BSet.made (w : World) : BSet (w.alloc (.map #[] 0)) w.heap.size 0 (fun _ => false) := ⟨.map [], World.ownsMap_made w _ _ _, fun x _ => rfl⟩
theorem BSet.keep {w' : World} (h : BSet w b n f) (hb : w'.heap[b]? = w.heap[b]?) : BSet w' b n f := by
  obtain ⟨D, ⟨es, clock, e, h1⟩, h2⟩ := h
  exact ⟨D, ⟨es, clock, hb.trans e, h1⟩, h2⟩
theorem BSet.look (h : BSet w b n f) {k : Int} (hk : (Lit.int .i64 k).wf = true) : (Instr.lookup 100 (.map (some b)) (.int .i64 k) false).run Tryd.prog w = .ok (.bool (f k)) w := by
  obtain ⟨D, ho, hf⟩ := h
  obtain ⟨v, ps, hrun, hv⟩ := ho.lookup keyed3 Tryd.underlying100 (zero4 w) (plainElem_bool Tryd.underlying4 false) (keyOf_int_mk Tryd.underlying3 hk)
  obtain ⟨c, rfl, hc⟩ := plainElem_bool_inv hv
  rw [hrun]
  rw [hf k hk] at hc
  simp only [Prod.mk.injEq, DataW.lit.injEq, Lit.bool.injEq] at hc
  rw [hc.1]
theorem BSet.store (h : BSet w b n f) {k : Int} (hk : (Lit.int .i64 k).wf = true) (hn : n < maxLen) :
    ∃ w', (Instr.mapUpdate 100 (.map (some b)) (.int .i64 k) (.bool true)).run Tryd.prog w = .ok () w' ∧ BSet w' b (n + 1) (fun y => if y = k then true else f y) ∧ Mod (· = b) w w' := by
  obtain ⟨D, ho, hf⟩ := h
  obtain ⟨w', hrun, ho', ht⟩ := ho.store keyed3 Tryd.underlying100 hn (keyOf_int_mk Tryd.underlying3 hk) (plainElem_bool Tryd.underlying4 true)
  refine ⟨w', hrun, ⟨_, ho', fun y hy => ?_⟩, mod_turned ht⟩
  show _ = DataW.lit (Lit.bool (if y = k then true else f y))
  by_cases e : y = k
  · subst e
    rw [if_pos rfl, Maps.atKey_put_same ho.isMap (show WideAt.IsKeyLit (Lit.int .i64 y) from trivial)]
  · rw [if_neg e, Maps.atKey_put_other]
    · exact hf y hy
    · intro h
      exact e (by injection h)
end
/-- the map of those that are seen -/
abbrev SeenAt (w : World) (b : Nat) (l : List Int) : Prop := BSet w b l.length fun x => decide (x ∈ l)
theorem SeenAt.add {w : World} {b : Nat} {l : List Int} (h : SeenAt w b l) {k : Int} (hk : (Lit.int .i64 k).wf = true) (hn : l.length < maxLen) :
    ∃ w', (Instr.mapUpdate 100 (.map (some b)) (.int .i64 k) (.bool true)).run Tryd.prog w = .ok () w' ∧ SeenAt w' b (l ++ [k]) ∧ Mod (· = b) w w' := by
  obtain ⟨w', h1, h2, h3⟩ := BSet.store h hk hn
  refine ⟨w', h1, ?_, h3⟩
  have e : (fun y : Int => if y = k then true else decide (y ∈ l)) = fun y => decide (y ∈ l ++ [k]) := by
    funext y
    by_cases e : y = k
    · simp [e]
    · simp [e]
  rw [e] at h2
  unfold SeenAt
  rw [List.length_append]
  exact h2

/-- cells, and maps but e, lie as they lay -/
structure KeepsCW (e : Nat) (W W' : World) : Prop where
  size : W.heap.size ≤ W'.heap.size
  same : ∀ (k : Nat) (o : Obj), W.heap[k]? = some o → k ≠ e → (o.isCells = true ∨ o.isWalk = true) → W'.heap[k]? = some o
  map : (∃ es c, W.heap[e]? = some (.map es c)) → ∃ es c, W'.heap[e]? = some (.map es c)
theorem KeepsCW.trans {e : Nat} {A B C : World} (h : KeepsCW e A B) (k : KeepsCW e B C) : KeepsCW e A C := ⟨Nat.le_trans h.size k.size, fun i o hi hne ho => k.same i o (h.same i o hi hne ho) hne ho, fun hm => k.map (h.map hm)⟩
theorem KeepsCW.put {e : Nat} (W : World) (l : Nat) (o o' : Obj) (h1 : W.heap[l]? = some o) (h2 : o.isCells = false) (h3 : o.isWalk = false) : KeepsCW e W (W.putObj l o') :=
  ⟨by simp, fun k x hk _ hx => by
    have hne : k ≠ l := fun e => by
      rw [e, h1] at hk
      cases hk
      rcases hx with hx | hx
      · rw [h2] at hx; cases hx
      · rw [h3] at hx; cases hx
    exact (World.putObj_heap_other hne).trans hk, fun hm => by
    obtain ⟨es, c, hm⟩ := hm
    have hne : e ≠ l := fun e2 => by
      rw [e2, h1] at hm
      cases hm
      cases h3
    exact ⟨es, c, (World.putObj_heap_other hne).trans hm⟩⟩
theorem KeepsCW.stay {e : Nat} {W W' : World} (h : KeepsCW e W W') (he : ∃ es c, W.heap[e]? = some (.map es c)) : StayC W W' := ⟨h.size, fun k cs t z hk => by
  have hne : k ≠ e := fun e1 => by
    obtain ⟨es, c, h1⟩ := he
    rw [e1, h1] at hk
    cases hk
  rw [hk]
  exact h.same k _ hk hne (.inl rfl)⟩
/-- what the yielded-to function does, at whatever level -/
def YieldOk (J Jx : List Int → World → Prop) (e0 N l : Nat) : Prop := ∀ pre x W, J pre W → pre.length < N → 0 ≤ x → x < (N : Int) → ∀ m, YieldAt Fence.wide m Tryd.prog l #[.int .i64 x] W fun e' W' =>
  (e' = .returned (.bool true) ∧ J (pre ++ [x]) W' ∧ KeepsCW e0 W W') ∨ (e' = .returned (.bool false) ∧ Jx (pre ++ [x]) W')
theorem yield_any {m k l : Nat} {args : Array Value} {W : World} {R : Ending → World → Prop} (h : YieldAt Fence.wide m Tryd.prog l args W R) : YieldAt Fence.wide k Tryd.prog l args W R := by
  obtain ⟨fn, tmps, assign, body, hy, hR⟩ := h
  exact ⟨fn, tmps, assign, body, hy, hR.1, fun c cs _ => hR.2 c cs (room_wide _)⟩
theorem callsIn_any {m k : Nat} {f : FuncId} {args : Array Value} {W : World} {R : Ending → World → Prop} (h : CallsIn Fence.wide m Tryd.prog f args W R) : CallsIn Fence.wide k Tryd.prog f args W R := callsIn_wide.2 (callsIn_wide.1 h)
section
variable {ns : List NodeD} {A : Option Addr} {n c l tb e0 B : Nat} {J Jx : List Int → World → Prop}
theorem bel_stay {W W' : World} (h : Below W.heap.size W W') : StayC W W' := StayC.bel h
theorem mod_stay {W W' : World} {b : Nat} (h : Mod (· = b) W W') (hm : ∃ es c, W.heap[b]? = some (.map es c)) : StayC W W' := ⟨h.size, fun k cs t z hk => h.block k (Array.getElem?_eq_some_iff.1 hk).1 fun e => by
  obtain ⟨es, c, h1⟩ := hm
  rw [e, h1] at hk
  cases hk⟩
theorem abides_mod {J : List Int → World → Prop} (hJ : AbidesFrom B J) {pre : List Int} {W W' : World} {b : Nat} (h : J pre W) (hm : Mod (· = b) W W') (hB : B ≤ b) (hmap : ∃ es c, W.heap[b]? = some (.map es c)) : J pre W' := by
  refine hJ pre W W' (some b) h ⟨hm.os, hm.tape, hm.output, hm.size, fun k hk hne => hm.block k hk fun e => hne (by rw [e])⟩ fun r e => ?_
  injection e with e
  subst e
  obtain ⟨es, c, h1⟩ := hmap
  exact ⟨hB, _, h1, rfl⟩
theorem abides_bel {J : List Int → World → Prop} (hJ : AbidesFrom B J) {pre : List Int} {W W' : World} (h : J pre W) (hb : Below W.heap.size W W') : J pre W' :=
  hJ pre W W' none h ⟨hb.os, hb.tape, hb.output, hb.size, fun k hk _ => hb.block k hk⟩ fun r e => by cases e
set_option maxRecDepth 100000 in
set_option maxHeartbeats 4000000 in
theorem over_in (hJ : AbidesFrom B J) (hB : B ≤ tb) (hne : tb ≠ e0) (hY : YieldOk J Jx e0 ns.length l) (hks : ∀ (i : Nat) x, ns[i]? = some x → x.kids.length ≤ 4398046511103) (hbig : ns.length ≤ 4398046511103) :
    ∀ (f i : Nat), i < f → i < ns.length → ∀ (seen : List Int) (W : World) (m : Nat), SeenOk ns.length seen → RdT W A n c ns → SeenAt W tb seen → (∃ es c, W.heap[e0]? = some (.map es c)) → J seen W →
      CallsIn Fence.wide m Tryd.prog 84 #[.slice A n c, .int .i64 i, .map (some tb), .func (.yield l) #[] #[]] W fun e W' =>
        (e = .returned (.bool true) ∧ J (ovE ns f i seen) W' ∧ SeenAt W' tb (ovE ns f i seen) ∧ StayC W W' ∧ ∃ es c, W'.heap[e0]? = some (.map es c)) ∨ (e = .returned (.bool false) ∧ ∃ pre, Jx pre W')
  | 0, i, hi, _, _, _, _, _, _, _, _, _ => by omega
  | f + 1, i, hf, hi, seen, W, m, hs, hT, hS, hE, hJs => by
    obtain ⟨x, hx⟩ : ∃ x, ns[i]? = some x := ⟨_, List.getElem?_eq_getElem hi⟩
    have hwf : (Lit.int .i64 (i : Int)).wf = true := wf_of (by omega)
    have hlk := hS.look hwf
    have hsl := seen_len _ _ hs
    refine callsIn_any (m := 9) ?_
    have h84 : (Fence.wide).fn 84 := trivial
    have h100 : (Fence.wide).fn 100 := trivial
    refine callsIn_of_wp Tryd.func84 rfl h84 ?_ rfl
    simp only [Tryd.ntmps84, List.size_toArray, List.length_cons, List.length_nil, Nat.reduceAdd, Nat.reduceSub, Array.replicate_succ, Array.replicate_zero, List.push_toArray, List.append_toArray, List.nil_append, List.cons_append]
    by_cases hm : (i : Int) ∈ seen
    · have e : ovE ns (f + 1) i seen = seen := by unfold ovE; rw [if_pos hm]
      have hd : decide ((i : Int) ∈ seen) = true := decide_eq_true hm
      have HF := Lib.hid (And.intro hJs (And.intro hS hE))
      rw [hd] at hlk
      clear hJs hS hE hT hs hx hd
      gi_wp2
      go_ret
      rw [e]
      exact .inl ⟨rfl, HF.out.1, HF.out.2.1, StayC.refl _, HF.out.2.2⟩
    · have hd : decide ((i : Int) ∈ seen) = false := decide_eq_false hm
      rw [hd] at hlk
      have e : ovE ns (f + 1) i seen = (keepK i x.kids).foldl (fun sn k => ovE ns f k.toNat sn) (seen ++ [(i : Int)]) := by
        rw [ovE, if_neg hm]
        unfold kidsAt
        rw [hx]
        rfl
      have hok1 := seen_snoc hs hi hm
      have hl1 := seen_len _ _ hok1
      rw [List.length_append] at hl1
      simp only [List.length_cons, List.length_nil] at hl1
      obtain ⟨W1, hrun, hS1, hm1⟩ := hS.add hwf (by unfold maxLen; omega)
      have hJ1 := abides_mod hJ hJs hm1 hB hS.isMap
      have hE1 : ∃ es c, W1.heap[e0]? = some (.map es c) := by
        obtain ⟨es, c, h1⟩ := hE
        exact ⟨es, c, (hm1.block e0 (Array.getElem?_eq_some_iff.1 h1).1 (fun e => hne e.symm)).trans h1⟩
      have hst1 := mod_stay hm1 hS.isMap
      obtain ⟨fn, tmps, assign, body, hy, hR2⟩ := hY seen i W1 hJ1 (by omega) (by omega) (by omega) 8
      have HX := Lib.hid hx
      have HKS := Lib.hid (hks i x hx)
      have HOK := Lib.hid hok1
      have HT1 := Lib.hid (hT.stay hst1)
      have HS1 := Lib.hid hS1
      have HST1 := Lib.hid hst1
      have HE1 := Lib.hid hE1
      have HE := Lib.hid e
      have HJ := Lib.hid hJ
      have HY := Lib.hid hY
      have HKA := Lib.hid hks
      have hpos : ∀ k ∈ keepK i x.kids, 0 ≤ k ∧ k < (i : Int) := fun k hk => keepK_mem hk
      have HPOS := Lib.hid hpos
      clear hx hok1 hT hS1 hst1 hE1 hE hJ1 hJ hY hks e hS hm1 hd hs hJs hpos hm
      gi_wp2
      refine hR2.mono ?_
      rintro e' W2 (⟨rfl, hJ2, hk2⟩ | ⟨rfl, hJx2⟩)
      · have HT2 := Lib.hid (HT1.out.stay (hk2.stay HE1.out))
        have hS2 : SeenAt W2 tb (seen ++ [(i : Int)]) := by
          obtain ⟨es, c, hmm⟩ := HS1.out.isMap
          exact HS1.out.keep ((hk2.same tb _ hmm hne (.inr rfl)).trans hmm.symm)
        have HS2 := Lib.hid hS2
        have HE2 := Lib.hid (hk2.map HE1.out)
        have HST2 := Lib.hid (HST1.out.trans (hk2.stay HE1.out))
        have HJ2 := Lib.hid hJ2
        clear hS2 hk2 hJ2 hy hrun hlk
        gi_wp2_with fail
        refine (callsIn_wide.2 (kidsT_any HT2.out HX.out HKS.out)).mono ?_
        rintro e W3 ⟨v, rfl, ho3, hb3, hv3⟩
        obtain ⟨A3, c3, rfl, hr3, -⟩ := Own.rd ho3
        have HR3 := Lib.hid hr3
        have hkl := hr3.le
        have HB3 := Lib.hid hb3
        clear ho3 hb3 hv3 hr3
        gi_wp2_with fail
        have HJ3 := Lib.hid (abides_bel HJ.out HJ2.out HB3.out)
        have HS3 := Lib.hid (HS2.out.keep (HB3.out.block _ HS2.out.lt))
        have HE3 : Hid (∃ es c, W3.heap[e0]? = some (.map es c)) := Lib.hid (by
          obtain ⟨es, c, h1⟩ := HE2.out
          exact ⟨es, c, (HB3.out.block e0 (Array.getElem?_eq_some_iff.1 h1).1).trans h1⟩)
        have HT3 := Lib.hid (HT2.out.stay (StayC.bel HB3.out))
        have HST3 := Lib.hid (HST2.out.trans (StayC.bel HB3.out))
        generalize keepK i x.kids = K at *
        gi_loopw [24] (fun vi wr => ∃ j : Nat, j ≤ K.length ∧ vi = .int .i64 j ∧ Hid (J ((K.take j).foldl (fun sn k => ovE ns f k.toNat sn) (seen ++ [(i : Int)])) wr) ∧ SeenAt wr tb ((K.take j).foldl (fun sn k => ovE ns f k.toNat sn) (seen ++ [(i : Int)])) ∧ StayC W3 wr ∧ ∃ es c, wr.heap[e0]? = some (.map es c)) (fun vi _ => K.length - (intOf vi).toNat)
        case atStart => exact ⟨0, Nat.zero_le _, rfl, HJ3, HS3.out, StayC.refl _, HE3.out⟩
        case round =>
          obtain ⟨j, hj, rfl, HJr, hSr, hstr, hEr⟩ := hrel
          have HSR := Lib.hid hSr
          have HSTR := Lib.hid hstr
          have HER := Lib.hid hEr
          clear hSr hEr
          by_cases hlt : j < K.length
          · obtain ⟨b4, o4, rfl, hb4, hc4⟩ := (HR3.out.stay hstr).2.2.2 (by omega)
            obtain ⟨k, hk⟩ : ∃ k, K[j]? = some k := ⟨_, List.getElem?_eq_getElem hlt⟩
            obtain ⟨h0, h1⟩ := HPOS.out k (List.mem_of_getElem? hk)
            obtain ⟨q, rfl⟩ : ∃ q : Nat, k = q := ⟨k.toNat, by omega⟩
            have hce : wr.cell? ⟨b4, o4 + j, none⟩ = some (.int .i64 q) := hc4 j _ (by rw [ics, List.getElem?_map, hk]; rfl)
            have hst : (K.take (j + 1)).foldl (fun sn k => ovE ns f k.toNat sn) (seen ++ [(i : Int)]) = ovE ns f q ((K.take j).foldl (fun sn k => ovE ns f k.toNat sn) (seen ++ [(i : Int)])) := by
              rw [List.take_add_one, hk, List.foldl_append]
              rfl
            have hok : SeenOk ns.length ((K.take j).foldl (fun sn k => ovE ns f k.toNat sn) (seen ++ [(i : Int)])) := fold_ok hi (fun k sn hk hs => ovE_ok f k sn hk hs) _ _ (fun k hk => HPOS.out k (List.mem_of_mem_take hk)) HOK.out
            generalize (K.take j).foldl (fun sn k => ovE ns f k.toNat sn) (seen ++ [(i : Int)]) = sj at *
            have KC := Lib.hid (over_in HJ.out hB hne HY.out HKA.out hbig f q (by omega) (by omega) sj wr 8 hok (HT3.out.stay hstr) HSR.out HER.out HJr.out)
            have HST := Lib.hid hst
            clear hst hok hc4 hk hstr
            gi_wp2_with fail
            refine (callsIn_any KC.out).mono ?_
            rintro e W4 (⟨rfl, hJ4, hS4, hst4, hE4⟩ | ⟨rfl, pre, hJx⟩)
            · have HJ4 := Lib.hid hJ4
              have HS4 := Lib.hid hS4
              have HST4 := Lib.hid hst4
              have HE4 := Lib.hid hE4
              clear hJ4 hS4 hst4 hE4
              gi_wp2
              go_roundw
              case rel => exact ⟨j + 1, by omega, by go_num, Lib.hid (by rw [HST.out]; exact HJ4.out), by rw [HST.out]; exact HS4.out, HSTR.out.trans HST4.out, HE4.out⟩
              case measure => simp [intOf]; omega
            · have HJX := Lib.hid hJx
              clear hJx
              gi_wp2
              go_ret
              exact .inr ⟨rfl, pre, HJX.out⟩
          · obtain rfl : j = K.length := by omega
            clear hstr
            gi_wp2
            go_ret
            have e1 := HE.out
            rw [e1]
            have e2 : K.take K.length = K := List.take_of_length_le (Nat.le_refl _)
            have hj := HJr.out
            have hs := HSR.out
            rw [e2] at hj hs
            exact .inl ⟨rfl, hj, hs, HST3.out.trans HSTR.out, HER.out⟩
      · have HJX := Lib.hid hJx2
        clear hJx2 hy hrun hlk
        gi_wp2
        go_ret
        exact .inr ⟨rfl, _, HJX.out⟩
end

set_option maxRecDepth 100000 in
set_option maxHeartbeats 4000000 in
theorem all_any (A : Option Addr) (n c i : Nat) (w : World) : Calls Tryd.prog 56 #[.slice A n c, .int .i64 i] w fun e w' => e = .returned (.func (.func 82) #[] #[.pointer (some ⟨w.heap.size, 0, none⟩), .pointer (some ⟨w.heap.size + 1, 0, none⟩)]) ∧ w' = (w.alloc (.cells #[.slice A n c] 25)).alloc (.cells #[.int .i64 i] 3) := by
  go_enter Tryd.func56, Tryd.ntmps56
  go_wp2_with fail
  go_ret
  exact ⟨rfl, rfl⟩
/-- a node's number -/
abbrev Num (N : Nat) := { x : Int // 0 ≤ x ∧ x < (N : Int) }
set_option maxRecDepth 100000 in
set_option maxHeartbeats 4000000 in
theorem all_stops {ns : List NodeD} {A : Option Addr} {n c e0 p2 p3 i : Nat} {w : World} (m : Nat) (hi : i < ns.length) (hks : ∀ (i : Nat) x, ns[i]? = some x → x.kids.length ≤ 4398046511103) (hbig : ns.length ≤ 4398046511103)
    (h2 : Blk w p2 25 #[.slice A n c]) (h3 : Blk w p3 3 #[.int .i64 i]) (hT : RdT w A n c ns) (hE : ∃ es c, w.heap[e0]? = some (.map es c)) :
    SeqStopsK Fence.wide m Tryd.prog 82 #[.pointer (some ⟨p2, 0, none⟩), .pointer (some ⟨p3, 0, none⟩)] (fun x : Num ns.length => #[Value.int .i64 x.1]) (KeepsCW e0) (fun xs => xs.map (·.1) = ovE ns (i + 1) i []) (fun _ => True) ns.length w := by
  intro l J Jx W hW hJ hJx hY h0
  have hY' : YieldOk (fun l W => ∃ la : List (Num ns.length), la.map (·.1) = l ∧ J la W) (fun l W => ∃ la : List (Num ns.length), la.map (·.1) = l ∧ Jx la W) e0 ns.length l := by
    rintro pre x W1 ⟨la, hla, hj⟩ hl h0 h1 k
    obtain ⟨fn, tmps, assign, body, hy, hR⟩ := hY la ⟨x, h0, h1⟩ W1 hj (by rw [← hla, List.length_map] at hl; exact hl)
    refine ⟨fn, tmps, assign, body, hy, RoundIn.mono ⟨hR.1, fun c cs _ => hR.2 c cs (room_wide _)⟩ ?_⟩
    rintro e W' (⟨rfl, h2, h3⟩ | ⟨rfl, h2⟩)
    · exact .inl ⟨rfl, ⟨_, by rw [List.map_append, hla]; rfl, h2⟩, h3⟩
    · exact .inr ⟨rfl, ⟨_, by rw [List.map_append, hla]; rfl, h2⟩⟩
  have hJ' : AbidesFrom W.heap.size (fun l W => ∃ la : List (Num ns.length), la.map (·.1) = l ∧ J la W) := by
    rintro l A B row ⟨la, e, hj⟩ hg hr
    exact ⟨la, e, hJ la A B row hj hg hr⟩
  replace h0 : ∃ la : List (Num ns.length), la.map (·.1) = ([] : List Int) ∧ J la W := ⟨[], rfl, h0⟩
  have hnl := hT.len
  have c2 : W.cell? ⟨p2, 0, none⟩ = some (.slice A n c) := (hW.cell (p := ⟨p2, 0, none⟩) h2.lt).trans (h2.cell 0)
  have c3 : W.cell? ⟨p3, 0, none⟩ = some (.int .i64 i) := (hW.cell (p := ⟨p3, 0, none⟩) h3.lt).trans (h3.cell 0)
  have hl2 : p2 < W.heap.size := Nat.lt_of_lt_of_le h2.lt hW.size
  have hl3 : p3 < W.heap.size := Nat.lt_of_lt_of_le h3.lt hW.size
  have hmk := run_makeMap (P := Tryd.prog) 100 W
  have hbW : Below W.heap.size W (W.alloc (.map #[] 0)) := (by repeat (first | exact Below.refl _ _ | assumption | refine Below.setCell ?_ (by first | (simp; done) | (simp; omega) | omega) _ | refine below_drewN ?_ _ | refine Below.drew ?_ | refine Below.alloc ?_ (by first | (simp; done) | (simp; omega) | omega) _))
  obtain ⟨es0, cl0, hE0⟩ := hE
  have hElt := (Array.getElem?_eq_some_iff.1 hE0).1
  have hs := hW.size
  have K := Lib.hid (over_in (B := W.heap.size) (tb := W.heap.size) hJ' (Nat.le_refl _) (by omega) hY' hks hbig (i + 1) i (by omega) hi [] (W.alloc (.map #[] 0)) 8 ⟨by simp, fun x hx => by cases hx⟩
    ((hT.stay (StayC.bel hW)).stay (StayC.bel hbW)) (by have := BSet.made W; simpa [SeenAt] using this) ⟨es0, cl0, (hbW.block e0 (by omega)).trans ((hW.block e0 hElt).trans hE0)⟩ (abides_bel hJ' h0 hbW))
  have d0 : decide (0 ≤ (i : Int)) = true := decide_eq_true (by omega)
  have d1 : decide ((i : Int) < (n : Int)) = true := decide_eq_true (by omega)
  clear h2 h3 hT hW hJ hJx hY hY' hJ' h0 hks hbig hbW hE0
  refine callsIn_any (m := 9) ?_
  have h82 : (Fence.wide).fn 82 := trivial
  have h83 : (Fence.wide).fn 83 := trivial
  have h84 : (Fence.wide).fn 84 := trivial
  refine callsIn_of_wp Tryd.func82 rfl h82 ?_ rfl
  simp only [Tryd.ntmps82, List.size_toArray, List.length_cons, List.length_nil, Nat.reduceAdd, Nat.reduceSub, Array.replicate_succ, Array.replicate_zero, List.push_toArray, List.append_toArray, List.nil_append, List.cons_append]
  gi_wp2_with fail
  refine (callsIn_wide.2 (isT_any A n c i W (by omega))).mono ?_
  rintro e W1 ⟨rfl, rfl⟩
  gi_wp2_with fail
  refine (callsIn_any K.out).mono ?_
  rintro e W4 (⟨rfl, ⟨la, hla, hJ4⟩, -, -, -⟩ | ⟨rfl, pre, la, hla, hJx⟩)
  · have HJ := Lib.hid hJ4
    clear hJ4
    gi_wp2
    go_end0
    exact ⟨⟨_, rfl⟩, .inl ⟨_, hla, HJ.out⟩⟩
  · have HJ := Lib.hid hJx
    clear hJx
    gi_wp2
    go_end0
    exact ⟨⟨_, rfl⟩, .inr ⟨_, trivial, HJ.out⟩⟩

/-- numbers, and nodes so far -/
def treeN (ns : List NodeD) (seen : List Int) : Nat → List Int × List NodeD
  | 0 => (List.replicate ns.length 0, [])
  | j + 1 => match ns[j]? with
    | none => treeN ns seen j
    | some x => if (j : Int) ∈ seen then
        ((treeN ns seen j).1.set j (treeN ns seen j).2.length, (treeN ns seen j).2 ++ [{ x with kids := x.kids.map fun k => (((treeN ns seen j).1.set j (treeN ns seen j).2.length)[k.toNat]?).getD 0 }])
      else treeN ns seen j
/-- the nodes that are below the last one, in order, numbered anew -/
def treeOf (ns : List NodeD) : List NodeD := if ns = [] then [] else (treeN ns (ovE ns ns.length (ns.length - 1) []) ns.length).2
theorem treeN_len (ns : List NodeD) (seen : List Int) : ∀ j, (treeN ns seen j).1.length = ns.length
  | 0 => by simp [treeN]
  | j + 1 => by
    unfold treeN
    split
    · exact treeN_len ns seen j
    · split
      · simp only [List.length_set]
        exact treeN_len ns seen j
      · exact treeN_len ns seen j
theorem treeN_out (ns : List NodeD) (seen : List Int) : ∀ j, (treeN ns seen j).2.length ≤ j
  | 0 => by simp [treeN]
  | j + 1 => by
    unfold treeN
    split
    · have := treeN_out ns seen j; omega
    · split
      · simp only [List.length_append, List.length_cons, List.length_nil]
        have := treeN_out ns seen j; omega
      · have := treeN_out ns seen j; omega
theorem run_make_rowN {P : Program} (t e : TypeId) (i : TypeInfo) (z : Value) (ht : P.underlying t = some (.slice e)) (hi : P.info? e = some i) (hz : i.zero = some z)
    (kl kc : IntKind) (n c : Nat) (hnc : n ≤ c) (hbytes : i.bytes * c ≤ 281474976710656) (h63 : c ≤ 9223372036854775807) (w : World) :
    (Instr.makeSlice t (.int kl (n : Int)) (.int kc (c : Int))).run P w = .ok (.slice (some ⟨w.heap.size, 0, none⟩) n c) (w.alloc (.cells (madeCells z.cells (c * i.size)) e)) := by
  have hb : (i.bytes : Int) * (c : Int) ≤ 281474976710656 := by
    have h : ((i.bytes * c : Nat) : Int) ≤ 281474976710656 := by omega
    rwa [Int.natCast_mul] at h
  have hr := run_make (P := P) w t e i z ht hi hz kl kc n c (by omega) (by omega) hb (by omega)
  simp only [Int.toNat_natCast] at hr
  exact hr
theorem made_one (z : Value) (n : Nat) : madeCells #[z] n = (List.replicate n z).toArray := by
  apply Array.toList_inj.1
  rw [toList_madeCells_one]
theorem make_I (n : Nat) (hn : n ≤ 8796093022208) (w : World) : (Instr.makeSlice 22 (.int .i64 (n : Int)) (.int .i64 (n : Int))).run Tryd.prog w = .ok (.slice (some ⟨w.heap.size, 0, none⟩) n n) (w.alloc (.cells (List.replicate n (.int .i64 0)).toArray 3)) := by
  obtain ⟨i0, hi, hz0, hz1, hz2⟩ := info_parts info_Int
  have := run_make_rowN (P := Tryd.prog) 22 3 i0 _ Tryd.underlying22 hi hz0 .i64 .i64 n n (Nat.le_refl _) (by rw [hz2]; omega) (by omega) w
  rw [hz1, Nat.mul_one] at this
  rw [← made_one]
  exact this
theorem row_own {w : World} {B : Nat} {t : TypeId} {sz n : Nat} {v : Value} {cs : List Value} (h : w.ownsRow B t sz v n cs) : Own w t sz v n cs := ⟨h.1, h.2.imp id fun ⟨g, cap, cur, e, _, hg, hn, hc, hs, ht⟩ => ⟨g, cap, cur, e, hg, hn, by simp only [maxLen] at hc; omega, Nat.le_of_eq hs.symm, ht⟩⟩
theorem row_base {w : World} {B : Nat} {t : TypeId} {sz n : Nat} {v : Value} {cs : List Value} (h : w.ownsRow B t sz v n cs) {b : Nat} (e : v.ownBlock = some b) : B ≤ b := by
  rcases h.2 with ⟨rfl, _⟩ | ⟨g, cap, cur, rfl, hb, _⟩
  · cases e
  · obtain rfl : g = b := by simpa [Value.ownBlock] using e
    exact hb
/-- slices.Clone of a row of ints -/
theorem clone_any {w : World} {A : Option Addr} {k c : Nat} {kids : List Int} (h : Rd w A k c 1 (ics kids)) (hk : kids.length = k) (hb : k ≤ 4398046511103) :
    Calls Tryd.prog 57 #[.slice A k c] w fun e w' => ∃ v, e = .returned v ∧ OwnI w' v kids ∧ Below w.heap.size w w' ∧ ∀ g, v.ownBlock = some g → w.heap.size ≤ g := by
  cases A with
  | none =>
    have h0 : k = 0 := by
      rcases Nat.eq_zero_or_pos k with h1 | h1
      · exact h1
      · obtain ⟨b, o, e, _⟩ := h.2.2.2 h1
        cases e
    subst h0
    obtain rfl : kids = [] := List.eq_nil_of_length_eq_zero hk
    refine (Tryd.slices_Clone_int_nil 0 c w).mono ?_
    rintro e w' ⟨rfl, rfl⟩
    exact ⟨_, rfl, OwnI.nil_ _, Below.refl _ _, fun g e => by cases e⟩
  | some a =>
    rcases Nat.eq_zero_or_pos k with h0 | h0
    · subst h0
      obtain rfl : kids = [] := List.eq_nil_of_length_eq_zero hk
      refine (Tryd.slices_Clone_int_zero a c w).mono ?_
      rintro e w' ⟨v, rfl, ho, _, hb⟩
      exact ⟨v, rfl, row_own ho, hb, fun g e => row_base ho e⟩
    · obtain ⟨b, o, e, hlt, hc⟩ := h.2.2.2 h0
      injection e with e
      subst e
      refine (Tryd.slices_Clone_int b o k c kids w (by omega) (by omega) fun j hj => hc j _ ?_).mono ?_
      · rw [ics, List.getElem?_map, List.getElem?_eq_getElem hj]
        simp [hj]
      · rintro e w' ⟨v, rfl, ho, _, hb⟩
        rw [List.take_of_length_le (by omega)] at ho
        refine ⟨v, rfl, ?_, hb, fun g e => row_base ho e⟩
        unfold OwnI
        rw [hk]
        exact row_own ho
section
variable {ops : Array Oper} {rest : List Oper} {o : Oper} {a : Act} {Q : Exit → Act → World → Prop}
theorem wpList_appendNode (w : World) (hgd : o.guard = none) (s x : Operand) (ho : o.op = .call { callee := .builtin .append, args := #[s, x], argTypes := #[25, 25] })
    (v : Value) (Z : List NdS) (hs : a.eval s = v) (hown : Own w 51 5 v Z.length (Z.flatMap NdS.cs)) (A : Option Addr) (c : Nat) (z : NdS) (hx : a.eval x = .slice A 1 c) (hr : Rd w A 1 c 5 z.cs) (hbound : Z.length + 1 ≤ 1099511627776)
    (h : ∀ v' w', Own w' 51 5 v' (Z ++ [z]).length ((Z ++ [z]).flatMap NdS.cs) → w.grownBy w' v.ownBlock → (v'.ownBlock = v.ownBlock ∨ v'.ownBlock = some w.heap.size) → wpList Tryd.prog ops Q rest (a.put o.dst v') w') :
    wpList Tryd.prog ops Q (o :: rest) a w := by
  obtain ⟨i0, hi, hz0, hz1, hz2⟩ := info_parts info_Node
  refine wpList_append_Own w hgd s x _ ho _ i0 _ 5 64 Tryd.underlying25 hi hz0 hz1 hz2 rfl v Z.length (Z.flatMap NdS.cs) hs hown A 1 c z.cs hx hr ?_ (by omega) (by omega) (fun v' w' h1 h2 h3 => h v' w' ?_ h2 h3)
  · intro u hu
    simp only [NdS.cs, NdS.v, List.mem_cons, List.not_mem_nil, or_false] at hu
    rcases hu with rfl | rfl | rfl | rfl | rfl <;> rfl
  · rw [List.length_append, List.flatMap_append, List.flatMap_singleton]
    exact h1
end

end Go.Proofs.YtjdcicopjipmnaaDoor
