/- Rows of nodes that are copied, and whose places are set. -/
import Derived.Test.YtjdcicopjipmnaaDoorPlq
namespace Go.Proofs.YtjdcicopjipmnaaDoor
open Go.RowKit
set_option linter.unusedVariables false
set_option linter.unusedSimpArgs false
theorem zcs_one (Z : List NdS) : ∀ u ∈ Z.flatMap NdS.cs, u.oneCell' = true := by
  intro u hu
  obtain ⟨z, _, hz⟩ := List.mem_flatMap.1 hu
  simp only [NdS.cs, NdS.v, List.mem_cons, List.not_mem_nil, or_false] at hz
  rcases hz with rfl | rfl | rfl | rfl | rfl <;> rfl
/-- the value owns a row of nodes -/
def OwnZ (w : World) (v : Value) (Z : List NdS) : Prop := Own w 51 5 v Z.length (Z.flatMap NdS.cs)
theorem wpList_appendZ {ops : Array Oper} {rest : List Oper} {o : Oper} {a : Act} {Q : Exit → Act → World → Prop} (w : World) (hgd : o.guard = none) (s x : Operand) (ho : o.op = .call { callee := .builtin .append, args := #[s, x], argTypes := #[25, 25] })
    (v : Value) (Z : List NdS) (hs : a.eval s = v) (hown : OwnZ w v Z) (A : Option Addr) (m c : Nat) (Y : List NdS) (hx : a.eval x = .slice A m c) (hr : Rd w A m c 5 (Y.flatMap NdS.cs)) (hm : Y.length = m) (hbound : Z.length + m ≤ 1099511627776)
    (h : ∀ v' w', OwnZ w' v' (Z ++ Y) → w.grownBy w' v.ownBlock → (v'.ownBlock = v.ownBlock ∨ v'.ownBlock = some w.heap.size) → wpList Tryd.prog ops Q rest (a.put o.dst v') w') :
    wpList Tryd.prog ops Q (o :: rest) a w := by
  obtain ⟨i0, hi, hz0, hz1, hz2⟩ := info_parts info_Node
  refine wpList_append_Own w hgd s x _ ho _ i0 _ 5 64 Tryd.underlying25 hi hz0 hz1 hz2 rfl v Z.length (Z.flatMap NdS.cs) hs hown A m c (Y.flatMap NdS.cs) hx hr (zcs_one Y) (by omega) (by omega) (fun v' w' h1 h2 h3 => h v' w' ?_ h2 h3)
  unfold OwnZ
  rw [List.length_append, List.flatMap_append, hm]
  exact h1
def setZ (u : Int) (z : NdS) : NdS := { z with x := { z.x with at_ := u } }
theorem zflat_set : ∀ (M : List NdS) (i : Nat) (z : NdS) (u : Int), M[i]? = some z → (M.flatMap NdS.cs).set (i * 5 + 1) (.int .i64 u) = (M.set i (setZ u z)).flatMap NdS.cs
  | [], i, t, u, h => by cases h
  | x :: M, 0, t, u, h => by
    obtain rfl := Option.some.inj h
    rfl
  | x :: M, i + 1, t, u, h => by
    have h4 : (NdS.cs x).length = 5 := rfl
    rw [List.flatMap_cons, List.set_append_right _ _ (by omega), h4, show (i + 1) * 5 + 1 - 5 = i * 5 + 1 from by omega, zflat_set M i t u h, List.set_cons_succ, List.flatMap_cons]
theorem OwnZ.at0 {w : World} {A : Option Addr} {n c : Nat} {Z : List NdS} (h : OwnZ w (.slice A n c) Z) (hn : 0 < n) : ∃ b, A = some ⟨b, 0, none⟩ ∧ (∃ cur, Blk w b 51 cur) := by
  rcases h.2 with ⟨e, hz⟩ | ⟨g, c', cur, e, hg, _⟩
  · injection e with e1 e2 e3
    omega
  · injection e with e1 e2 e3
    exact ⟨g, e1, cur, hg⟩
/-- a node's place is set -/
theorem OwnZ.set_ {w : World} {b n c i : Nat} {Z : List NdS} {z : NdS} (h : OwnZ w (.slice (some ⟨b, 0, none⟩) n c) Z) (hn : Z.length = n) (hi : Z[i]? = some z) (u : Int) :
    w.cell? ⟨b, i * 5 + 1, none⟩ = some (.int .i64 z.x.at_) ∧ w.frozen? ⟨b, i * 5 + 1, none⟩ = false ∧ OwnZ (w.setCell ⟨b, i * 5 + 1, none⟩ (.int .i64 u)) (.slice (some ⟨b, 0, none⟩) n c) (Z.set i (setZ u z)) := by
  subst hn
  have hlt := (List.getElem?_eq_some_iff.1 hi).1
  obtain ⟨h1, h2, h3⟩ := Own.set_ (j := i * 5 + 1) h (by omega) (.int .i64 u)
  refine ⟨?_, h2, ?_⟩
  · rw [h1]
    exact zflat_at hi 1 _ rfl
  · unfold OwnZ
    rw [List.length_set, ← zflat_set Z i z u hi]
    exact h3
theorem OwnZ.rdT {w w0 : World} {A : Option Addr} {n c : Nat} {Z : List NdS} (h : OwnZ w (.slice A n c) Z) (hn : Z.length = n) (hk : ∀ z ∈ Z, Rd w0 z.A z.x.kids.length z.c 1 (ics z.x.kids)) (hb : Below w0.heap.size w0 w) : RdT w A n c (Z.map (·.x)) := by
  obtain ⟨A', c', e, hr, _⟩ := Own.rd h
  injection e with e1 e2 e3
  subst e1 e3 hn
  exact ⟨Z, rfl, rfl, hr, fun z hz => (hk z hz).bel hb⟩
/-- all are set: it is as it was -/
theorem back_same {Z : List NdS} {T : List NodeD} (by_ : Int) (hZ : Z.map (·.x) = T.map (shN (movI by_))) (hT : ∀ x ∈ T, -9223372036854775808 ≤ x.at_ ∧ x.at_ ≤ 9223372036854775807) : (Z.map fun z => setZ (wrap64 (z.x.at_ - by_)) z).map (·.x) = T := by
  have e : ((Z.map fun z => setZ (wrap64 (z.x.at_ - by_)) z).map (·.x)) = (Z.map (·.x)).map (shN fun a => wrap64 (a - by_)) := by
    rw [List.map_map, List.map_map]
    rfl
  rw [e, hZ, List.map_map]
  conv => rhs; rw [← List.map_id T]
  refine List.map_congr_left fun x hx => ?_
  show ({ x with at_ := wrap64 (movI by_ x.at_ - by_) } : NodeD) = x
  rw [mov_back by_ x.at_ (hT x hx)]
theorem RowN.rdm {F : Nat → Prop} {w : World} {A : Option Addr} {m c : Nat} {ns : List NodeD} (h : RowN F w (.slice A m c) ns) : RdT w A m c ns := by
  obtain ⟨A', c', e, hr⟩ := h.rdT
  injection e with e1 e2 e3
  subst e1 e3
  rw [← e2] at hr
  exact hr
theorem OwnZ.back {w w0 : World} {A : Option Addr} {n c : Nat} {Z : List NdS} {f : NdS → Int} (h : OwnZ w (.slice A n c) (Z.map fun z => setZ (f z) z)) (hn : (Z.map fun z => setZ (f z) z).length = n) (hk : ∀ z ∈ Z, Rd w0 z.A z.x.kids.length z.c 1 (ics z.x.kids)) (hb : Below w0.heap.size w0 w) : RdT w A n c ((Z.map fun z => setZ (f z) z).map (·.x)) :=
  h.rdT hn (fun z hz => by
    obtain ⟨y, hy, rfl⟩ := List.mem_map.1 hz
    exact hk y hy) hb
end Go.Proofs.YtjdcicopjipmnaaDoor
