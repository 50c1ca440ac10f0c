/- A tree of which all nodes are below the last one is left as it is. -/
import Derived.Test.YtjdcicopjipmnaaDoorTrp
import Derived.Test.YtjdcicopjipmnaaDoorRgt
namespace Go.Proofs.YtjdcicopjipmnaaDoor
set_option linter.unusedVariables false
set_option linter.unusedSimpArgs false
theorem kidsAt_ok {ns : List NodeD} (hk : KidsOk ns) (i : Nat) : ∀ k ∈ kidsAt ns i, 0 ≤ k ∧ k < (i : Int) := by
  intro k h
  unfold kidsAt at h
  cases hx : ns[i]? with
  | none => rw [hx] at h; cases h
  | some x => rw [hx] at h; exact hk i x hx k h
theorem keepK_all {i : Nat} {kids : List Int} (h : ∀ k ∈ kids, 0 ≤ k ∧ k < (i : Int)) : keepK i kids = kids := List.filter_eq_self.2 fun k hk => decide_eq_true (h k hk)
/-- what is seen anew has its kids seen -/
def ClosedIn (ns : List NodeD) (seen R : List Int) : Prop := (∀ x ∈ seen, x ∈ R) ∧ ∀ j : Nat, (j : Int) ∈ R → (j : Int) ∉ seen → ∀ k ∈ kidsAt ns j, k ∈ R
theorem fold_closed {ns : List NodeD} {f i : Nat} (ih : ∀ (k : Nat) (seen : List Int), k < f → ClosedIn ns seen (ovE ns f k seen) ∧ (k : Int) ∈ ovE ns f k seen) : ∀ (l : List Int) (seen : List Int), (∀ k ∈ l, 0 ≤ k ∧ k < (f : Int)) → ClosedIn ns seen (l.foldl (fun sn k => ovE ns f k.toNat sn) seen) ∧ ∀ k ∈ l, k ∈ l.foldl (fun sn k => ovE ns f k.toNat sn) seen
  | [], seen, h => ⟨⟨fun x hx => hx, fun j h1 h2 => absurd h1 h2⟩, fun k hk => by cases hk⟩
  | k :: l, seen, h => by
    simp only [List.foldl_cons]
    have hk := h k (.head _)
    obtain ⟨⟨a1, a2⟩, a3⟩ := ih k.toNat seen (by omega)
    obtain ⟨⟨b1, b2⟩, b3⟩ := fold_closed (i := i) ih l (ovE ns f k.toNat seen) (fun k hk => h k (.tail _ hk))
    rw [Int.toNat_of_nonneg hk.1] at a3
    refine ⟨⟨fun x hx => b1 x (a1 x hx), fun j h1 h2 q hq => ?_⟩, fun q hq => ?_⟩
    · by_cases h3 : (j : Int) ∈ ovE ns f k.toNat seen
      · exact b1 q (a2 j h3 h2 q hq)
      · exact b2 j h1 h3 q hq
    · rcases List.mem_cons.1 hq with rfl | hq
      · exact b1 _ a3
      · exact b3 q hq
theorem ovE_closed {ns : List NodeD} (hk : KidsOk ns) : ∀ (f i : Nat) (seen : List Int), i < f → ClosedIn ns seen (ovE ns f i seen) ∧ (i : Int) ∈ ovE ns f i seen
  | 0, i, seen, h => by omega
  | f + 1, i, seen, h => by
    unfold ovE
    split
    · rename_i hm
      exact ⟨⟨fun x hx => hx, fun j h1 h2 => absurd h1 h2⟩, hm⟩
    · rename_i hm
      have hko := kidsAt_ok hk i
      rw [keepK_all hko]
      obtain ⟨⟨a1, a2⟩, a3⟩ := fold_closed (i := i) (ns := ns) (f := f) (fun k seen hkf => ovE_closed hk f k seen hkf) (kidsAt ns i) (seen ++ [(i : Int)]) (fun k hk2 => by have := hko k hk2; omega)
      refine ⟨⟨fun x hx => a1 x (List.mem_append_left _ hx), fun j h1 h2 => ?_⟩, a1 _ (by simp)⟩
      by_cases hj : j = i
      · subst hj
        exact a3
      · exact a2 j h1 (by simp only [List.mem_append, List.mem_singleton, not_or]; exact ⟨h2, by omega⟩)
theorem treeN_all {ns : List NodeD} (hk : KidsOk ns) {seen : List Int} (hs : ∀ i : Nat, i < ns.length → (i : Int) ∈ seen) : ∀ j, j ≤ ns.length → (treeN ns seen j).2 = ns.take j ∧ ∀ k : Nat, k < j → (treeN ns seen j).1[k]? = some (k : Int)
  | 0, h => ⟨by simp [treeN], fun k hk => by omega⟩
  | j + 1, h => by
    obtain ⟨h1, h2⟩ := treeN_all hk hs j (by omega)
    have hx : ns[j]? = some ns[j] := List.getElem?_eq_getElem (by omega)
    have hl := treeN_len ns seen j
    unfold treeN
    rw [hx]
    simp only
    rw [if_pos (hs j (by omega)), h1]
    have hlen : (ns.take j).length = j := by rw [List.length_take]; omega
    rw [hlen]
    have h3 : ∀ k : Nat, k < j + 1 → ((treeN ns seen j).1.set j (j : Int))[k]? = some (k : Int) := fun k hk => by
      by_cases e : k = j
      · subst e
        rw [List.getElem?_set_self (by rw [hl]; omega)]
      · rw [List.getElem?_set_ne (by omega)]
        exact h2 k (by omega)
    refine ⟨?_, h3⟩
    have h4 : (ns[j].kids.map fun k => (((treeN ns seen j).1.set j (j : Int))[k.toNat]?).getD 0) = ns[j].kids := by
      conv => rhs; rw [← List.map_id ns[j].kids]
      refine List.map_congr_left fun k hkk => ?_
      have := hk j _ hx k hkk
      rw [h3 k.toNat (by omega)]
      simp only [Option.getD_some, id_eq]
      omega
    simp only
    rw [h4, List.take_add_one, hx]
    rfl
/-- all nodes but the last one are kids -/
theorem treeOf_same {ns : List NodeD} (hk : KidsOk ns) (hu : ∀ i : Nat, i + 1 < ns.length → (i : Int) ∈ kidsAll ns) : treeOf ns = ns := by
  unfold treeOf
  split
  · rename_i h; exact h.symm
  · rename_i h
    have hpos : 0 < ns.length := List.length_pos_iff.2 h
    obtain ⟨⟨_, c2⟩, c3⟩ := ovE_closed hk ns.length (ns.length - 1) [] (by omega)
    have hall : ∀ d i : Nat, i + d + 1 = ns.length → (i : Int) ∈ ovE ns ns.length (ns.length - 1) [] := by
      intro d
      induction d using Nat.strongRecOn with
      | _ d ih =>
        intro i hi
        by_cases hd : d = 0
        · obtain rfl : i = ns.length - 1 := by omega
          exact c3
        · have h1 := hu i (by omega)
          obtain ⟨x, hx, hxk⟩ := List.mem_flatMap.1 h1
          obtain ⟨j, hj⟩ := List.getElem?_of_mem hx
          have h2 := hk j x hj _ hxk
          have h3 := (List.getElem?_eq_some_iff.1 hj).1
          exact c2 j (ih (ns.length - 1 - j) (by omega) j (by omega)) (by simp) _ (by unfold kidsAt; rw [hj]; exact hxk)
    have := (treeN_all hk (seen := ovE ns ns.length (ns.length - 1) []) (fun i hi => hall (ns.length - 1 - i) i (by omega)) ns.length (Nat.le_refl _)).1
    rw [this, List.take_length]
section
variable {L : List TokD} {n : Nat} {s : PS} {x : Int}
theorem BkN.kidsOk {P : List Int} (h : BkN L n s P) : KidsOk s.ns := fun i x hx k hk => (h.node i x hx).kids k hk
theorem BkN.last (h : BkN L n s [x]) : ∃ k : Nat, x = k ∧ k + 1 = s.ns.length := by
  obtain ⟨k, rfl, hk⟩ := h.ok (.head _)
  refine ⟨k, rfl, ?_⟩
  have h1 := h.use (s.ns.length - 1)
  rw [if_pos (by omega)] at h1
  by_cases e : k + 1 = s.ns.length
  · exact e
  · exfalso
    rw [List.count_cons_of_ne (by omega), List.count_nil] at h1
    have h2 : ((s.ns.length - 1 : Nat) : Int) ∈ kidsAll s.ns := List.count_pos_iff.1 (by omega)
    obtain ⟨y, hy, hyk⟩ := List.mem_flatMap.1 h2
    obtain ⟨j, hj⟩ := List.getElem?_of_mem hy
    have h3 := (h.node j y hj).kids _ hyk
    have h4 := (List.getElem?_eq_some_iff.1 hj).1
    omega
theorem BkN.tree (h : BkN L n s [x]) : treeOf s.ns = s.ns := by
  obtain ⟨k, rfl, hk⟩ := h.last
  refine treeOf_same h.kidsOk fun i hi => List.count_pos_iff.1 ?_
  have h1 := h.use i
  rw [if_pos (by omega), List.count_cons_of_ne (by omega), List.count_nil] at h1
  omega
end
end Go.Proofs.YtjdcicopjipmnaaDoor
