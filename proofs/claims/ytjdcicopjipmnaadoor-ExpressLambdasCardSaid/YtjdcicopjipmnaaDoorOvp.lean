/- What is below a node (plain); a map of numbers. -/
import Derived.Test.YtjdcicopjipmnaaDoorOkd
namespace Go.Proofs.YtjdcicopjipmnaaDoor
open Go.RowKit Go.Maps Go.WideMaps
set_option linter.unusedVariables false
set_option linter.unusedSimpArgs false
def kidsAt (ns : List NodeD) (i : Nat) : List Int := ((ns[i]?).map (·.kids)).getD []
/-- over a node, and what is below it: those that are seen, in order -/
def ovE (ns : List NodeD) : Nat → Nat → List Int → List Int
  | 0, _, seen => seen
  | f + 1, i, seen => if (i : Int) ∈ seen then seen else (keepK i (kidsAt ns i)).foldl (fun sn k => ovE ns f k.toNat sn) (seen ++ [(i : Int)])
/-- different nodes of n -/
def SeenOk (n : Nat) (l : List Int) : Prop := l.Nodup ∧ ∀ x ∈ l, 0 ≤ x ∧ x < (n : Int)
theorem seen_len : ∀ (n : Nat) (l : List Int), SeenOk n l → l.length ≤ n
  | 0, l, h => by
    cases l with
    | nil => simp
    | cons x l => have := h.2 x (by simp); omega
  | n + 1, l, h => by
    by_cases hm : (n : Int) ∈ l
    · have h1 := List.length_erase_of_mem hm
      have h2 : SeenOk n (l.erase (n : Int)) := ⟨h.1.erase _, fun x hx => by
        have h3 := h.2 x (List.mem_of_mem_erase hx)
        have h4 : x ≠ (n : Int) := fun e => by
          rw [e, h.1.mem_erase_iff] at hx
          exact hx.1 rfl
        omega⟩
      have h3 := seen_len n _ h2
      have h4 : 0 < l.length := List.length_pos_of_mem hm
      omega
    · have h2 : SeenOk n l := ⟨h.1, fun x hx => by
        have h3 := h.2 x hx
        have h4 : x ≠ (n : Int) := fun e => hm (e ▸ hx)
        omega⟩
      have := seen_len n l h2
      omega
theorem seen_snoc {n : Nat} {l : List Int} {i : Nat} (h : SeenOk n l) (hi : i < n) (hn : (i : Int) ∉ l) : SeenOk n (l ++ [(i : Int)]) := by
  refine ⟨?_, fun x hx => ?_⟩
  · rw [List.nodup_append]
    exact ⟨h.1, by simp, fun a ha b hb => by rw [List.mem_singleton.1 hb]; rintro rfl; exact hn ha⟩
  · rcases List.mem_append.1 hx with h1 | h1
    · exact h.2 x h1
    · rw [List.mem_singleton.1 h1]; omega
theorem keepK_mem {n : Nat} {kids : List Int} {k : Int} (h : k ∈ keepK n kids) : 0 ≤ k ∧ k < n := by
  unfold keepK at h
  simpa using (List.mem_filter.1 h).2
theorem fold_ok {ns : List NodeD} {f i : Nat} (hi : i < ns.length) (ih : ∀ (k : Nat) (seen : List Int), k < ns.length → SeenOk ns.length seen → SeenOk ns.length (ovE ns f k seen)) : ∀ (l : List Int) (seen : List Int), (∀ k ∈ l, 0 ≤ k ∧ k < (i : Int)) → SeenOk ns.length seen → SeenOk ns.length (l.foldl (fun sn k => ovE ns f k.toNat sn) seen)
  | [], seen, _, h => h
  | k :: l, seen, hl, h => fold_ok hi ih l _ (fun k hk => hl k (.tail _ hk)) (ih _ _ (by have := hl k (.head _); omega) h)
theorem ovE_ok {ns : List NodeD} : ∀ (f i : Nat) (seen : List Int), i < ns.length → SeenOk ns.length seen → SeenOk ns.length (ovE ns f i seen)
  | 0, i, seen, hi, h => h
  | f + 1, i, seen, hi, h => by
    unfold ovE
    split
    · exact h
    · rename_i hn
      exact fold_ok hi (fun k sn hk hs => ovE_ok f k sn hk hs) _ _ (fun k hk => keepK_mem hk) (seen_snoc h hi hn)

/-- block b is a map of at most n numbers -/
def BSet (w : World) (b n : Nat) (f : Int → Bool) : Prop := ∃ D : DataW Unit, w.ownsMap Tryd.prog 3 (plainElem Tryd.prog 4) b n D ∧ ∀ k : Int, (Lit.int .i64 k).wf = true → D.atKey (.int .i64 k) (.lit (.bool false)) = .lit (.bool (f k))
section
variable {w : World} {b n : Nat} {f : Int → Bool}
theorem BSet.lt (h : BSet w b n f) : b < w.heap.size := by
  obtain ⟨D, h, _⟩ := h
  exact h.lt
theorem BSet.isMap (h : BSet w b n f) : ∃ es clock, w.heap[b]? = some (.map es clock) := by
  obtain ⟨D, ⟨es, clock, e, _⟩, _⟩ := h
  exact ⟨es, clock, e⟩
theorem BSet.made (w : World) : BSet (w.alloc (.map #[] 0)) w.heap.size 0 (fun _ => false) := ⟨.map [], World.ownsMap_made w _ _ _, fun x _ => rfl⟩
theorem BSet.keep {w' : World} (h : BSet w b n f) (hb : w'.heap[b]? = w.heap[b]?) : BSet w' b n f := by
  obtain ⟨D, ⟨es, clock, e, h1⟩, h2⟩ := h
  exact ⟨D, ⟨es, clock, hb.trans e, h1⟩, h2⟩
theorem BSet.look (h : BSet w b n f) {k : Int} (hk : (Lit.int .i64 k).wf = true) : (Instr.lookup 100 (.map (some b)) (.int .i64 k) false).run Tryd.prog w = .ok (.bool (f k)) w := by
  obtain ⟨D, ho, hf⟩ := h
  obtain ⟨v, ps, hrun, hv⟩ := ho.lookup keyed3 Tryd.underlying100 (zero4 w) (plainElem_bool Tryd.underlying4 false) (keyOf_int_mk Tryd.underlying3 hk)
  obtain ⟨c, rfl, hc⟩ := plainElem_bool_inv hv
  rw [hrun]
  rw [hf k hk] at hc
  simp only [Prod.mk.injEq, DataW.lit.injEq, Lit.bool.injEq] at hc
  rw [hc.1]
theorem BSet.store (h : BSet w b n f) {k : Int} (hk : (Lit.int .i64 k).wf = true) (hn : n < maxLen) :
    ∃ w', (Instr.mapUpdate 100 (.map (some b)) (.int .i64 k) (.bool true)).run Tryd.prog w = .ok () w' ∧ BSet w' b (n + 1) (fun y => if y = k then true else f y) ∧ Mod (· = b) w w' := by
  obtain ⟨D, ho, hf⟩ := h
  obtain ⟨w', hrun, ho', ht⟩ := ho.store keyed3 Tryd.underlying100 hn (keyOf_int_mk Tryd.underlying3 hk) (plainElem_bool Tryd.underlying4 true)
  refine ⟨w', hrun, ⟨_, ho', fun y hy => ?_⟩, mod_turned ht⟩
  show _ = DataW.lit (Lit.bool (if y = k then true else f y))
  by_cases e : y = k
  · subst e
    rw [if_pos rfl, Maps.atKey_put_same ho.isMap (show WideAt.IsKeyLit (Lit.int .i64 y) from trivial)]
  · rw [if_neg e, Maps.atKey_put_other]
    · exact hf y hy
    · intro h
      exact e (by injection h)
end
/-- the map of those that are seen -/
abbrev SeenAt (w : World) (b : Nat) (l : List Int) : Prop := BSet w b l.length fun x => decide (x ∈ l)
theorem SeenAt.add {w : World} {b : Nat} {l : List Int} (h : SeenAt w b l) {k : Int} (hk : (Lit.int .i64 k).wf = true) (hn : l.length < maxLen) :
    ∃ w', (Instr.mapUpdate 100 (.map (some b)) (.int .i64 k) (.bool true)).run Tryd.prog w = .ok () w' ∧ SeenAt w' b (l ++ [k]) ∧ Mod (· = b) w w' := by
  obtain ⟨w', h1, h2, h3⟩ := BSet.store h hk hn
  refine ⟨w', h1, ?_, h3⟩
  have e : (fun y : Int => if y = k then true else decide (y ∈ l)) = fun y => decide (y ∈ l ++ [k]) := by
    funext y
    by_cases e : y = k
    · simp [e]
    · simp [e]
  rw [e] at h2
  unfold SeenAt
  rw [List.length_append]
  exact h2
end Go.Proofs.YtjdcicopjipmnaaDoor
