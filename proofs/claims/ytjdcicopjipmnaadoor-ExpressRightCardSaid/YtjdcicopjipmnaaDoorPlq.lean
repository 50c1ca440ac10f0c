/- ExpressPlaces in plain words; and rows of tokens and of nodes whose places are set. -/
import Derived.Test.YtjdcicopjipmnaaDoorEql
import Derived.Test.YtjdcicopjipmnaaDoorTid
namespace Go.Proofs.YtjdcicopjipmnaaDoor
open Go.RowKit
set_option linter.unusedVariables false
set_option linter.unusedSimpArgs false
theorem places_plain {L : List TokD} (f : Int → Int) {r : PS × Int} (hr : parsed L = some r) :
    parsed (L.map (shT f)) = some (shS f r.1, r.2) ∧ nodeOf (shS f r.1, r.2) = nodeOf r ∧ usedOf (shS f r.1, r.2) = usedOf r ∧
      (r.1.e = 0 → treeOf r.1.ns = r.1.ns ∧ treeOf (shS f r.1).ns = r.1.ns.map (shN f) ∧ ∀ (i : Nat) (x : NodeD), r.1.ns[i]? = some x → PlaceOk L r.1.at_ x.at_) := by
  have h2 := parsed_sh f hr
  refine ⟨h2, rfl, rfl, fun he => ?_⟩
  have b1 := (parsed_bk hr he).1
  have b2 := (parsed_bk h2 he).1
  exact ⟨b1.tree, b2.tree, fun i x hx => (b1.node i x hx).place⟩
theorem used_ok {r : PS × Int} (he : r.1.e = 0) : usedOf r = (r.1.at_ : Int) := by
  unfold usedOf
  rw [if_neg (fun h => h he)]
/-- moved by so much -/
def movI (by_ : Int) (x : Int) : Int := wrap64 (x + by_)
theorem mov_back (by_ x : Int) (hx : -9223372036854775808 ≤ x ∧ x ≤ 9223372036854775807) : wrap64 (movI by_ x - by_) = x := by
  unfold movI wrap64
  omega
theorem flat_set : ∀ (M : List TokD) (i : Nat) (t : TokD) (u : Int), M[i]? = some t → (M.flatMap tcs).set (i * 4 + 1) (.int .i64 u) = (M.set i { t with at_ := u }).flatMap tcs
  | [], i, t, u, h => by cases h
  | x :: M, 0, t, u, h => by
    obtain rfl := Option.some.inj h
    rfl
  | x :: M, i + 1, t, u, h => by
    have h4 : (tcs x).length = 4 := rfl
    rw [List.flatMap_cons, List.set_append_right _ _ (by omega), h4, show (i + 1) * 4 + 1 - 4 = i * 4 + 1 from by omega, flat_set M i t u h, List.set_cons_succ, List.flatMap_cons]
theorem OwnT.at0 {w : World} {A : Option Addr} {n c : Nat} {L : List TokD} (h : OwnT w (.slice A n c) L) (hn : 0 < n) : ∃ b, A = some ⟨b, 0, none⟩ ∧ (∃ cur, Blk w b 39 cur) := by
  rcases h.2 with ⟨e, hz⟩ | ⟨g, c', cur, e, hg, _⟩
  · injection e with e1 e2 e3
    omega
  · injection e with e1 e2 e3
    exact ⟨g, e1, cur, hg⟩
/-- a token's place is set -/
theorem Hold.setTok {B b n c i : Nat} {w : World} {M : List TokD} {t : TokD} {l : List (Value × Item)} (h : Hold B w ((.slice (some ⟨b, 0, none⟩) n c, .row M) :: l)) (hB : B ≤ w.heap.size) (hn : M.length = n) (hi : M[i]? = some t) (u : Int) :
    Hold B (w.setCell ⟨b, i * 4 + 1, none⟩ (.int .i64 u)) ((.slice (some ⟨b, 0, none⟩) n c, .row (M.set i { t with at_ := u })) :: l) :=
  h.turn hB (by simp) fun S hS1 hS2 => by
    obtain ⟨ho, hb⟩ := hS1
    have hbS : S b := hb b rfl
    have hlt := (List.getElem?_eq_some_iff.1 hi).1
    refine ⟨⟨by simp, fun k hk hn2 => Below.heap_setCell w ⟨b, i * 4 + 1, none⟩ _ k fun e => hn2 (e ▸ ⟨hbS, ho.turns rfl⟩)⟩, ?_, fun g e => ?_⟩
    · subst hn
      have h2 := (Own.set_ (j := i * 4 + 1) ho (by omega) (.int .i64 u)).2.2
      unfold OwnT
      rw [List.length_set, ← flat_set M i t u hi]
      exact h2
    · have e2 : b = g := by simpa [Value.ownBlock] using e
      subst e2
      exact ⟨hS2 b hbS, .inr hbS⟩
theorem mov_next {α : Type} {W : List α} {i : Nat} {t : α} (f : α → α) (h : W[i]? = some t) : ((W.take i).map f ++ W.drop i).set i (f t) = (W.take (i + 1)).map f ++ W.drop (i + 1) := by
  have hlt := (List.getElem?_eq_some_iff.1 h).1
  have hl : ((W.take i).map f).length = i := by rw [List.length_map, List.length_take]; omega
  rw [List.set_append_right _ _ (by omega), hl, Nat.sub_self, List.drop_eq_getElem_cons hlt, List.set_cons_zero, List.take_add_one, h, List.map_append]
  simp
theorem OwnT.rdm {w : World} {A : Option Addr} {n c : Nat} {L : List TokD} (h : OwnT w (.slice A n c) L) (hm : L.length = n) : Rd w A n c 4 (L.flatMap tcs) := by
  subst hm
  exact OwnT.rd_ h
end Go.Proofs.YtjdcicopjipmnaaDoor
