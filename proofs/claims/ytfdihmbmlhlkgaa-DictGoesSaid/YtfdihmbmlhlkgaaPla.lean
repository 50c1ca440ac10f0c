/- Calls about one key, in plain words. -/
import Derived.Test.YtfdihmbmlhlkgaaPln
namespace Go.Proofs.Ytfdihmbmlhlkgaa

theorem put_not {L : List (V × V)} {x : V} (y : V) (h : putOk L x = false) : putR L x y = L := by
  unfold putOk at h
  simp only [Bool.or_eq_false_iff] at h
  unfold putR
  rw [h.1, h.2]
  simp
/-- the call, raw -/
def CallD.asRaw (c : CallD) : CallD := { c with raw := true }
/-- those of the first calls that are about key a, made raw -/
def mineOf (a : V) (l : List CallD) : List CallD := ((l.map CallD.fit).filter fun c => decide (c.k = a)).map CallD.asRaw
theorem mineOf_snoc (a : V) (l : List CallD) (c : CallD) : mineOf a (l ++ [c]) = if c.fit.k = a then mineOf a l ++ [c.fit.asRaw] else mineOf a l := by
  unfold mineOf
  rw [List.map_append, List.filter_append]
  by_cases h : c.fit.k = a
  · simp [h]
  · simp [h]
theorem mineOf_key {a : V} {l : List CallD} {c : CallD} (h : c ∈ mineOf a l) : c.k = a := by
  unfold mineOf at h
  obtain ⟨d, hd, rfl⟩ := List.mem_map.1 h
  exact of_decide_eq_true (List.mem_filter.1 hd).2
theorem mineOf_length (a : V) (l : List CallD) : (mineOf a l).length ≤ l.length := by
  unfold mineOf
  rw [List.length_map]
  have := List.length_filter_le (fun c : CallD => decide (c.k = a)) (l.map CallD.fit)
  simpa using this
theorem fit_small (c : CallD) : c.fit.k.s.size ≤ 12 := by
  have h := cutS_size c.k.s
  unfold CallD.fit V.cut
  simp only
  split
  · exact h
  · unfold fitV
    split
    · exact Nat.zero_le _
    · split
      · exact Nat.zero_le _
      · split
        · exact Nat.zero_le _
        · exact h
theorem fit_asRaw (c : CallD) : c.fit.asRaw.fit = c.fit.asRaw := by
  have h := fit_small c
  generalize c.fit = f at h
  obtain ⟨d, ⟨k, n, s⟩, x, r⟩ := f
  have h : s.size ≤ 12 := h
  have e : cutS s = s := by unfold cutS; rw [if_neg (by omega)]
  simp [CallD.fit, CallD.asRaw, V.cut, e]
theorem madeAll_mine (a : V) (l : List CallD) : madeAll (mineOf a l) = ((l.map CallD.fit).filter fun c => decide (c.k = a)).foldl madeL [] := by
  unfold madeAll
  have e : (mineOf a l).map CallD.fit = mineOf a l := by
    unfold mineOf
    rw [List.map_map]
    refine List.map_congr_left fun f hf => ?_
    obtain ⟨c, _, rfl⟩ := List.mem_map.1 (List.mem_filter.1 hf).1
    exact fit_asRaw c
  rw [e]
  unfold mineOf
  rw [List.foldl_map]
  rfl
theorem apart_fold (a : V) : ∀ (cs : List CallD) (F G : List (V × V)), findL F a = findL G a → (∀ p ∈ G, p.1 = a) → F.length + cs.length ≤ 4000 → G.length + cs.length ≤ 4000 →
    findL (cs.foldl madeL F) a = findL ((cs.filter fun c => decide (c.k = a)).foldl madeL G) a ∧ ∀ p ∈ (cs.filter fun c => decide (c.k = a)).foldl madeL G, p.1 = a
  | [], F, G, h, hg, _, _ => ⟨h, hg⟩
  | c :: cs, F, G, h, hg, hf1, hg1 => by
    simp only [List.length_cons] at hf1 hg1
    by_cases hc : c.k = a
    · rw [List.filter_cons_of_pos (by simpa using hc), List.foldl_cons, List.foldl_cons]
      have l1 := madeL_length F c
      have l2 := madeL_length G c
      refine apart_fold a cs _ _ ?_ ?_ (by omega) (by omega)
      · unfold madeL
        rw [hc]
        split
        · rw [find_del_same, find_del_same]
        · have e : putOk F a = putOk G a := by
            unfold putOk
            rw [h, show decide (F.length < 4096) = true from by simp; omega, show decide (G.length < 4096) = true from by simp; omega]
          cases ho : putOk G a with
          | true => rw [find_put_same _ (e.trans ho), find_put_same _ ho]
          | false => rw [put_not _ (e.trans ho), put_not _ ho, h]
      · intro p hp
        unfold madeL at hp
        rw [hc] at hp
        split at hp
        · exact hg p (List.mem_filter.1 hp).1
        · unfold putR at hp
          split at hp
          · unfold putL at hp
            obtain ⟨q, hq, rfl⟩ := List.mem_map.1 hp
            rw [hg q hq]
            simp
          · split at hp
            · rcases List.mem_append.1 hp with hp | hp
              · exact hg p hp
              · rw [List.mem_singleton.1 hp]
            · exact hg p hp
    · rw [List.filter_cons_of_neg (by simpa using hc), List.foldl_cons]
      have l1 := madeL_length F c
      refine apart_fold a cs _ _ ?_ hg (by omega) (by omega)
      rw [← h]
      unfold madeL
      split
      · exact find_del_other (fun e => hc e.symm)
      · exact find_put_other _ (fun e => hc e.symm)
theorem apart_all (a : V) (l : List CallD) (hl : l.length ≤ 40) : findL (madeAll l) a = findL (madeAll (mineOf a l)) a ∧ ∀ p ∈ madeAll (mineOf a l), p.1 = a := by
  rw [madeAll_mine]
  exact apart_fold a (l.map CallD.fit) [] [] rfl (fun p hp => by cases hp) (by simp; omega) (by simp; omega)
theorem keyed_one {L : List (V × V)} {a : V} (hk : Keyed L) (h : ∀ p ∈ L, p.1 = a) : L.length ≤ 1 := by
  match L, hk with
  | [], _ => simp
  | [_], _ => simp
  | p :: q :: M, hk =>
    exfalso
    have h1 := (List.pairwise_cons.1 hk).1 q (by simp)
    exact h1 ((h p (by simp)).trans (h q (by simp)).symm)
end Go.Proofs.Ytfdihmbmlhlkgaa
