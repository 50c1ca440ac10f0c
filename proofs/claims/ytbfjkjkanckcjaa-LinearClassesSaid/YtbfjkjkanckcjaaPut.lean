/- Stores into rows of one's own. -/
import Derived.Test.YtbfjkjkanckcjaaLTwi
namespace Go.Proofs.Ytbfjkjkanckcjaa
open Go.RowKit Go.Shelf

theorem rcs_set' (l : List SlI) (i : Nat) (x : SlI) : rcs (l.set i x) = (rcs l).set i x.v := (rcs_set l i x).symm
theorem nums_set (l : List SlI) (i : Nat) (x : SlI) : nums (l.set i x) = (nums l).set i x.xs := by simp [nums, List.map_set]
/-- a number of one of the rows is stored -/
theorem NewRows.num {t tr : TypeId} {w wr : World} {v : Value} {os : List SlI} (hne : t ≠ tr) (h : NewRows t tr w wr v os) {i : Nat} (hi : i < os.length) {b n c : Nat} {xs : List Int} (hs : os[i] = ⟨some ⟨b, 0, none⟩, n, c, xs⟩) {k : Nat} (hk : k < n) (hl : xs.length = n) (x : Int) :
    wr.frozen? ⟨b, k, none⟩ = false ∧ NewRows t tr w (wr.setCell ⟨b, k, none⟩ (.int .i64 x)) v (os.set i ⟨some ⟨b, 0, none⟩, n, c, xs.set k x⟩) := by
  have hoi := h.i os[i] (List.getElem_mem hi)
  rw [hs] at hoi
  have ho : Own wr t 1 (.slice (some ⟨b, 0, none⟩) n c) n (ics xs) := by
    have h2 : Own wr t 1 (.slice (some ⟨b, 0, none⟩) n c) xs.length (ics xs) := hoi
    rwa [hl] at h2
  obtain ⟨_, h2, h3⟩ := ho.set_ (j := k) (by omega) (.int .i64 x)
  have hbw : w.heap.size ≤ b := h.n os[i] (List.getElem_mem hi) b (by rw [hs]; rfl)
  have hbel : Below w.heap.size w (wr.setCell ⟨b, k, none⟩ (.int .i64 x)) := h.r.bel.setCell (by simpa using hbw) _
  have hics : (ics xs).set k (.int .i64 x) = ics (xs.set k x) := by simp [ics, List.map_set]
  have hnew : OwnI t (wr.setCell ⟨b, k, none⟩ (.int .i64 x)) (SlI.v ⟨some ⟨b, 0, none⟩, n, c, xs.set k x⟩) (xs.set k x) := by
    unfold OwnI
    rw [List.length_set, hl, ← hics]
    exact h3
  have hother : ∀ j (hj : j < os.length), j ≠ i → ∀ b', os[j].v.ownBlock = some b' → b' ≠ b := by
    intro j hj hji b' hb' e
    subst e
    have hp := List.pairwise_iff_getElem.1 h.d
    rcases Nat.lt_or_gt_of_ne hji with hlt | hlt
    · exact hp j i hj hi hlt b' hb' (by rw [hs]; rfl)
    · exact hp i j hi hj hlt b' (by rw [hs]; rfl) hb'
  refine ⟨h2, ⟨?_, h.r.new, hbel⟩, ?_, ?_, ?_⟩
  · have hr : OwnR tr (wr.setCell ⟨b, k, none⟩ (.int .i64 x)) v os := Own.keep h.r.own fun b' e => Below.heap_setCell wr _ _ b' (by
      rintro rfl
      exact own_own_ne hoi h.r.own hne (b := b') rfl e)
    unfold OwnR at hr ⊢
    rw [List.length_set, rcs_set']
    have e : (rcs os).set i (SlI.v ⟨some ⟨b, 0, none⟩, n, c, xs.set k x⟩) = rcs os := by
      apply List.ext_getElem?
      intro q
      rw [List.getElem?_set]
      split
      · rename_i e
        subst e
        simp [rcs, hi, hs, SlI.v]
      · rfl
    rw [e]
    exact hr
  · intro s hs'
    obtain ⟨j, hj, rfl⟩ := List.getElem_of_mem hs'
    rw [List.length_set] at hj
    by_cases hji : j = i
    · subst hji
      rw [List.getElem_set_self]
      exact hnew
    · rw [List.getElem_set_ne (Ne.symm hji)]
      refine Own.keep (h.i os[j] (List.getElem_mem hj)) fun b' e => Below.heap_setCell wr _ _ b' ?_
      exact hother j hj hji b' e
  · rw [List.pairwise_iff_getElem]
    intro p q hp hq hpq b' hb' hb''
    rw [List.length_set] at hp hq
    have hpw := List.pairwise_iff_getElem.1 h.d p q hp hq hpq b'
    have key : ∀ j (hj : j < os.length), ((os.set i ⟨some ⟨b, 0, none⟩, n, c, xs.set k x⟩)[j]'(by rw [List.length_set]; exact hj)).v.ownBlock = os[j].v.ownBlock := by
      intro j hj
      by_cases hji : j = i
      · subst hji
        rw [List.getElem_set_self, hs]
        rfl
      · rw [List.getElem_set_ne (Ne.symm hji)]
    rw [key p hp] at hb'
    rw [key q hq] at hb''
    exact hpw hb' hb''
  · intro s hs' b' hb'
    obtain ⟨j, hj, rfl⟩ := List.getElem_of_mem hs'
    rw [List.length_set] at hj
    by_cases hji : j = i
    · subst hji
      rw [List.getElem_set_self] at hb'
      have : b = b' := by simpa [SlI.v, Value.ownBlock] using hb'
      omega
    · rw [List.getElem_set_ne (Ne.symm hji)] at hb'
      exact h.n os[j] (List.getElem_mem hj) b' hb'
/-- one of the rows is replaced by what has grown out of it, or by a new one, or by none -/
theorem NewRows.row {t tr : TypeId} {w wr w1 : World} {b n c : Nat} {os : List SlI} (hne : t ≠ tr) (h : NewRows t tr w wr (.slice (some ⟨b, 0, none⟩) n c) os) {i : Nat} (hi : i < os.length) (hl : os.length = n) (s : SlI) (hs : OwnI t w1 s.v s.xs)
    (hg : wr.grownBy w1 os[i].v.ownBlock) (ha : ∀ b', s.v.ownBlock = some b' → os[i].v.ownBlock = some b' ∨ wr.heap.size ≤ b') :
    w1.frozen? ⟨b, i, none⟩ = false ∧ NewRows t tr w (w1.setCell ⟨b, i, none⟩ s.v) (.slice (some ⟨b, 0, none⟩) n c) (os.set i s) := by
  have hbw : w.heap.size ≤ b := h.r.new b rfl
  have hr1 : OwnR tr w1 (.slice (some ⟨b, 0, none⟩) n c) os := Own.keep h.r.own fun b' e => hg.block b' (Own.lt h.r.own e) fun e' => own_own_ne (h.i os[i] (List.getElem_mem hi)) h.r.own hne e'.symm e
  have hr1' : Own w1 tr 1 (.slice (some ⟨b, 0, none⟩) n c) n (rcs os) := by
    unfold OwnR at hr1
    rwa [hl] at hr1
  obtain ⟨_, h2, h3⟩ := hr1'.set_ (j := i) (by omega) s.v
  have hb1 : Below w.heap.size w w1 := h.r.bel.grown hg h.r.bel.size fun q e => h.n os[i] (List.getElem_mem hi) q e
  have hbel : Below w.heap.size w (w1.setCell ⟨b, i, none⟩ s.v) := hb1.setCell (by simpa using hbw) _
  have hblt : b < wr.heap.size := Own.lt h.r.own rfl
  have hsb : ∀ b', s.v.ownBlock = some b' → b' ≠ b := fun b' e e' => by
    subst e'
    rcases ha b' e with h4 | h4
    · exact own_own_ne (h.i os[i] (List.getElem_mem hi)) h.r.own hne h4 rfl
    · omega
  have hkeepj : ∀ j (hj : j < os.length), j ≠ i → OwnI t (w1.setCell ⟨b, i, none⟩ s.v) os[j].v os[j].xs := by
    intro j hj hji
    refine Own.keep (h.i os[j] (List.getElem_mem hj)) fun b' e => ?_
    have hlt := Own.lt (h.i os[j] (List.getElem_mem hj)) e
    have h5 : b' ≠ b := fun e' => by
      subst e'
      exact own_own_ne (h.i os[j] (List.getElem_mem hj)) h.r.own hne e rfl
    rw [Below.heap_setCell w1 _ _ b' h5]
    refine hg.block b' hlt fun e' => ?_
    have hp := List.pairwise_iff_getElem.1 h.d
    rcases Nat.lt_or_gt_of_ne hji with h6 | h6
    · exact hp j i hj hi h6 b' e e'.symm
    · exact hp i j hi hj h6 b' e'.symm e
  refine ⟨h2, ⟨?_, h.r.new, hbel⟩, ?_, ?_, ?_⟩
  · unfold OwnR
    rw [List.length_set, hl, rcs_set']
    exact h3
  · intro s' hs'
    obtain ⟨j, hj, rfl⟩ := List.getElem_of_mem hs'
    have hj' : j < os.length := by rwa [List.length_set] at hj
    by_cases hji : j = i
    · subst hji
      rw [List.getElem_set_self]
      exact Own.keep hs fun b' e => Below.heap_setCell w1 _ _ b' (hsb b' e)
    · rw [List.getElem_set_ne (Ne.symm hji)]
      exact hkeepj j hj' hji
  · have hdis : ∀ j (hj : j < os.length), j ≠ i → ∀ b', os[j].v.ownBlock = some b' → s.v.ownBlock ≠ some b' := by
      intro j hj hji b' e e'
      rcases ha b' e' with h4 | h4
      · have hp := List.pairwise_iff_getElem.1 h.d
        rcases Nat.lt_or_gt_of_ne hji with h6 | h6
        · exact hp j i hj hi h6 b' e h4
        · exact hp i j hi hj h6 b' h4 e
      · have := Own.lt (h.i os[j] (List.getElem_mem hj)) e
        omega
    rw [List.pairwise_iff_getElem]
    intro p q hp hq hpq b' hb' hb''
    have hp' : p < os.length := by rwa [List.length_set] at hp
    have hq' : q < os.length := by rwa [List.length_set] at hq
    by_cases hpi : p = i
    · subst hpi
      rw [List.getElem_set_self] at hb'
      rw [List.getElem_set_ne (by omega)] at hb''
      exact hdis q hq' (by omega) b' hb'' hb'
    · rw [List.getElem_set_ne (Ne.symm hpi)] at hb'
      by_cases hqi : q = i
      · subst hqi
        rw [List.getElem_set_self] at hb''
        exact hdis p hp' hpi b' hb' hb''
      · rw [List.getElem_set_ne (Ne.symm hqi)] at hb''
        exact List.pairwise_iff_getElem.1 h.d p q hp' hq' hpq b' hb' hb''
  · intro s' hs' b' hb'
    obtain ⟨j, hj, rfl⟩ := List.getElem_of_mem hs'
    have hj' : j < os.length := by rwa [List.length_set] at hj
    by_cases hji : j = i
    · subst hji
      rw [List.getElem_set_self] at hb'
      rcases ha b' hb' with h4 | h4
      · exact h.n os[j] (List.getElem_mem hj') b' h4
      · have := h.r.bel.size
        omega
    · rw [List.getElem_set_ne (Ne.symm hji)] at hb'
      exact h.n os[j] (List.getElem_mem hj') b' hb'
end Go.Proofs.Ytbfjkjkanckcjaa
