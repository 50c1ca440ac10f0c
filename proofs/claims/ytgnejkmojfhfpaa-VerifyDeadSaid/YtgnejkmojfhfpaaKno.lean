/- What is known of a code that is right: plain Lean. -/
import Derived.Test.YtgnejkmojfhfpaaRfx
namespace Go.Proofs.Ytgnejkmojfhfpaa
set_option linter.unusedVariables false
set_option linter.unusedSimpArgs false

/-- it goes on nowhere -/
def Ends (op : Int) : Prop := op = 50 ∨ op = 51 ∨ op = 52 ∨ op = 55 ∨ op = 56
theorem look_first {T lv op a : Int} {i : Nat} {s : St} {ways : List (Int × St)} (h : lookE T lv op a i s = some ways) :
    T ≤ s.h ∧ (¬ Ends op → op ≠ 36 → ∃ bl, ((i : Int) + 1, St.mk (s.h - T + lv) bl) ∈ ways) ∧ (op = 36 → (a, s) ∈ ways) ∧ (op = 47 → (a, St.mk (s.h + 1) s.bl) ∈ ways) := by
  unfold lookE at h
  split at h
  · cases h
  rename_i hno
  have ht : T ≤ s.h := by
    rcases Int.lt_or_le (s.h - T) 0 with h1 | h1
    · exact absurd (.inl h1) hno
    · omega
  clear hno
  refine ⟨ht, ?_⟩
  split at h
  · cases h
    exact ⟨fun _ h => by omega, fun _ => by simp, fun _ => by omega⟩
  split at h
  · rename_i he
    cases h
    exact ⟨fun hn => absurd he hn, fun _ => by omega, fun _ => by omega⟩
  split at h
  · cases h
    exact ⟨fun _ _ => ⟨s.bl, by simp⟩, fun _ => by omega, fun _ => by omega⟩
  split at h
  · cases h
    exact ⟨fun _ _ => ⟨s.bl, by simp⟩, fun _ => by omega, fun _ => by omega⟩
  split at h
  · cases h
    exact ⟨fun _ _ => ⟨s.bl, by simp⟩, fun _ => by omega, fun _ => by omega⟩
  split at h
  · cases h
    exact ⟨fun _ _ => ⟨_, by simp; exact .inl rfl⟩, fun _ => by omega, fun _ => by simp⟩
  split at h
  · cases h
    exact ⟨fun _ _ => ⟨s.bl.tail, by simp⟩, fun _ => by omega, fun _ => by omega⟩
  · cases h
    exact ⟨fun _ _ => ⟨s.bl, by simp⟩, fun _ => by omega, fun _ => by omega⟩
/-- where it goes on, what lies there fits -/
theorem known_step {p : ProgD} {c : CodeD} {l : List Int} {st : List (Option St)} (hf : Fixed p c l st) (hsm : ∀ (i : Nat) s, st[i]? = some (some s) → s.h < many) {i : Nat} {s : St} (hs : st[i]? = some (some s)) {op a : Int} (hx : c.ins[i]? = some (op, a)) :
    (takesE p (op, a) s.h).1 ≤ s.h ∧ (¬ Ends op → op ≠ 36 → i + 1 < c.ins.length ∧ l[i + 1]? = some (s.h - (takesE p (op, a) s.h).1 + (takesE p (op, a) s.h).2)) ∧
      (op = 36 → ∃ t : Nat, a = t ∧ t < c.ins.length ∧ l[t]? = some s.h) ∧ (op = 47 → ∃ t : Nat, a = t ∧ t < c.ins.length ∧ l[t]? = some (s.h + 1)) := by
  obtain ⟨x, ways, h1, h2, h3⟩ := hf.closed i s hs
  rw [hx] at h1
  cases h1
  rw [← ways_same (i := i) (s := s) (hf.right _ (List.mem_of_getElem? hx)) (hf.low i s hs) (hsm i s hs)] at h2
  unfold waysR at h2
  obtain ⟨h4, h5, h6, h7⟩ := look_first h2
  have at_ : ∀ q ∈ ways, ∃ t : Nat, q.1 = t ∧ t < c.ins.length ∧ l[t]? = some q.2.h := fun q hq => by
    obtain ⟨k1, k2, k3⟩ := h3 q hq
    refine ⟨q.1.toNat, by omega, by omega, ?_⟩
    rw [hf.heights, List.getElem?_map, k3]
    rfl
  refine ⟨h4, fun he hn => ?_, fun he => ?_, fun he => ?_⟩
  · obtain ⟨bl, hb⟩ := h5 he hn
    obtain ⟨t, k1, k2, k3⟩ := at_ _ hb
    simp only at k1 k3
    obtain rfl : t = i + 1 := by omega
    exact ⟨k2, k3⟩
  · exact at_ _ (h6 he)
  · exact at_ _ (h7 he)
/-- what is wrong lies within the code -/
theorem wrongs_lt {p : ProgD} {c : CodeD} : ∀ {l : List (Int × Int)} {j i : Nat} {e : Int}, wrongs p c l j = some (e, i) → i < j + l.length
  | [], j, i, e, h => by cases h
  | x :: l, j, i, e, h => by
    unfold wrongs at h
    split at h
    · have := wrongs_lt h
      simp only [List.length_cons]
      omega
    · injection h with h
      injection h with h1 h2
      simp only [List.length_cons]
      omega
theorem heights_bad {p : ProgD} {c : CodeD} {l : List Int} {e k : Int} (h : heightsC p c = (l, e, k)) (he : e ≠ 0) : l = [] ∧ ∃ t : Nat, k = t ∧ (t = 0 ∨ t < c.ins.length) := by
  unfold heightsC at h
  split at h
  · cases h
    exact ⟨rfl, 0, rfl, .inl rfl⟩
  split at h
  · rename_i e' i hw
    cases h
    have := wrongs_lt hw
    exact ⟨rfl, i, rfl, .inr (by omega)⟩
  · unfold flowE at h
    split at h
    · cases h
      exact ⟨rfl, 0, rfl, .inl rfl⟩
    rename_i hn
    split at h
    · cases h
      exact absurd rfl he
    · rename_i e' i hg
      cases h
      have := go_tell hg (by simp [startF])
      exact ⟨rfl, i, rfl, .inr this.2⟩
theorem height_low {p : ProgD} {c : CodeD} {l : List Int} {st : List (Option St)} (hf : Fixed p c l st) {i : Nat} {o : Option St} (ho : st[i]? = some o) : l[i]? = some (heightOf o) ∧ -1 ≤ heightOf o := by
  refine ⟨by rw [hf.heights, List.getElem?_map, ho]; rfl, ?_⟩
  cases o with
  | none => exact Int.le_refl _
  | some s => have := hf.low i s ho; simp only [heightOf]; omega
end Go.Proofs.Ytgnejkmojfhfpaa
