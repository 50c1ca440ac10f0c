/- A drawn region whose last operation (a store) may hit what the region loads: the condition S need not hold behind that one. Over any program. -/
import Derived.Deep.RegionHeld3
namespace Go.Proofs.Ytgnejkmojfhfpaa

section
variable {P : Program} {ops : Array Oper} {Q : Exit → Act → World → Prop} {md : Region.Mode} {S : World → Prop} {m : Nat}

/-- any order from here on; S holds behind each operation but number m -/
def AnyBut (P : Program) (md : Region.Mode) (ops : Array Oper) (Q : Exit → Act → World → Prop) (S : World → Prop) (m : Nat) : Nat → Array Bool → Act → World → Prop
  | 0, listed, a, w => Region.ready md ops listed = [] ∧ Q .normal a w
  | k + 1, listed, a, w => (Region.ready md ops listed = [] → Q .normal a w) ∧
    ∀ i ∈ Region.ready md ops listed, wpOp P ops Q i (fun a' w' => (i ≠ m → S w') ∧ AnyBut P md ops Q S m k (listed.setIfInBounds i true) a' w') a w

theorem AnyBut.any : ∀ (k : Nat) (listed : Array Bool) (a : Act) (w : World), AnyBut P md ops Q S m k listed a w → wpAny P md ops Q k listed a w
  | 0, _, _, _, h => h
  | k + 1, _, _, _, h => ⟨h.1, fun i hi => wpOp_mono (fun a' w' h' => AnyBut.any k _ a' w' h'.2) (h.2 i hi)⟩

/-- number m waits for number i -/
def waits (md : Region.Mode) (ops : Array Oper) (m i : Nat) : Bool :=
  match ops[m]? with
  | some o => o.after.any fun e => Region.binds md e && e.on == i
  | none => false

theorem AnyBut.first {i : Nat} {oi : Oper} {v : Value} (hi : ops[i]? = some oi) (hsel : ∀ (j : Nat) (o : Oper) cs b, ops[j]? = some o → o.op ≠ .select cs b)
    (hQ : ∀ c a w, Q (.panic c) (a.put oi.dst v) w → Q (.panic c) a w) (hwait : waits md ops m i = true) :
    ∀ (k : Nat) (listed : Array Bool) (a : Act) (w : World),
      (∀ j oj, ops[j]? = some oj → j ≠ i → listed.getD j true = false → (∀ e ∈ oj.after, Region.binds md e = true → e.on ≠ i) → oi.apart ops oj = true) →
      i ∈ Region.ready md ops listed → YieldsIf P ops S oi v a → S w →
      AnyBut P md ops Q S m k (listed.setIfInBounds i true) (a.put oi.dst v) w → AnyBut P md ops Q S m (k + 1) listed a w := by
  intro k
  induction k with
  | zero =>
    intro listed a w _ hr hy hS H
    refine ⟨fun h => absurd hr (by rw [h]; simp), fun j hj => ?_⟩
    by_cases e : j = i
    · subst e
      exact hy.wpOp hi hS ⟨fun _ => hS, H⟩
    · exact absurd (ready_mono hj e) (by rw [H.1]; simp)
  | succ k ih =>
    intro listed a w hfree hr hy hS H
    refine ⟨fun h => absurd hr (by rw [h]; simp), fun j hj => ?_⟩
    by_cases e : j = i
    · subst e
      exact hy.wpOp hi hS ⟨fun _ => hS, H⟩
    obtain ⟨hun, oj, hoj, hall⟩ := mem_ready.1 hj
    have hilist : listed.getD i true = false := (mem_ready.1 hr).1
    have hnot : ∀ e ∈ oj.after, Region.binds md e = true → e.on ≠ i := by
      intro d hd hb heq
      have h1 := hall d hd hb
      rw [heq] at h1
      by_cases hs : i < listed.size
      · simp [hs] at hilist h1
        rw [hilist] at h1
        cases h1
      · simp [Array.getElem?_eq_none (Nat.le_of_not_lt hs)] at h1
    have hjm : j ≠ m := by
      rintro rfl
      unfold waits at hwait
      rw [hoj] at hwait
      obtain ⟨d, hd, hb⟩ := Array.any_eq_true'.1 hwait
      simp only [Bool.and_eq_true, beq_iff_eq] at hb
      exact hnot d hd hb.1 hb.2
    have hput := wpOp_putIf hoj (hfree j oj hoj e hun hnot) (fun cs b => hsel i oi cs b hi) (fun cs b => hsel j oj cs b hoj) hQ hy (H.2 j (ready_mono hj e))
    refine wpOp_mono (fun a' w' h3 => ⟨h3.2.1, ih (listed.setIfInBounds j true) a' w' (fun q oq hq hqi hqu hqn => hfree q oq hq hqi ?_ hqn) (ready_mono hr (Ne.symm e)) h3.1 (h3.2.1 hjm) ?_⟩) hput
    · by_cases hjq : j = q
      · subst hjq
        exact hun
      · rwa [getD_set_ne true hjq] at hqu
    · rw [Array.setIfInBounds_comm _ _ e]
      exact h3.2.2

theorem AnyBut.take {i : Nat} {oi : Oper} {v : Value} {k : Nat} {listed : Array Bool} {a : Act} {w : World} (hi : ops[i]? = some oi)
    (hs : Region.noSelect ops = true) (hf : Region.free md ops listed i = true) (hr : (Region.ready md ops listed).contains i = true) (hwait : waits md ops m i = true)
    (hQ : ∀ c a w, Q (.panic c) (a.put oi.dst v) w → Q (.panic c) a w) (hy : YieldsIf P ops S oi v a) (hS : S w)
    (h : AnyBut P md ops Q S m k (listed.setIfInBounds i true) (a.put oi.dst v) w) : AnyBut P md ops Q S m (k + 1) listed a w :=
  AnyBut.first hi (Region.noSelect_spec hs) hQ hwait k listed a w (Region.free_spec hi hf) (by simpa using hr) hy hS h

/-- each of these comes up next -/
def ReadyBut (P : Program) (md : Region.Mode) (ops : Array Oper) (Q : Exit → Act → World → Prop) (S : World → Prop) (m : Nat) (k : Nat) (listed : Array Bool) (a : Act) (w : World) (rs : List Nat) : Prop :=
  ∀ i ∈ rs, wpOp P ops Q i (fun a' w' => (i ≠ m → S w') ∧ AnyBut P md ops Q S m k (listed.setIfInBounds i true) a' w') a w
theorem ReadyBut.nil {k : Nat} {listed : Array Bool} {a : Act} {w : World} : ReadyBut P md ops Q S m k listed a w [] := fun _ h => absurd h (by simp)
theorem ReadyBut.cons {k : Nat} {listed : Array Bool} {a : Act} {w : World} {i : Nat} {o : Oper} {rs : List Nat} (ho : ops[i]? = some o)
    (h : ∀ K' : Act → World → Prop, Shut (∀ a w, S w → (S w → AnyBut P md ops Q S m k (listed.setIfInBounds i true) a w) → K' a w) → if Region.wanted o (yielded ops a.tmps) = true then Oper.wp P o a w K' Q else K' (a.put o.dst undef) w)
    (hs : ReadyBut P md ops Q S m k listed a w rs) : ReadyBut P md ops Q S m k listed a w (i :: rs) := by
  intro j hj
  rcases List.mem_cons.1 hj with rfl | hj
  · exact wpOp_step ho fun K' hK => h K' fun a w hS hW => hK a w ⟨fun _ => hS, hW hS⟩
  · exact hs j hj
/-- the last one: S need not hold behind it -/
theorem ReadyBut.last {k : Nat} {listed : Array Bool} {a : Act} {w : World} {o : Oper} (ho : ops[m]? = some o)
    (h : ∀ K' : Act → World → Prop, Shut (∀ a w, AnyBut P md ops Q S m k (listed.setIfInBounds m true) a w → K' a w) → if Region.wanted o (yielded ops a.tmps) = true then Oper.wp P o a w K' Q else K' (a.put o.dst undef) w) :
    ReadyBut P md ops Q S m k listed a w [m] := by
  intro j hj
  obtain rfl : j = m := by simpa using hj
  exact wpOp_step ho fun K' hK => h K' fun a w hW => hK a w ⟨fun h => absurd rfl h, hW⟩
theorem AnyBut.ready {rs : List Nat} {k : Nat} {listed : Array Bool} {a : Act} {w : World} (hr : Region.ready md ops listed = rs) (hne : rs ≠ [])
    (h : ReadyBut P md ops Q S m k listed a w rs) : AnyBut P md ops Q S m (k + 1) listed a w := ⟨fun h0 => absurd (hr ▸ h0) hne, hr ▸ h⟩
theorem AnyBut.done {listed : Array Bool} {a : Act} {w : World} (hr : Region.ready md ops listed = []) (h : Q .normal a w) : ∀ k, AnyBut P md ops Q S m k listed a w
  | 0 => ⟨hr, h⟩
  | _ + 1 => ⟨fun _ => h, by rw [hr]; simp⟩
theorem AnyBut.start {id : Nat} {a : Act} {w : World} (m : Nat) (hm : P.follows .mixedOrders = true) (hS : S w.drew)
    (h : S w.drew → AnyBut P .any ops Q S m ops.size (Array.replicate ops.size false) a w.drew) : (Code.region id ops true).wp P Q a w :=
  wp_region_any hm (AnyBut.any _ _ _ _ (h hS))
end
end Go.Proofs.Ytgnejkmojfhfpaa
