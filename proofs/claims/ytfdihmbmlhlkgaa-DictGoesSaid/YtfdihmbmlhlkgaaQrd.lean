/- A drawn region within a round that only reads: one walk serves every order. What a dict's own calls leave as it was. -/
import Derived.Test.YtfdihmbmlhlkgaaLRow
import Derived.Sort.QuietIn
namespace Go.Proofs.Ytfdihmbmlhlkgaa
open Go.RowKit Go.Shelf
attribute [local go_sem] Oper.semAt_some

section
variable {F : Fence} {n : Nat} {P : Program} {ops : Array Oper} {md : Region.Mode} {C : World → Prop}
/-- no deferred call among them -/
def noDefer (ops : Array Oper) : Bool := ops.all fun o => match o.op with | .defer _ => false | _ => true
theorem noDefer_spec (h : noDefer ops = true) {i : Nat} {o : Oper} (hi : ops[i]? = some o) : ∀ c, o.op ≠ .defer c := by
  intro c hc
  have := Array.all_eq_true'.1 h o (Array.mem_of_getElem? hi)
  rw [hc] at this
  cases this
theorem plain_of_quiet {o : Oper} {a : Act} {K : Act → Prop} {K' : Act → World → Prop} {Q' : Exit → Act → World → Prop} {w : World} (hd : ∀ c, o.op ≠ .defer c) (hw : C w) (h : ∀ a w', C w' → K a → K' a w')
    (ha : o.askedIn F P a C) (hh : o.quietIn F n P a C K) : o.wpIn F n P a w K' Q' := by
  obtain ⟨v, h1, h2⟩ := hh
  have h3 := h1 w hw
  unfold Oper.quietAtIn at h3
  unfold Oper.wpIn
  refine ⟨ha w hw, ?_⟩
  rw [Oper.semAt_plain F _ _ hd]
  generalize (execOp a.eval o).run P w = r at *
  match r with
  | .ok (.value u) w' => obtain ⟨rfl, rfl⟩ := h3; exact h _ _ hw h2
  | .ok .skip w' => obtain ⟨rfl, rfl⟩ := h3; exact h _ _ hw h2
  | .ok (.enter f args) w' =>
    obtain ⟨rfl, hd', hc⟩ := h3
    exact ⟨hd', hc.mono fun e w'' ⟨he, hw''⟩ => by subst he; exact h _ _ hw'' h2⟩
theorem op_of_quiet {i : Nat} {a : Act} {K : Act → Prop} {K' : Act → World → Prop} {Q' : Exit → Act → World → Prop} {w : World} (hd : noDefer ops = true) (hC : C w) (h : ∀ a w', C w' → K a → K' a w')
    (hh : qOpIn F n P ops C i K a) : wpOpIn F n P ops Q' i K' a w := by
  unfold qOpIn at hh
  unfold wpOpIn
  split
  · rename_i ho; simp only [ho] at hh; exact h _ _ hC hh
  · rename_i o ho
    simp only [ho] at hh
    obtain ⟨ha, hh⟩ := hh
    split
    · rename_i hw; simp only [hw, if_true] at hh; exact plain_of_quiet (noDefer_spec hd ho) hC h ha hh
    · rename_i hw; simp only [hw] at hh; exact ⟨ha w hC, h _ _ hC hh⟩
theorem any_of_quiet {Q : Act → Prop} {Q' : Exit → Act → World → Prop} (hd : noDefer ops = true) (hQ : ∀ a w, C w → Q a → Q' .normal a w) : ∀ (fuel : Nat) (listed : Array Bool) (a : Act) (w : World), C w →
    wpAnyQIn F n P md ops C Q fuel listed a → wpAnyIn F n P md ops Q' fuel listed a w
  | 0, _, _, _, hw, h => ⟨h.1, hQ _ _ hw h.2⟩
  | fuel + 1, _, _, _, hw, h => ⟨fun h0 => hQ _ _ hw (h.1 h0), fun i hi => op_of_quiet hd hw (fun a' w' hw' => any_of_quiet hd hQ fuel _ a' w' hw') (h.2 i hi)⟩
theorem wpIn_quiet_round {id : Nat} {Q : Exit → Act → World → Prop} {a : Act} {w : World} {l : List Oper} (hd : noDefer l.toArray = true) (hm : P.follows .mixedOrders = true) (hB : Region.lexB .any l.toArray = true)
    (h : wpQuietIn F n P l.toArray (fun w' => ∃ n, w' = w.drewN n) (fun a' => ∀ w', (∃ n, w' = w.drewN n) → Q .normal a' w') l a) : (Code.region id l.toArray true).wpIn F n P Q a w := by
  simp only [Region.lexB, Bool.and_eq_true] at hB
  refine wpIn_region_any hm (any_of_quiet (C := fun w' => ∃ n, w' = w.drewN n) (Q := fun a' => ∀ w', (∃ n, w' = w.drewN n) → Q .normal a' w') hd (fun _ w' hw' h => h w' hw') _ _ _ _ ⟨1, rfl⟩ ?_)
  have := wpAnyQIn_lex (F := F) (n := n) (C := fun w' => ∃ n, w' = w.drewN n) (md := .any) hB.1 l 0 (Array.replicate l.toArray.size false) a (by simp) (by simpa using hB.2) h
  simpa using this
end

section
variable {w w' w0 : World} {g : Nat} {S : Nat → Prop} {L : List (V × V)}
/-- cells of other types lie apart from the dict -/
theorem foot_not (h : IsDict w S g L) {b : Nat} {t : TypeId} {cs : Array Value} (hb : Blk w b t cs) (n1 : t ≠ 71) (n2 : t ≠ 73) : ¬ Foot w g b := by
  obtain ⟨B, v, rs, f, hD, _⟩ := h
  rintro (rfl | ⟨m', v', hm', e⟩)
  · exact Blk.ne_ hb hD.blk n1 rfl
  · have h5 := hD.blk
    unfold Blk at h5 hm'
    rw [h5] at hm'
    cases hm'
    rcases e with e | e
    · injection e with e
      injection e with e
      exact hD.map.ne_blk hb e
    · exact own_blk_ne hD.own hb (Ne.symm n2) e
theorem foot_blk (h : IsDict w S g L) (hm : Mod (Foot w g) w w') {b : Nat} {t : TypeId} {cs : Array Value} (hb : Blk w b t cs) (n1 : t ≠ 71) (n2 : t ≠ 73) : Blk w' b t cs := hb.mod hm (foot_not h hb n1 n2)
theorem foot_own (h : IsDict w S g L) (hm : Mod (Foot w g) w w') {t : TypeId} {sz n : Nat} {v : Value} {cs : List Value} (ho : Own w t sz v n cs) (n1 : t ≠ 71) (n2 : t ≠ 73) : Own w' t sz v n cs := by
  refine Own.mod ho hm fun b e => ?_
  rcases ho.2 with ⟨rfl, _⟩ | ⟨b', _, cur, rfl, hb, _⟩
  · cases e
  · obtain rfl : b' = b := by simpa [Value.ownBlock] using e
    exact foot_not h hb n1 n2
/-- a store into a box of another type -/
theorem NewD.set (h : NewD w0 w g L) {b : Nat} {t : TypeId} {cs : Array Value} (hb : Blk w b t cs) (n1 : t ≠ 71) (n2 : t ≠ 73) (hb0 : w0.heap.size ≤ b) (i : Nat) (u : Value) : NewD w0 (w.setCell ⟨b, i, none⟩ u) g L := by
  obtain ⟨h1, h2, h3⟩ := h.tight
  have hm : Mod (· = b) w (w.setCell ⟨b, i, none⟩ u) := (Mod.refl (· = b) w).setCell (p := ⟨b, i, none⟩) (fun _ => rfl) _
  exact ⟨_, h1.mod hm (fun j hj e => by subst e; exact foot_not h1 hb n1 n2 hj), h2, h3.setCell hb0 _⟩
end
end Go.Proofs.Ytfdihmbmlhlkgaa
