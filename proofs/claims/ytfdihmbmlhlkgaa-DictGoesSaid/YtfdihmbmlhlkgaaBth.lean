/- A dict and the reference's, side by side; what lies beside them. -/
import Derived.Test.YtfdihmbmlhlkgaaAlk
namespace Go.Proofs.Ytfdihmbmlhlkgaa
open Go.RowKit
attribute [local go_sem high] guardV eqV neqV guardP neqP
attribute [local go_sem] V.v

/-- S is what of w an object takes up, all of it made since w0 -/
structure Zone (w0 w : World) (S : Nat → Prop) : Prop where
  lt : ∀ i, S i → i < w.heap.size
  own : ∀ i, S i → w0.heap.size ≤ i
  bel : Below w0.heap.size w0 w
section
variable {w0 w w' : World} {S T : Nat → Prop}
theorem Zone.new (h : Zone w0 w S) (hb : Below w.heap.size w w') : Zone w0 w' S := ⟨fun i hi => Nat.lt_of_lt_of_le (h.lt i hi) hb.size, h.own, h.bel.trans (hb.mono h.bel.size)⟩
theorem Zone.step (h : Zone w0 w S) (hm : Mod S w w') : Zone w0 w' (Grew S w w') :=
  ⟨fun _ hi => hi.elim (fun h' => Nat.lt_of_lt_of_le (h.lt _ h') hm.size) (fun h' => h'.2), fun _ hi => hi.elim (h.own _) (fun h' => Nat.le_trans h.bel.size h'.1), h.bel.trans (hm.below h.bel.size fun i hi hs => by have := h.own i hs; omega)⟩
/-- .. where another one turned -/
theorem Zone.far (h : Zone w0 w S) (hT : ∀ i, T i → w0.heap.size ≤ i) (hm : Mod T w w') : Zone w0 w' S := ⟨fun i hi => Nat.lt_of_lt_of_le (h.lt i hi) hm.size, h.own, h.bel.trans (hm.below h.bel.size fun i hi hs => by have := hT i hs; omega)⟩
/-- apart -/
def Far (S T : Nat → Prop) : Prop := ∀ i, S i → ¬ T i
theorem Far.symm (h : Far S T) : Far T S := fun i h1 h2 => h i h2 h1
theorem Far.step (h : Far S T) (hT : ∀ i, T i → i < w.heap.size) : Far (Grew S w w') T := fun i hi ht => hi.elim (fun hs => h i hs ht) (fun h' => by have := hT i ht; omega)
theorem Far.fresh (hT : ∀ i, T i → i < w.heap.size) : Far (Grew (fun _ => False) w w') T := fun i hi ht => hi.elim False.elim (fun h' => by have := hT i ht; omega)
/-- a block beside -/
structure Bes (w : World) (S : Nat → Prop) (b : Nat) (t : TypeId) (cs : Array Value) : Prop where
  blk : Blk w b t cs
  out : ¬ S b
variable {b : Nat} {t : TypeId} {cs : Array Value}
theorem Bes.of (h : Blk w b t cs) (hS : ¬ S b) : Bes w S b t cs := ⟨h, hS⟩
theorem Bes.fresh (hz : Zone w0 w S) {w1 : World} (h : Blk w1 b t cs) (hlt : w.heap.size ≤ b) : Bes w1 S b t cs := ⟨h, fun hs => by have := hz.lt b hs; omega⟩
theorem Bes.new (h : Bes w S b t cs) (hb : Below w.heap.size w w') : Bes w' S b t cs := ⟨h.blk.new' hb, h.out⟩
theorem Bes.step (h : Bes w S b t cs) (hm : Mod S w w') : Bes w' (Grew S w w') b t cs := ⟨h.blk.mod hm h.out, fun hs => hs.elim h.out (fun h' => by have := h.blk.lt; omega)⟩
theorem Bes.far (h : Bes w S b t cs) (hm : Mod T w w') (hT : ¬ T b) : Bes w' S b t cs := ⟨h.blk.mod hm hT, h.out⟩
end

/-- A dict, made since w0. -/
structure HasD (w0 w : World) (S : Nat → Prop) (g : Nat) (L : List (V × V)) : Prop where
  d : IsDict w S g L
  z : Zone w0 w S
/-- A dict and the reference's beside it, of the same pairs. -/
structure HasB (w0 w : World) (S : Nat → Prop) (g y : Nat) (L : List (V × V)) : Prop where
  two : ∃ S1 S2, IsDict w S1 g L ∧ IsRef w S2 y L ∧ Far S1 S2 ∧ (∀ i, S1 i → S i) ∧ (∀ i, S2 i → S i)
  z : Zone w0 w S
section
variable {w0 w w' : World} {S T : Nat → Prop} {g y : Nat} {L L' : List (V × V)}
theorem HasD.new (h : HasD w0 w S g L) (hb : Below w.heap.size w w') : HasD w0 w' S g L := ⟨h.d.new hb, h.z.new hb⟩
theorem HasD.step (h : HasD w0 w S g L) (h' : IsDict w' (Grew S w w') g L') (hm : Mod S w w') : HasD w0 w' (Grew S w w') g L' := ⟨h', h.z.step hm⟩
theorem HasD.far (h : HasD w0 w S g L) (hf : Far S T) (hT : ∀ i, T i → w0.heap.size ≤ i) (hm : Mod T w w') : HasD w0 w' S g L := ⟨h.d.mod hm hf, h.z.far hT hm⟩
theorem HasD.of_new (h : IsDict w' (Grew (fun _ => False) w w') g L) (hz : Below w.heap.size w w') (h0 : Below w0.heap.size w0 w) : HasD w0 w' (Grew (fun _ => False) w w') g L :=
  ⟨h, h.lt, fun _ hi => hi.elim False.elim (fun h' => Nat.le_trans h0.size h'.1), h0.trans (hz.mono h0.size)⟩
theorem HasB.new (h : HasB w0 w S g y L) (hb : Below w.heap.size w w') : HasB w0 w' S g y L := by
  obtain ⟨S1, S2, h1, h2, h3⟩ := h.two
  exact ⟨⟨S1, S2, h1.new hb, h2.new hb, h3⟩, h.z.new hb⟩
theorem HasB.far (h : HasB w0 w S g y L) (hf : Far S T) (hT : ∀ i, T i → w0.heap.size ≤ i) (hm : Mod T w w') : HasB w0 w' S g y L := by
  obtain ⟨S1, S2, h1, h2, h3, h4, h5⟩ := h.two
  exact ⟨⟨S1, S2, h1.mod hm (fun i hi => hf i (h4 i hi)), h2.mod hm (fun i hi => hf i (h5 i hi)), h3, h4, h5⟩, h.z.far hT hm⟩
theorem HasB.dict (h : HasB w0 w S g y L) : HasD w0 w S g L := by
  obtain ⟨S1, S2, h1, h2, h3, h4, h5⟩ := h.two
  exact ⟨h1.mono h4 h.z.lt, h.z⟩
theorem HasB.facts (h : HasB w0 w S g y L) : Keyed L ∧ (∀ p ∈ L, p.1.Ok ∧ isKey p.1 = true) ∧ L.length ≤ 4096 := by
  obtain ⟨S1, S2, h1, _⟩ := h.two
  exact h1.facts
end
/-- half a step: the dict has turned, the reference's has not -/
structure Duo (w0 w : World) (S : Nat → Prop) (g y : Nat) (L M : List (V × V)) : Prop where
  two : ∃ S1 S2, IsDict w S1 g L ∧ IsRef w S2 y M ∧ Far S1 S2 ∧ (∀ i, S1 i → S i) ∧ (∀ i, S2 i → S i)
  z : Zone w0 w S
section
variable {w0 w w' : World} {S T : Nat → Prop} {g y : Nat} {L L' M M' : List (V × V)}
theorem HasB.duo (h : HasB w0 w S g y L) : Duo w0 w S g y L L := ⟨h.two, h.z⟩
theorem Duo.whole (h : Duo w0 w S g y L L) : HasB w0 w S g y L := ⟨h.two, h.z⟩
theorem Duo.new (h : Duo w0 w S g y L M) (hb : Below w.heap.size w w') : Duo w0 w' S g y L M := by
  obtain ⟨S1, S2, h1, h2, h3⟩ := h.two
  exact ⟨⟨S1, S2, h1.new hb, h2.new hb, h3⟩, h.z.new hb⟩
/-- what the dict's own calls leave -/
theorem Duo.dict (h : Duo w0 w S g y L M) {args : Array Value} {f : Nat} {R : Ending → Prop} (hc : ∀ S1, IsDict w S1 g L → Calls Try.prog f args w fun e w' => R e ∧ IsDict w' (Grew S1 w w') g L' ∧ Mod S1 w w') :
    Calls Try.prog f args w fun e w' => R e ∧ Duo w0 w' (Grew S w w') g y L' M ∧ Mod S w w' := by
  obtain ⟨S1, S2, h1, h2, h3, h4, h5⟩ := h.two
  refine (hc S1 h1).mono ?_
  rintro e w' ⟨hR, hd, hm⟩
  have hmS : Mod S w w' := hm.mono fun i _ hi => h4 i hi
  exact ⟨hR, ⟨⟨_, S2, hd, h2.mod hm h3.symm, h3.step h2.lt, fun i hi => hi.imp (h4 i) id, fun i hi => .inl (h5 i hi)⟩, h.z.step hmS⟩, hmS⟩
theorem Duo.ref (h : Duo w0 w S g y L M) {args : Array Value} {f : Nat} {R : Ending → Prop} (hc : ∀ S2, IsRef w S2 y M → Calls Try.prog f args w fun e w' => R e ∧ IsRef w' (Grew S2 w w') y M' ∧ Mod S2 w w') :
    Calls Try.prog f args w fun e w' => R e ∧ Duo w0 w' (Grew S w w') g y L M' ∧ Mod S w w' := by
  obtain ⟨S1, S2, h1, h2, h3, h4, h5⟩ := h.two
  refine (hc S2 h2).mono ?_
  rintro e w' ⟨hR, hd, hm⟩
  have hmS : Mod S w w' := hm.mono fun i _ hi => h5 i hi
  exact ⟨hR, ⟨⟨S1, _, h1.mod hm h3, hd, (h3.symm.step h1.lt).symm, fun i hi => .inl (h4 i hi), fun i hi => hi.imp (h5 i) id⟩, h.z.step hmS⟩, hmS⟩
end
abbrev ptr (g : Nat) : Value := .pointer (some ⟨g, 0, none⟩)
section
variable {w0 w : World} {S : Nat → Prop} {g y : Nat} {L M : List (V × V)}
theorem Duo.put (h : Duo w0 w S g y L M) (x z : V) (hx : x.Ok) :
    Calls Try.prog 15 #[ptr g, .agg #[.int .i64 x.k, .int .i64 x.n, .string x.s], .agg #[.int .i64 z.k, .int .i64 z.n, .string z.s]] w fun e w' => e = .returned (.bool (putOk L x)) ∧ Duo w0 w' (Grew S w w') g y (putR L x z) M ∧ Mod S w w' :=
  h.dict fun _ hd => put_any hd x z hx
theorem Duo.del (h : Duo w0 w S g y L M) (x : V) (hx : x.Ok) :
    Calls Try.prog 18 #[ptr g, .agg #[.int .i64 x.k, .int .i64 x.n, .string x.s]] w fun e w' => e = .returned (.bool (findL L x).isSome) ∧ Duo w0 w' (Grew S w w') g y (delL L x) M ∧ Mod S w w' :=
  h.dict fun _ hd => (del_any hd x hx).mono fun _ _ ⟨h1, h2, h3⟩ => ⟨h1, h2.grew, h3⟩
theorem Duo.rput (h : Duo w0 w S g y L M) (x z : V) (hL : Keyed M) (hk : ∀ p ∈ M, isKey p.1 = true) (hlen : M.length ≤ 4096) :
    Calls Try.prog 28 #[ptr y, .agg #[.int .i64 x.k, .int .i64 x.n, .string x.s], .agg #[.int .i64 z.k, .int .i64 z.n, .string z.s]] w fun e w' => e = .returned (.bool (putOk M x)) ∧ Duo w0 w' (Grew S w w') g y L (putR M x z) ∧ Mod S w w' :=
  h.ref fun _ hd => rput_any hd x z hL hk hlen
theorem Duo.rdel (h : Duo w0 w S g y L M) (x : V) (hL : Keyed M) (hlen : M.length ≤ 4096) :
    Calls Try.prog 34 #[ptr y, .agg #[.int .i64 x.k, .int .i64 x.n, .string x.s]] w fun e w' => e = .returned (.bool (findL M x).isSome) ∧ Duo w0 w' (Grew S w w') g y L (delL M x) ∧ Mod S w w' :=
  h.ref fun _ hd => rdel_any hd x hL hlen
end
theorem mod_two {S : Nat → Prop} {a b c : World} (h : Mod S a b) (k : Mod (Grew S a b) b c) : Mod S a c := h.trans k fun i hi hg => hg.elim id (fun h' => by omega)
theorem grew_two {S : Nat → Prop} {a b c : World} (h : a.heap.size ≤ b.heap.size) (h' : b.heap.size ≤ c.heap.size) {i : Nat} (hi : Grew (Grew S a b) b c i) : Grew S a c i := by
  rcases hi with (hi | hi) | hi
  · exact .inl hi
  · exact .inr ⟨hi.1, by omega⟩
  · exact .inr ⟨by omega, hi.2⟩
theorem HasB.mono {w0 w : World} {S T : Nat → Prop} {g y : Nat} {L : List (V × V)} (h : HasB w0 w S g y L) (hST : ∀ i, S i → T i) (hz : Zone w0 w T) : HasB w0 w T g y L := by
  obtain ⟨S1, S2, h1, h2, h3, h4, h5⟩ := h.two
  exact ⟨⟨S1, S2, h1, h2, h3, fun i hi => hST i (h4 i hi), fun i hi => hST i (h5 i hi)⟩, hz⟩
/-- both have turned, with what was made meanwhile -/
theorem HasB.after {w0 a b c : World} {S : Nat → Prop} {g y : Nat} {L : List (V × V)} (hz : Zone w0 a S) (h1 : Mod S a b) (h2 : Mod (Grew S a b) b c) (h : HasB w0 c (Grew (Grew S a b) b c) g y L) : HasB w0 c (Grew S a c) g y L :=
  h.mono (fun _ hi => grew_two h1.size h2.size hi) (hz.step (mod_two h1 h2))
end Go.Proofs.Ytfdihmbmlhlkgaa
