/- A statement's own frame, step by step: what each method leaves of it, told from the statement's beginning on. -/
import Derived.Test.YthdkloojhenlkaaEmp
namespace Go.Proofs.Ythdkloojhenlkaa
open Go.RowKit

/-- A frame that the statement owns: made behind w0. -/
structure Env (w0 w : World) (S : Nat → Prop) (g : Nat) (F : Fr) : Prop where
  fr : IsFr 53 85 w S g F
  own : ∀ i, S i → w0.heap.size ≤ i
  bel : Below w0.heap.size w0 w
/-- what a method that writes leaves of all else -/
structure Kept (S : Nat → Prop) (w : World) (S' : Nat → Prop) (w' : World) : Prop where
  mod : Mod S w w'
  sub : ∀ i, i < w.heap.size → S' i → S i

section
variable {w0 w w' : World} {S S' : Nat → Prop} {g : Nat} {F F' : Fr}
theorem Env.new (h : Env w0 w S g F) (hb : Below w.heap.size w w') : Env w0 w' S g F := ⟨h.fr.new hb, h.own, h.bel.trans (hb.mono h.bel.size)⟩
theorem Env.lt (h : Env w0 w S g F) {i : Nat} (hi : S i) : i < w.heap.size := h.fr.bound i hi
theorem Env.far (h : Env w0 w S g F) {p : Addr} (hp : ¬ S p.block) (hw : w0.heap.size ≤ p.block) (u : Value) : Env w0 (w.setCell p u) S g F := ⟨h.fr.far hp u, h.own, h.bel.setCell hw u⟩
theorem Env.step (h : Env w0 w S g F) (h1 : IsFr 53 85 w' S' g F') (hm : Mod S w w') (hs : ∀ i, S' i → S i ∨ w.heap.size ≤ i) : Env w0 w' S' g F' ∧ Kept S w S' w' := by
  refine ⟨⟨h1, fun i hi => ?_, ?_⟩, ⟨hm, fun i hl hi => (hs i hi).elim id fun h' => by omega⟩⟩
  · rcases hs i hi with h' | h'
    · exact h.own i h'
    · have := h.bel.size
      omega
  · exact h.bel.trans (hm.below h.bel.size fun i hi hS => by have := h.own i hS; omega)
theorem Env.grew (h : Env w0 w S g F) (h1 : IsFr 53 85 w' (Grew S w w') g F') (hm : Mod S w w') : ∃ S', Env w0 w' S' g F' ∧ Kept S w S' w' :=
  ⟨_, h.step h1 hm fun _ hi => hi.imp_right fun h => h.1⟩
theorem Kept.blk (h : Kept S w S' w') {b : Nat} {t : TypeId} {cs : Array Value} (hb : Blk w b t cs) (hn : ¬ S b) : Blk w' b t cs := hb.mod h.mod hn
theorem Kept.out (h : Kept S w S' w') {b : Nat} (hb : b < w.heap.size) (hn : ¬ S b) : ¬ S' b := fun hs => hn (h.sub b hb hs)
theorem Kept.size (h : Kept S w S' w') : w.heap.size ≤ w'.heap.size := h.mod.size
end

section
variable {w0 w : World} {S : Nat → Prop} {g : Nat} {F : Fr}
theorem empty_env (w : World) : Calls Try.prog 19 #[] w fun e w' => ∃ S g, e = .returned (.pointer (some ⟨g, 0, none⟩)) ∧ Env w w' S g Fr.empty :=
  (empty_any w).mono fun _ _ ⟨g, he, hF, hb⟩ => ⟨_, g, he, ⟨hF, fun _ hi => hi.elim (fun h => h.elim) fun h => h.1, hb⟩⟩
theorem push_env (h : Env w0 w S g F) (A : Option Addr) (m c : Nat) (xs : List V) (hr : RdV w A m c xs) (hlen : F.values.length + m ≤ 4398046511104) :
    Calls Try.prog 20 #[.pointer (some ⟨g, 0, none⟩), .slice A m c] w fun e w' => ∃ S', e = .returned (.tuple #[]) ∧ Env w0 w' S' g { F with values := F.values ++ xs } ∧ Kept S w S' w' :=
  (push_any g F S A m c xs w h.fr hr hlen).mono fun _ _ ⟨he, hF, hm⟩ => let ⟨S', h1, h2⟩ := h.grew hF hm; ⟨S', he, h1, h2⟩
theorem enter_env (h : Env w0 w S g F) (p : Int) (hlen : F.blocks.length ≤ 4398046511104) :
    Calls Try.prog 21 #[.pointer (some ⟨g, 0, none⟩), .int .i64 p] w fun e w' => ∃ S', e = .returned (.tuple #[]) ∧ Env w0 w' S' g { F with blocks := F.blocks ++ [(p, (F.values.length : Int))] } ∧ Kept S w S' w' :=
  (enter_any g F S p w h.fr hlen).mono fun _ _ ⟨he, hF, hm⟩ => let ⟨S', h1, h2⟩ := h.grew hF hm; ⟨S', he, h1, h2⟩
theorem leave_env (h : Env w0 w S g F) :
    Calls Try.prog 22 #[.pointer (some ⟨g, 0, none⟩)] w fun e w' => ∃ S', e = .returned (.bool (!F.blocks.isEmpty)) ∧ Env w0 w' S' g { F with blocks := F.blocks.dropLast } ∧ Kept S w S' w' :=
  (leave_any g F S w h.fr).mono fun _ _ ⟨he, hF, hm⟩ => let ⟨S', h1, h2⟩ := h.grew hF hm; ⟨S', he, h1, h2⟩
theorem handle_env (h : Env w0 w S g F) (x : V) (hlen : F.values.length ≤ 4398046511100) :
    Calls Try.prog 23 #[.pointer (some ⟨g, 0, none⟩), x.v] w fun e w' => ∃ S', e = .returned (.bool F.catch?.isSome) ∧ Env w0 w' S' g (F.handled x) ∧ Kept S w S' w' :=
  (handle_any g F S x w h.fr hlen).mono fun _ _ ⟨he, hF, hm⟩ => let ⟨S', h1, h2⟩ := h.grew hF hm; ⟨S', he, h1, h2⟩
theorem pop_env (h : Env w0 w S g F) :
    Calls Try.prog 30 #[.pointer (some ⟨g, 0, none⟩)] w fun e w' => ∃ S', e = .returned (.tuple #[(F.top 0).v, .bool (F.topOk 0)]) ∧ Env w0 w' S' g { F with values := F.values.dropLast } ∧ Kept S w S' w' :=
  (pop_any g F S w h.fr).mono fun _ _ ⟨he, hF, hm⟩ => let ⟨S', h1, h2⟩ := h.grew hF hm; ⟨S', he, h1, h2⟩
theorem load_env (h : Env w0 w S g F) (i : Int) :
    Calls Try.prog 26 #[.pointer (some ⟨g, 0, none⟩), .int .i64 i] w fun e w' => e = .returned (.tuple #[(F.load i).v, .bool (F.isBound i)]) ∧ Env w0 w' S g F ∧ Below w.heap.size w w' :=
  (load_any g F S i w h.fr).mono fun _ _ ⟨he, hb⟩ => ⟨he, h.new hb, hb⟩
theorem top_env (h : Env w0 w S g F) (i : Int) :
    Calls Try.prog 29 #[.pointer (some ⟨g, 0, none⟩), .int .i64 i] w fun e w' => e = .returned (.tuple #[(F.top i).v, .bool (F.topOk i)]) ∧ Env w0 w' S g F ∧ Below w.heap.size w w' :=
  (top_any g F S i w h.fr).mono fun _ _ ⟨he, hb⟩ => ⟨he, h.new hb, hb⟩
def Fr.stored (F : Fr) (i : Int) (x : V) : Fr := if F.has i then { F with locals := F.locals.set i.toNat x, bound := F.bound.set i.toNat true } else F
def Fr.cleared (F : Fr) (i : Int) : Fr := if F.isBound i then { F with locals := F.locals.set i.toNat V.zero, bound := F.bound.set i.toNat false } else F
theorem store_env (h : Env w0 w S g F) (i : Int) (x : V) :
    Calls Try.prog 31 #[.pointer (some ⟨g, 0, none⟩), .int .i64 i, x.v] w fun e w' => ∃ S', e = .returned (.bool (F.has i)) ∧ Env w0 w' S' g (F.stored i x) ∧ Kept S w S' w' :=
  (store_any g F S i x w h.fr).mono fun _ _ ⟨he, hF, hm⟩ => let ⟨S', h1, h2⟩ := h.grew hF hm; ⟨S', he, h1, h2⟩
theorem clear_env (h : Env w0 w S g F) (i : Int) :
    Calls Try.prog 32 #[.pointer (some ⟨g, 0, none⟩), .int .i64 i] w fun e w' => ∃ S', e = .returned (.bool (F.isBound i)) ∧ Env w0 w' S' g (F.cleared i) ∧ Kept S w S' w' :=
  (clear_any g F S i w h.fr).mono fun _ _ ⟨he, hF, hm⟩ => let ⟨S', h1, h2⟩ := h.grew hF hm; ⟨S', he, h1, h2⟩
/-- Take: what it tells is the caller's own -/
theorem take_env (h : Env w0 w S g F) (k : Int) (hlen : F.values.length ≤ 4398046511104) :
    Calls Try.prog 28 #[.pointer (some ⟨g, 0, none⟩), .int .i64 k] w fun e w' => ∃ S' v, e = .returned (.tuple #[v, .bool (F.takeOk k)]) ∧ OwnV w' v (F.taken k) ∧ (∀ b, v.ownBlock = some b → w.heap.size ≤ b ∧ ¬ S' b) ∧
      Env w0 w' S' g (F.took k) ∧ Kept S w S' w' :=
  (take_any g F S k w h.fr hlen).mono fun _ w' ⟨v, he, hv, hvn, hF, hm⟩ => by
    obtain ⟨h1, h2⟩ := h.step hF hm fun i hi => hi.imp_right fun h => h.1
    refine ⟨_, v, he, hv, fun b e => ⟨hvn b e, fun hs => ?_⟩, h1, h2⟩
    rcases hs with hs | hs
    · have := h.lt hs
      have := hvn b e
      omega
    · exact hs.2.2 e
/-- the rows as they are read -/
theorem Env.values (h : Env w0 w S g F) : ∃ A n c, w.cell? ⟨g, 8, none⟩ = some (.slice A n c) ∧ RdV w A n c F.values ∧ ∀ b o, A = some ⟨b, o, none⟩ → S b := by
  obtain ⟨L, B, C, X, K, h1, h2, _⟩ := h.fr
  obtain ⟨A, n, c, rfl, hr, hA⟩ := h1.x.rd
  exact ⟨A, n, c, h1.blk.cell 8, hr, fun b o e => h2 b (.inr (.inr (.inr (.inr (.inl (hA b o e))))))⟩
theorem Env.locals (h : Env w0 w S g F) : ∃ A n c, w.cell? ⟨g, 2, none⟩ = some (.slice A n c) ∧ RdV w A n c F.locals ∧ ∀ b o, A = some ⟨b, o, none⟩ → S b := by
  obtain ⟨L, B, C, X, K, h1, h2, _⟩ := h.fr
  obtain ⟨A, n, c, rfl, hr, hA⟩ := h1.l.rd
  exact ⟨A, n, c, h1.blk.cell 2, hr, fun b o e => h2 b (.inr (.inl (hA b o e)))⟩
theorem Env.blocks (h : Env w0 w S g F) : ∃ A n c, w.cell? ⟨g, 9, none⟩ = some (.slice A n c) ∧ RdK w A n c F.blocks := by
  obtain ⟨L, B, C, X, K, h1, h2, _⟩ := h.fr
  obtain ⟨A, n, c, rfl, hr, hA⟩ := h1.k.rd
  exact ⟨A, n, c, h1.blk.cell 9, hr⟩
theorem Env.pc (h : Env w0 w S g F) : w.cell? ⟨g, 1, none⟩ = some (.int .i64 F.pc) := by
  obtain ⟨L, B, C, X, K, h1, h2, _⟩ := h.fr
  exact h1.blk.cell 1
theorem Env.gin (h : Env w0 w S g F) : S g := by
  obtain ⟨L, B, C, X, K, h1, h2, _⟩ := h.fr
  exact h2 g (.inl rfl)
end
theorem two_rdV (w : World) (x y : V) : RdV (w.alloc (.cells #[.int .i64 x.k, .int .i64 x.n, .string x.s, .int .i64 y.k, .int .i64 y.n, .string y.s] 44)) (some ⟨w.heap.size, 0, none⟩) 2 2 [x, y] := by
  obtain ⟨A, c, e, hr, _⟩ := Own.rd (Own.made (t := 44) (sz := 3) w #[.int .i64 x.k, .int .i64 x.n, .string x.s, .int .i64 y.k, .int .i64 y.n, .string y.s] 2 (by omega) rfl)
  injection e with e1 e2 e3
  subst e1 e3
  exact ⟨rfl, hr⟩
end Go.Proofs.Ythdkloojhenlkaa
