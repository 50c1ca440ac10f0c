/- The parser's small methods, as steps from state to state. -/
import Derived.Test.YtjdcicopjipmnaaDoorAdd
namespace Go.Proofs.YtjdcicopjipmnaaDoor
open Go.RowKit
set_option linter.unusedVariables false
set_option linter.unusedSimpArgs false
section
variable {X : Cx} {F : Nat → Prop} {w : World} {s s' : PS}
theorem PAt.cells (h : PAt X F w s) : w.cell? ⟨X.pb, 2, none⟩ = some (.int .i64 s.at_) ∧ w.cell? ⟨X.pb, 4, none⟩ = some (.int .i64 s.e) ∧ w.cell? ⟨X.pb, 5, none⟩ = some (.map (some X.mb)) ∧ X.pb < w.heap.size := by
  have c5 := h.p.cell 5
  have c4 := h.p.cell 4
  have c2 := h.p.cell 2
  simp only [pcs, List.getElem?_toArray, List.getElem?_cons_zero, List.getElem?_cons_succ] at c5 c4 c2
  exact ⟨c2, c4, c5, h.lt.1⟩
/-- from s to s', with v -/
abbrev Step (X : Cx) (F : Nat → Prop) (f : FuncId) (args : Array Value) (s : PS) (v : Value) (s' : PS) : Prop := ∀ w, PAt X F w s → Calls Tryd.prog f args w fun e w' => e = .returned v ∧ PAt X F w' s' ∧ Keeps X.B w w'
/-- function f is this part of the parser -/
def Part (X : Cx) (f : FuncId) (part : Ex) : Prop := ∀ F s r, part s = some r → r.1.ns.length ≤ 1099511627776 → Step X F f #[X.p] s (.int .i64 r.2) r.1
theorem tok_step (k : Nat) (hk : k ≤ 9) : Step X F 76 #[X.p, .int .i64 k] s (tokV (tokP X.L s k)) s := fun w h => (tok_any h.p h.l h.ln k (h.at9 hk)).mono fun e w' ⟨h1, h2⟩ => ⟨h1, h.bel_ h2, KeepE.of_below _ _ h2⟩
theorem is_step (t : ByteArray) (ht : t.size ≤ maxLen) (k : Nat) (hk : k ≤ 9) : Step X F 102 #[X.p, .string t, .int .i64 k] s (.bool (isP X.L s t k)) s := fun w h => (is_any h.p h.l h.ln t ht k (h.at9 hk) h.tab).mono fun e w' ⟨h1, h2⟩ => ⟨h1, h.bel_ h2, KeepE.of_below _ _ h2⟩
theorem gr_at {d : Int} (h : PAt X F w s) (g : Gr X.L.length d s s') : s'.at_ ≤ X.n := by
  have := h.ln
  rw [← this]
  exact g.le (by rw [this]; exact h.at_)
theorem any_same (l : List ByteArray) : (anyP X.L l s).1.ns = s.ns ∧ (anyP X.L l s).1.dp = s.dp := by
  rcases any_cases (L := X.L) (s := s) l with ⟨h, _⟩ | ⟨t, _, _, h⟩ <;> rw [h] <;> exact ⟨rfl, rfl⟩
theorem any_ret {q r : Nat} {B : Option Addr} {l : List ByteArray} (h : PAt X F w s) (hB : Rd w B q r 1 (l.map Value.string)) (hl : l.length = q) (ht : ∀ t ∈ l, t.size ≤ maxLen) :
    Calls Tryd.prog 94 #[X.p, .slice B q r] w fun e w' => e = .returned (.tuple #[.string (anyP X.L l s).2.1, .bool (anyP X.L l s).2.2]) ∧ PAt X F w' (anyP X.L l s).1 ∧ Keeps X.B w w' := by
  refine (any_any h.p h.l h.ln hB hl ht h.at1 h.tab).mono ?_
  rintro e w' ⟨rfl, hp, hm⟩
  obtain ⟨h2, h3⟩ := h.turn hp hm (any_same l).1 (any_same l).2 (gr_at h (any_any_gr l))
  exact ⟨rfl, h2, h3⟩
theorem take_step_ (t : ByteArray) (ht : t.size ≤ maxLen) : Step X F 77 #[X.p, .string t] s (.bool (takeP X.L t s).2) (takeP X.L t s).1 := fun w h => by
  refine (take_any h.p h.l h.ln t ht h.at1 h.tab).mono ?_
  rintro e w' ⟨rfl, hp, hm⟩
  obtain ⟨h2, h3⟩ := h.turn hp hm (any_same [t]).1 (any_same [t]).2 (gr_at h (take_gr t))
  exact ⟨rfl, h2, h3⟩
theorem fail_same (e at_ : Int) : (failP s e at_).ns = s.ns ∧ (failP s e at_).dp = s.dp ∧ (failP s e at_).at_ = s.at_ := by unfold failP; split <;> exact ⟨rfl, rfl, rfl⟩
theorem fail_step (e at_ : Int) : Step X F 96 #[X.p, .int .i64 e, .int .i64 at_] s (.int .i64 (-1)) (failP s e at_) := fun w h => fail_ret h e at_
theorem need_same (t : ByteArray) : (needP X.L t s).ns = s.ns ∧ (needP X.L t s).dp = s.dp := by
  have h1 := any_same (X := X) (s := s) [t]
  unfold needP
  split
  · exact h1
  · have h2 := fail_same (s := (takeP X.L t s).1) 30 (takeP X.L t s).1.at_
    exact ⟨h2.1.trans h1.1, h2.2.1.trans h1.2⟩
theorem need_step (t : ByteArray) (ht : t.size ≤ maxLen) : Step X F 81 #[X.p, .string t] s (.tuple #[]) (needP X.L t s) := fun w h => by
  refine (need_any h.p h.l h.ln t ht h.at1 h.tab).mono ?_
  rintro e w' ⟨rfl, hp, hm⟩
  obtain ⟨h2, h3⟩ := h.turn hp hm (need_same t).1 (need_same t).2 (gr_at h (need_gr t))
  exact ⟨rfl, h2, h3⟩
theorem name_same : (nameP X.L s).1.ns = s.ns ∧ (nameP X.L s).1.dp = s.dp := by
  unfold nameP
  split
  · exact ⟨rfl, rfl⟩
  · exact ⟨(fail_same _ _).1, (fail_same _ _).2.1⟩
theorem name_step : Step X F 95 #[X.p] s (.string (nameP X.L s).2) (nameP X.L s).1 := fun w h => by
  refine (namep_any h.p h.l h.ln h.ts h.at1 h.tab).mono ?_
  rintro e w' ⟨rfl, hp, hm⟩
  obtain ⟨h2, h3⟩ := h.turn hp hm name_same.1 name_same.2 (gr_at h name_gr)
  exact ⟨rfl, h2, h3⟩
theorem add_step {op at_ n : Int} {t : ByteArray} (hc : (addP s op at_ t n []).1.ns.length ≤ 1099511627776) : Step X F 79 #[X.p, .int .i64 op, .int .i64 at_, .string t, .int .i64 n, .slice none 0 0] s (.int .i64 (addP s op at_ t n []).2) (addP s op at_ t n []).1 := fun w h =>
  add_any h (A := none) (k := 0) (c := 0) (kids := []) (Rd.nil_.2 (by omega)) rfl (by omega) (fun x hx => by cases hx) op at_ n t hc
theorem In.rng {s : PS} {x : Int} (h : In s x) (hs : s.ns.length ≤ 1099511627776) : -1 ≤ x ∧ x ≤ 4611686018427387904 := by
  rcases h with rfl | ⟨k, rfl, h⟩ <;> omega
theorem Gr.lenle {n : Nat} {d : Int} {s s1 : PS} (g : Gr n d s s1) : s.ns.length ≤ s1.ns.length := by
  obtain ⟨t, ht⟩ := g.pre
  rw [ht, List.length_append]
  omega
theorem Rd.ints (w : World) (l : List Int) (cs : Array Value) (n : Nat) (hn : l.length = n) (hc : cs = (ics l).toArray) (hm : n ≤ 9223372036854775807) : Rd (w.alloc (.cells cs 3)) (some ⟨w.heap.size, 0, none⟩) n n 1 (ics l) := by
  subst hn hc
  exact ⟨Nat.le_refl _, hm, ics_length l, fun _ => ⟨w.heap.size, 0, rfl, by simp, fun j u hj => by
    rw [Nat.zero_add, (Blk.new w 3 _).cell]
    simpa using hj⟩⟩
theorem fldT (T : TokD) (w : World) : (Instr.field 39 (tokV T) 1).run Tryd.prog w = .ok (.int .i64 T.at_) w := by kernel_rfl
theorem PAt.look (h : PAt X F w s) {x : Int} (hx : -1 ≤ x ∧ x ≤ 4611686018427387904) : (Instr.lookup 96 (.map (some X.mb)) (.int .i64 x) false).run Tryd.prog w = .ok (.agg #[.int .i64 (deepOf s x), .int .i64 (placeOf s x)]) w ∧ (Instr.field 115 (.agg #[.int .i64 (deepOf s x), .int .i64 (placeOf s x)]) 1).run Tryd.prog w = .ok (.int .i64 (placeOf s x)) w := ⟨h.m.look (wf_of hx), fld1 _ _ _⟩
/-- p.at += k -/
theorem PAt.stepd (h : PAt X F w s) {k : Nat} (hk : s.at_ + k ≤ X.n) : PAt X F (w.setCell ⟨X.pb, 2, none⟩ (.int .i64 ((s.at_ + k : Nat) : Int))) (stepP s k) ∧ Keeps X.B w (w.setCell ⟨X.pb, 2, none⟩ (.int .i64 ((s.at_ + k : Nat) : Int))) :=
  h.turn (h.p.set_ 2 _) (Mod.setCell (S := (· = X.pb)) (p := ⟨X.pb, 2, none⟩) (Mod.refl _ _) (fun _ => rfl) _) rfl rfl hk
theorem wrap_in {a b : Nat} (h : a + b ≤ 9223372036854775807) : IntKind.i64.wrap ((a : Int) + (b : Int)) = ((a + b : Nat) : Int) := by rw [IntWalk.i64_in _ (by omega)]; omega
theorem sml {t : ByteArray} (h : t.size ≤ 100) : t.size ≤ maxLen := by unfold maxLen; omega
end
end Go.Proofs.YtjdcicopjipmnaaDoor
