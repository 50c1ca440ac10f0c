/- Clone, Top, Pop and Take. -/
import Derived.Test.YthdkloojhenlkaaFrB
namespace Go.Proofs.Ythdkloojhenlkaa
open Go.RowKit
attribute [local go_sem high] guardV eqV neqV
attribute [local go_sem] V.v

theorem empty_own (w : World) : OwnV (w.alloc (.cells #[] 44)) (.slice (some ⟨w.heap.size, 0, none⟩) 0 0) [] := Own.made w #[] 0 (by omega) rfl

set_option maxHeartbeats 400000 in
theorem clone_any (A : Option Addr) (n c : Nat) (xs : List V) (w : World) (hr : RdV w A n c xs) (hn : n ≤ 4398046511104) :
    Calls Try.prog 36 #[.slice A n c] w fun e w' => ∃ v, e = .returned v ∧ OwnV w' v xs ∧ (∀ b, v.ownBlock = some b → w.heap.size ≤ b) ∧ Below w.heap.size w w' := by
  have hq := fun (W : World) (a : Option Addr) (l k : Nat) => Lib.run_eql_slice_nil (P := Try.prog) W 24 44 a l k 0 0 Try.underlying24
  cases A with
  | none =>
    have h0 : n = 0 := by
      rcases Nat.eq_zero_or_pos n with h | h
      · exact h
      · obtain ⟨b, o, e, _⟩ := hr.2.2.2.2 h
        cases e
    subst h0
    obtain rfl : xs = [] := List.eq_nil_of_length_eq_zero hr.1
    go_enter Try.func36, Try.ntmps36
    go_wp2
    go_ret
    exact ⟨_, rfl, OwnV.nil_ w, fun b e => (by cases e), Below.refl _ _⟩
  | some a =>
    go_enter Try.func36, Try.ntmps36
    go_wp2_with (at_builtin; refine wpList_appendV _ rfl _ _ rfl (.slice (some ⟨w.heap.size, 0, none⟩) 0 0) [] rfl (empty_own w) (some a) n c xs rfl (hr.new ((Below.refl _ _).alloc (Nat.le_refl _) _)) (by simpa using hn) ?_; intro v w1 hv hg hb)
    go_ret
    refine ⟨v, rfl, by simpa using hv, ?_, ?_⟩
    · intro b e
      rcases hb with e' | e' <;> rw [e'] at e
      · simp [Value.ownBlock] at e; omega
      · simp at e; omega
    · refine Below.grown ((Below.refl w.heap.size w).alloc (Nat.le_refl _) (.cells #[] 44)) hg (by simp) ?_
      intro k e
      simp [Value.ownBlock] at e
      omega

def Fr.topOk (F : Fr) (i : Int) : Bool := decide (0 ≤ i ∧ i < F.values.length)
def Fr.top (F : Fr) (i : Int) : V := if F.topOk i then F.values.getD (F.values.length - 1 - i.toNat) V.zero else V.zero

set_option maxHeartbeats 400000 in
theorem top_any (g : Nat) (F : Fr) (S : Nat → Prop) (i : Int) (w : World) (hF : IsFr 53 85 w S g F) :
    Calls Try.prog 29 #[.pointer (some ⟨g, 0, none⟩), .int .i64 i] w fun e w' => e = .returned (.tuple #[(F.top i).v, .bool (F.topOk i)]) ∧ Below w.heap.size w w' := by
  obtain ⟨L, B, C, X, K, h, hS⟩ := hF
  have c8 : w.cell? ⟨g, 8, none⟩ = some X := h.blk.cell 8
  have hlt := h.blk.lt
  obtain ⟨A, n, c, rfl, hr, hA⟩ := h.x.rd
  have hn := hr.le
  clear hS hA
  by_cases h0 : 0 ≤ i
  · obtain ⟨j, rfl⟩ := Int.eq_ofNat_of_zero_le h0
    by_cases hj : j < n
    · have e1 : F.topOk (j : Int) = true := by simp only [Fr.topOk, decide_eq_true_eq]; have := hr.1; omega
      have hk : n - 1 - j < n := by omega
      obtain ⟨b, o, rfl, hb, q0, q1, q2⟩ := hr.at_ hk
      have e2 : F.top (j : Int) = F.values[n - 1 - j]'(by rw [hr.1]; exact hk) := by
        simp only [Fr.top, e1, if_true, Int.toNat_natCast]
        have hl := hr.1
        have e3 : F.values.length - 1 - j = n - 1 - j := by omega
        rw [List.getD_eq_getElem?_getD, e3, List.getElem?_eq_getElem]
        rfl
      rw [e1, e2]
      generalize F.values[n - 1 - j]'(by rw [hr.1]; exact hk) = v at *
      clear e1 e2 hr
      go_enter Try.func29, Try.ntmps29
      go_wp2
      go_region
      all_goals
        go_wp2
        exact bodyPost_ret (v := .tuple #[v.v, .bool true]) (by simp [results, Try.results29, go_sem]) rfl ⟨rfl, (by repeat (first | exact Below.refl _ _ | assumption | refine Below.setCell ?_ (by first | (simp; done) | (simp; omega) | omega) _ | refine below_drewN ?_ _ | refine Below.drew ?_ | refine Below.alloc ?_ (by first | (simp; done) | (simp; omega) | omega) _))⟩
    · have e1 : F.topOk (j : Int) = false := by simp only [Fr.topOk, decide_eq_false_iff_not]; have := hr.1; omega
      have e2 : F.top (j : Int) = V.zero := by simp [Fr.top, e1]
      rw [e1, e2]
      clear e1 e2 hr
      go_enter Try.func29, Try.ntmps29
      go_wp2
      exact bodyPost_ret (v := .tuple #[V.zero.v, .bool false]) (by simp [results, Try.results29, go_sem, V.zero]) rfl ⟨rfl, (by repeat (first | exact Below.refl _ _ | assumption | refine Below.setCell ?_ (by first | (simp; done) | (simp; omega) | omega) _ | refine below_drewN ?_ _ | refine Below.drew ?_ | refine Below.alloc ?_ (by first | (simp; done) | (simp; omega) | omega) _))⟩
  · have e1 : F.topOk i = false := by simp only [Fr.topOk, decide_eq_false_iff_not]; omega
    have e2 : F.top i = V.zero := by simp [Fr.top, e1]
    have hi : i < 0 := by omega
    rw [e1, e2]
    clear e1 e2 hr
    go_enter Try.func29, Try.ntmps29
    go_wp2
    exact bodyPost_ret (v := .tuple #[V.zero.v, .bool false]) (by simp [results, Try.results29, go_sem, V.zero]) rfl ⟨rfl, (by repeat (first | exact Below.refl _ _ | assumption | refine Below.setCell ?_ (by first | (simp; done) | (simp; omega) | omega) _ | refine below_drewN ?_ _ | refine Below.drew ?_ | refine Below.alloc ?_ (by first | (simp; done) | (simp; omega) | omega) _))⟩

set_option maxHeartbeats 400000 in
theorem pop_any (g : Nat) (F : Fr) (S : Nat → Prop) (w : World) (hF : IsFr 53 85 w S g F) :
    Calls Try.prog 30 #[.pointer (some ⟨g, 0, none⟩)] w fun e w' => e = .returned (.tuple #[(F.top 0).v, .bool (F.topOk 0)]) ∧
      IsFr 53 85 w' (Grew S w w') g { F with values := F.values.dropLast } ∧ Mod S w w' := by
  have Ht := Lib.hid (fun w' (hb : Below w.heap.size w w') => top_any g F S 0 w' (hF.new hb))
  have Hc := Lib.hid (fun w' (hb : Below w.heap.size w w') (k : Nat) (hk : k ≤ F.values.length) => cut_any g F S k w' (hF.new hb) hk)
  have HF := Lib.hid hF
  obtain ⟨L, B, C, X, K, h, hS, hSl⟩ := hF
  have c8 : w.cell? ⟨g, 8, none⟩ = some X := h.blk.cell 8
  have hlt := h.blk.lt
  obtain ⟨A, n, c, rfl, hr, hA⟩ := h.x.rd
  have hn := hr.le
  have hns : ¬ S w.heap.size := fun h => by have := hSl _ h; omega
  have HSl := Lib.hid hSl
  clear hS hA hSl
  cases e1 : F.topOk 0
  · have E1 := Lib.hid e1
    have hnil : F.values = [] := by
      simp only [Fr.topOk, decide_eq_false_iff_not] at e1
      exact List.eq_nil_of_length_eq_zero (by omega)
    have HN := Lib.hid hnil
    clear e1 hnil
    generalize F.top 0 = v at *
    go_enter Try.func30, Try.ntmps30
    go_wp2_with (go_at_call 29; refine (Ht.out _ ((Below.refl _ _).alloc (Nat.le_refl _) _)).mono ?_; rintro e w1 ⟨rfl, hb⟩; rw [E1.out]; obtain ⟨hcl, hfr⟩ := bcell hb; have hz : w.heap.size < w1.heap.size := (by have := hb.size; simp at this; omega); have HB : Below w.heap.size w w1 := (((Below.refl w.heap.size w).alloc (Nat.le_refl _) _).trans (hb.mono (by simp))); have HB := Lib.hid HB; clear hb)
    have hw : Below w.heap.size w _ := (((HB.out.setCell (p := ⟨w.heap.size, 0, none⟩) (Nat.le_refl _) (.int .i64 v.k)).setCell (p := ⟨w.heap.size, 1, none⟩) (Nat.le_refl _) (.int .i64 v.n)).setCell (p := ⟨w.heap.size, 2, none⟩) (Nat.le_refl _) (.string v.s)).alloc (by simp [World.setCell]; omega) (Obj.cells #[Value.int IntKind.i64 v.k, Value.int IntKind.i64 v.n, Value.string v.s] 44)
    refine bodyPost_ret (v := .tuple #[v.v, .bool false]) (by simp [results, Try.results30, go_sem, hcl, hz]) rfl ⟨rfl, ?_, Mod.new hw⟩
    have e2 : F.values.dropLast = F.values := by rw [HN.out]; rfl
    rw [e2]
    exact (HF.out.new hw).grew hw.size
  · have E1 := Lib.hid e1
    have hpos : 1 ≤ n := by
      simp only [Fr.topOk, decide_eq_true_eq] at e1
      have := hr.1
      omega
    have hk : n - 1 ≤ F.values.length := by have := hr.1; omega
    have e2 : F.values.dropLast = F.values.take (n - 1) := by rw [List.dropLast_eq_take, hr.1]
    rw [e2]
    clear e1 e2
    generalize F.top 0 = v at *
    go_enter Try.func30, Try.ntmps30
    go_wp2_with (first
      | (go_at_call 29; refine (Ht.out _ ((Below.refl _ _).alloc (Nat.le_refl _) _)).mono ?_; rintro e w1 ⟨rfl, hb⟩; rw [E1.out]; obtain ⟨hcl, hfr⟩ := bcell hb; have hz : w.heap.size < w1.heap.size := (by have := hb.size; simp at this; omega); have hz1 : g < w1.heap.size := (by omega); have HB : Below w.heap.size w w1 := (((Below.refl w.heap.size w).alloc (Nat.le_refl _) _).trans (hb.mono (by simp))); have hns1 : ¬ S w1.heap.size := (fun h => by have := HSl.out _ h; omega); have HB := Lib.hid HB; clear hb)
      | (go_at_call 39; rw [show ((n : Int) - 1) = ((n - 1 : Nat) : Int) from by omega]; refine (Hc.out _ (HB.out.alloc (by omega) _) _ hk).mono ?_; rintro e w2 ⟨rfl, hF2, hm2⟩; obtain ⟨hcl2, hfr2⟩ := mcell hm2; have hz2 : w1.heap.size < w2.heap.size := (by have := hm2.size; simp at this; omega); have hz3 : w.heap.size < w2.heap.size := (by omega); have hM := Lib.hid hm2; have hF2 := Lib.hid hF2; clear hm2))
    have hw1 := HB.out.alloc (by omega) (Obj.cells #[Value.int IntKind.i64 v.k, Value.int IntKind.i64 v.n, Value.string v.s] 44)
    have hm3 : Mod S w w2 := (Mod.new hw1).trans hM.out fun _ _ h => h
    have h3 := hF2.out
    have r : ∀ o, w2.cell? ⟨w.heap.size, o, none⟩ = (#[Value.int .i64 0, .int .i64 0, .string ⟨#[]⟩] : Array Value)[o]? := by
      intro o
      rw [hcl2 _ _ (by simp; omega) hns, World.cell?_alloc_lt _ _ _ hz, hcl _ _ (by simp)]
      exact (Blk.new w 44 _).cell o
    refine bodyPost_ret (v := .tuple #[v.v, .bool true]) (by simp [results, Try.results30, go_sem, r]) rfl ⟨rfl, ?_, ((hm3.setCell (fun h => absurd h (by simp)) _).setCell (fun h => absurd h (by simp)) _).setCell (fun h => absurd h (by simp)) _⟩
    have hn3 : ¬ Grew S (w1.alloc (Obj.cells #[Value.int IntKind.i64 v.k, Value.int IntKind.i64 v.n, Value.string v.s] 44)) w2 w.heap.size := by
      rintro (h | ⟨p, _⟩)
      · exact hns h
      · simp at p
        omega
    exact (((h3.far (p := ⟨w.heap.size, 0, none⟩) hn3 _).far (p := ⟨w.heap.size, 1, none⟩) hn3 _).far (p := ⟨w.heap.size, 2, none⟩) hn3 _).to (fun i hi => hi.imp_right fun h => by have := h.1; simp at this; omega) HSl.out (by simpa [World.setCell] using hm3.size)
end Go.Proofs.Ythdkloojhenlkaa
