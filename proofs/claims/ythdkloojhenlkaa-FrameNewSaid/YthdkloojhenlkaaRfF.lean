/- The reference's Pop. -/
import Derived.Test.YthdkloojhenlkaaRfE
namespace Go.Proofs.Ythdkloojhenlkaa
open Go.RowKit
attribute [local go_sem high] guardV eqV neqV
attribute [local go_sem] V.v

theorem GrewBut.far_new {S : Nat → Prop} {w w' : World} {v : Value} {o : Obj} (hn : ¬ S w.heap.size) : ¬ GrewBut S (w.alloc o) w' v w.heap.size := by
  rintro (h | ⟨p, _⟩)
  · exact hn h
  · simp at p
    omega

set_option maxHeartbeats 400000 in
theorem rpop_any (g : Nat) (F : Fr) (S : Nat → Prop) (w : World) (hF : IsFr 82 86 w S g F) (hlen : F.values.length ≤ 1000000) :
    Calls Try.prog 43 #[.pointer (some ⟨g, 0, none⟩)] w fun e w' => e = .returned (.tuple #[(F.top 0).v, .bool (F.topOk 0)]) ∧
      IsFr 82 86 w' (Grew S w w') g { F with values := F.values.dropLast } ∧ Mod S w w' := by
  have Ht := Lib.hid (fun w' (hb : Below w.heap.size w w') => rtake_any g F S 1 w' (hF.new hb) hlen (by omega))
  have hSl : ∀ i, S i → i < w.heap.size := by obtain ⟨L, B, C, X, K, h, hS, hSl⟩ := hF; exact hSl
  have hlt : g < w.heap.size := by obtain ⟨L, B, C, X, K, h, hS, hSl⟩ := hF; exact h.blk.lt
  have hns : ¬ S w.heap.size := fun h => by have := hSl _ h; omega
  have HSl := Lib.hid hSl
  clear hSl
  have hB0 : Mod S w (w.alloc (.cells #[.int .i64 0, .int .i64 0, .string ⟨#[]⟩] 44)) := Mod.new (by repeat (first | exact Below.refl _ _ | assumption | refine Below.setCell ?_ (by first | (simp; done) | (simp; omega) | omega) _ | refine below_drewN ?_ _ | refine Below.drew ?_ | refine Below.alloc ?_ (by first | (simp; done) | (simp; omega) | omega) _))
  have HB0 := Lib.hid hB0
  have hbk := Blk.new w 44 #[.int .i64 0, .int .i64 0, .string ⟨#[]⟩]
  have HBK := Lib.hid hbk
  clear hB0 hbk
  cases e1 : F.topOk 0
  · have hnil : F.values = [] := by
      simp only [Fr.topOk, decide_eq_false_iff_not] at e1
      exact List.eq_nil_of_length_eq_zero (by omega)
    have e2 : F.takeOk 1 = false := by simp [Fr.takeOk, hnil]
    have e3 : F.took 1 = F := by simp [Fr.took, e2]
    have e4 : F.top 0 = V.zero := by simp [Fr.top, e1]
    have e5 : F.values.dropLast = F.values := by rw [hnil]; rfl
    rw [e3] at Ht
    rw [e4, e5]
    have E2 := Lib.hid e2
    clear e1 e2 e3 e4 e5 hnil
    go_enter Try.func43, Try.ntmps43
    go_wp2_with (go_at_call 45; refine (Ht.out _ ((Below.refl _ _).alloc (Nat.le_refl _) _)).mono ?_; rintro e w1 ⟨v, rfl, hv, hvn, hF1, hm1⟩; rw [E2.out]; obtain ⟨A1, n1, c1, rfl, _⟩ := OwnV.rd hv; have hbk1 := HBK.out.mod hm1 hns; have hz := hbk1.lt; have d0 : w1.cell? ⟨w.heap.size, 0, none⟩ = some (.int .i64 0) := hbk1.cell 0; have d1 : w1.cell? ⟨w.heap.size, 1, none⟩ = some (.int .i64 0) := hbk1.cell 1; have d2 : w1.cell? ⟨w.heap.size, 2, none⟩ = some (.string ⟨#[]⟩) := hbk1.cell 2; have f0 := hbk1.frozen 0; have f1 := hbk1.frozen 1; have f2 := hbk1.frozen 2; have HM := Lib.hid (HB0.out.trans hm1 fun _ _ h => h); have HF1 := Lib.hid hF1; clear hv hvn hF1 hm1 hbk1)
    refine bodyPost_ret (v := .tuple #[V.zero.v, .bool false]) (by simp [results, Try.results43, go_sem, V.zero, d0, d1, d2]) rfl ⟨rfl, ?_, ((HM.out.setCell (fun h => absurd h (by simp)) _).setCell (fun h => absurd h (by simp)) _).setCell (fun h => absurd h (by simp)) _⟩
    exact (((HF1.out.far (p := ⟨w.heap.size, 0, none⟩) (GrewBut.far_new hns) _).far (p := ⟨w.heap.size, 1, none⟩) (GrewBut.far_new hns) _).far (p := ⟨w.heap.size, 2, none⟩) (GrewBut.far_new hns) _).to (fun i hi => hi.imp_right fun h => by have := h.1; simp at this; omega) HSl.out (by simpa [World.setCell] using HM.out.size)
  · have hpos : 1 ≤ F.values.length := by
      simp only [Fr.topOk, decide_eq_true_eq] at e1
      omega
    have e2 : F.takeOk 1 = true := by simp only [Fr.takeOk, decide_eq_true_eq]; omega
    have e3 : F.took 1 = { F with values := F.values.dropLast } := by simp [Fr.took, e2, List.dropLast_eq_take]
    have e4 : F.taken 1 = [F.top 0] := by
      simp only [Fr.taken, e2, Fr.top, e1, if_true]
      have hq : F.values ≠ [] := fun e => by simp [e] at hpos
      obtain ⟨l, a, hl⟩ : ∃ l a, F.values = l ++ [a] := ⟨_, _, (List.dropLast_concat_getLast hq).symm⟩
      rw [hl]
      simp
    rw [e3, e4] at Ht
    have E2 := Lib.hid e2
    clear e1 e2 e3 e4
    generalize F.top 0 = x at *
    go_enter Try.func43, Try.ntmps43
    go_wp2_with (go_at_call 45; refine (Ht.out _ ((Below.refl _ _).alloc (Nat.le_refl _) _)).mono ?_; rintro e w1 ⟨v, rfl, hv, hvn, hF1, hm1⟩; rw [E2.out]; obtain ⟨A1, n1, c1, rfl, hr1, _⟩ := OwnV.rd hv; have hn1 : n1 = 1 := (by have := hr1.1; simpa using this.symm); subst hn1; obtain ⟨b1, o1, rfl, hbb, hc0, hc1, hc2⟩ := hr1.at_ (i := 0) (by omega); simp only [List.getElem_cons_zero, Nat.zero_mul, Nat.add_zero] at hc0 hc1 hc2; have hbk1 := HBK.out.mod hm1 hns; have hz := hbk1.lt; have d0 : w1.cell? ⟨w.heap.size, 0, none⟩ = some (.int .i64 0) := hbk1.cell 0; have d1 : w1.cell? ⟨w.heap.size, 1, none⟩ = some (.int .i64 0) := hbk1.cell 1; have d2 : w1.cell? ⟨w.heap.size, 2, none⟩ = some (.string ⟨#[]⟩) := hbk1.cell 2; have f0 := hbk1.frozen 0; have f1 := hbk1.frozen 1; have f2 := hbk1.frozen 2; have HM := Lib.hid (HB0.out.trans hm1 fun _ _ h => h); have HF1 := Lib.hid hF1; clear hv hvn hF1 hm1 hbk1 hr1)
    refine bodyPost_ret (v := .tuple #[x.v, .bool true]) (by simp [results, Try.results43, go_sem, d0, d1, d2]) rfl ⟨rfl, ?_, ((HM.out.setCell (fun h => absurd h (by simp)) _).setCell (fun h => absurd h (by simp)) _).setCell (fun h => absurd h (by simp)) _⟩
    exact (((HF1.out.far (p := ⟨w.heap.size, 0, none⟩) (GrewBut.far_new hns) _).far (p := ⟨w.heap.size, 1, none⟩) (GrewBut.far_new hns) _).far (p := ⟨w.heap.size, 2, none⟩) (GrewBut.far_new hns) _).to (fun i hi => hi.imp_right fun h => by have := h.1; simp at this; omega) HSl.out (by simpa [World.setCell] using HM.out.size)
end Go.Proofs.Ythdkloojhenlkaa
