/- Handle. -/
import Derived.Test.YthdkloojhenlkaaFrD
import Derived.Test.YthdkloojhenlkaaRowW
namespace Go.Proofs.Ythdkloojhenlkaa
open Go.RowKit
attribute [local go_sem high] guardV eqV neqV
attribute [local go_sem] V.v

/-- the innermost block, if what is raised can go to it -/
def Fr.catch? (F : Fr) : Option (Int × Int) :=
  match F.blocks.getLast? with
  | some (p, h) => if 0 ≤ h ∧ h ≤ F.values.length then some (p, h) else none
  | none => none
def Fr.handled (F : Fr) (x : V) : Fr :=
  match F.catch? with
  | some (p, h) => { F with blocks := F.blocks.dropLast, values := F.values.take h.toNat ++ [x], pc := p }
  | none => F

set_option maxRecDepth 100000 in
set_option maxHeartbeats 400000 in
theorem handle_yes (g : Nat) (F : Fr) (S : Nat → Prop) (x : V) (p : Int) (hh : Nat) (w : World) (hF : IsFr 53 85 w S g F) (hc : F.blocks.getLast? = some (p, (hh : Int))) (hle : hh ≤ F.values.length) (hlen : F.values.length ≤ 4398046511100) :
    Calls Try.prog 23 #[.pointer (some ⟨g, 0, none⟩), x.v] w fun e w' => e = .returned (.bool true) ∧
      IsFr 53 85 w' (Grew S w w') g { F with blocks := F.blocks.dropLast, values := F.values.take hh ++ [x], pc := p } ∧ Mod S w w' := by
  have Hl := Lib.hid (fun w' (hb : Below w.heap.size w w') => leave_any g F S w' (hF.new hb))
  have HF := Lib.hid hF
  obtain ⟨L, B, C, X, K, h, hS, hSl⟩ := hF
  have c8 : w.cell? ⟨g, 8, none⟩ = some X := h.blk.cell 8
  have c9 : w.cell? ⟨g, 9, none⟩ = some K := h.blk.cell 9
  have hlt := h.blk.lt
  obtain ⟨A, n, c, rfl, hr, hA⟩ := h.x.rd
  obtain ⟨A', n', c', rfl, hr', hA'⟩ := h.k.rd
  have hn := hr.le
  have hn2 := hr'.2.1
  have hn3 := hr'.2.2.1
  have hpos : 1 ≤ n' := by
    have := hr'.1
    cases hb : F.blocks with
    | nil => rw [hb] at hc; simp at hc
    | cons => rw [hb] at this; simp at this; omega
  have hhn : hh ≤ n := by rw [← hr.1]; exact hle
  obtain ⟨b', o', rfl, hb', q0, q1⟩ := hr'.at_ (i := n' - 1) (by omega)
  have eK : F.blocks[n' - 1]'(by rw [hr'.1]; omega) = (p, (hh : Int)) := by
    have hl := hr'.1
    rw [List.getLast?_eq_getElem?, List.getElem?_eq_getElem (by omega)] at hc
    injection hc with hc
    rw [← hc]
    congr 1
    omega
  rw [eK] at q0 q1
  clear eK
  have HS := Lib.hid hS
  have HSl := Lib.hid hSl
  have hns : ∀ i, w.heap.size ≤ i → ¬ S i := fun i hi h => by have := hSl i h; omega
  have HC := Lib.hid hc
  clear hS hSl hA hA' hc
  go_enter Try.func23, Try.ntmps23
  go_wp2_with fail
  go_quiet (fail)
  go_wp2_with fail
  generalize hW0 : ((w.alloc (Obj.cells #[Value.int IntKind.i64 x.k, Value.int IntKind.i64 x.n, Value.string x.s] 44)).alloc (Obj.cells #[Value.int IntKind.i64 p, Value.int IntKind.i64 ↑hh] 85)).drewN nq = W0
  have hB0 : Below w.heap.size w W0 := by rw [← hW0]; exact (by repeat (first | exact Below.refl _ _ | assumption | refine Below.setCell ?_ (by first | (simp; done) | (simp; omega) | omega) _ | refine below_drewN ?_ _ | refine Below.drew ?_ | refine Below.alloc ?_ (by first | (simp; done) | (simp; omega) | omega) _))
  have hz0 : W0.heap.size = w.heap.size + 2 := by rw [← hW0]; simp
  have hx0 : Blk W0 w.heap.size 44 #[Value.int IntKind.i64 x.k, Value.int IntKind.i64 x.n, Value.string x.s] := by
    rw [← hW0]
    exact (Blk.new w 44 _).alloc _
  have hp0 : Blk W0 (w.heap.size + 1) 85 #[Value.int IntKind.i64 p, Value.int IntKind.i64 ↑hh] := by
    rw [← hW0]
    have := Blk.new (w.alloc (Obj.cells #[Value.int IntKind.i64 x.k, Value.int IntKind.i64 x.n, Value.string x.s] 44)) 85 #[Value.int IntKind.i64 p, Value.int IntKind.i64 ↑hh]
    have h2 : Blk ((w.alloc (Obj.cells #[Value.int IntKind.i64 x.k, Value.int IntKind.i64 x.n, Value.string x.s] 44)).alloc (Obj.cells #[Value.int IntKind.i64 p, Value.int IntKind.i64 ↑hh] 85)) (w.heap.size + 1) 85 #[Value.int IntKind.i64 p, Value.int IntKind.i64 ↑hh] := by simpa using this
    exact h2
  clear hW0 q0 q1 c8 c9
  refine (Hl.out _ hB0).mono ?_
  rintro e w1 ⟨rfl, hF1, hm1⟩
  have hs1 := hm1.size
  have hx1 := hx0.mod hm1 (hns _ (Nat.le_refl _))
  have hp1 := hp0.mod hm1 (hns _ (by omega))
  have p1 : w1.cell? ⟨w.heap.size + 1, 1, none⟩ = some (.int .i64 hh) := hp1.cell 1
  have HM1 := Lib.hid hm1
  have HF1 := Lib.hid hF1
  have HZ0 := Lib.hid hz0
  have HX1 := Lib.hid hx1
  have HP1 := Lib.hid hp1
  clear hm1 hF1 hx0 hp0 hx1 hp1 hz0
  go_wp2_with fail
  refine (cut_any g _ _ hh w1 HF1.out hle).mono ?_
  rintro e w2 ⟨rfl, hF2, hm2⟩
  have hs2 := hm2.size
  have hn1 : ∀ i, w.heap.size ≤ i → i < w.heap.size + 2 → ¬ Grew S W0 w1 i := by
    rintro i hi hi2 (h | ⟨h, _⟩)
    · exact hns i hi h
    · have := HZ0.out
      omega
  have hx2 := HX1.out.mod hm2 (hn1 _ (Nat.le_refl _) (by omega))
  have hp2 := HP1.out.mod hm2 (hn1 _ (by omega) (by omega))
  have x0 : w2.cell? ⟨w.heap.size, 0, none⟩ = some (.int .i64 x.k) := hx2.cell 0
  have x1 : w2.cell? ⟨w.heap.size, 1, none⟩ = some (.int .i64 x.n) := hx2.cell 1
  have x2 : w2.cell? ⟨w.heap.size, 2, none⟩ = some (.string x.s) := hx2.cell 2
  have HM2 := Lib.hid hm2
  have HF2 := Lib.hid hF2
  have HP2 := Lib.hid hp2
  have HN1 := Lib.hid hn1
  clear hm2 hF2 hx2 hp2 hn1 p1
  go_wp2_with fail
  have hb3 : Below w2.heap.size w2 (w2.alloc (Obj.cells #[Value.int IntKind.i64 x.k, Value.int IntKind.i64 x.n, Value.string x.s] 44)) := (by repeat (first | exact Below.refl _ _ | assumption | refine Below.setCell ?_ (by first | (simp; done) | (simp; omega) | omega) _ | refine below_drewN ?_ _ | refine Below.drew ?_ | refine Below.alloc ?_ (by first | (simp; done) | (simp; omega) | omega) _))
  refine (push_any g _ _ _ 1 1 [x] _ (HF2.out.new hb3) (one_rdV w2 x) (by simp; omega)).mono ?_
  rintro e w3 ⟨rfl, hF3, hm3⟩
  have hs3 := hm3.size
  have hp3 := (HP2.out.below hb3 HP2.out.lt).mod hm3 (by
    rintro (h | ⟨h, _⟩)
    · exact HN1.out _ (by omega) (by omega) h
    · have := HZ0.out
      omega)
  have p0 : w3.cell? ⟨w.heap.size + 1, 0, none⟩ = some (.int .i64 p) := hp3.cell 0
  have HM3 := Lib.hid hm3
  have HB3 := Lib.hid hb3
  have HF3 := Lib.hid hF3
  clear hm3 hF3 hp3 x0 x1 x2 hb3
  obtain ⟨L3, B3, C3, X3, K3, h3, hS3, hSl3⟩ := HF3.out
  have c1 : w3.cell? ⟨g, 1, none⟩ = some (.int .i64 F.pc) := h3.blk.cell 1
  have f1 : w3.frozen? ⟨g, 1, none⟩ = false := h3.blk.frozen 1
  have HS3 := Lib.hid hS3
  have H3 := Lib.hid h3
  clear hS3 hSl3 h3
  go_wp2
  go_ret
  have z0 := hB0.size
  have z3 := HB3.out.size
  have m1 : Mod S w w1 := (Mod.new hB0).trans HM1.out fun _ _ h => h
  have m2 : Mod S w w2 := m1.trans HM2.out fun i hi h => h.elim id fun h => by omega
  have m3 : Mod S w (w2.alloc (Obj.cells #[Value.int IntKind.i64 x.k, Value.int IntKind.i64 x.n, Value.string x.s] 44)) := m2.alloc _
  have m4 : Mod S w w3 := m3.trans HM3.out fun i hi h => h.elim (fun h => h.elim id fun h => by omega) fun h => by omega
  refine ⟨rfl, IsFr.of (set_pc (by decide) (by decide) (by decide) H3.out p) (by simpa [World.setCell] using m4.size) HSl.out (fun i hi => ?_), m4.setCell (fun _ => HS.out g (.inl rfl)) _⟩
  rcases HS3.out i hi with ((h | h) | h) | h
  · exact .inl h
  · exact .inr (by omega)
  · exact .inr (by omega)
  · exact .inr (by omega)

set_option maxRecDepth 100000 in
set_option maxHeartbeats 400000 in
theorem handle_no (g : Nat) (F : Fr) (S : Nat → Prop) (x : V) (w : World) (hF : IsFr 53 85 w S g F) (hc : F.catch? = none) :
    Calls Try.prog 23 #[.pointer (some ⟨g, 0, none⟩), x.v] w fun e w' => e = .returned (.bool false) ∧ Below w.heap.size w w' := by
  obtain ⟨L, B, C, X, K, h, hS, hSl⟩ := hF
  have c8 : w.cell? ⟨g, 8, none⟩ = some X := h.blk.cell 8
  have c9 : w.cell? ⟨g, 9, none⟩ = some K := h.blk.cell 9
  have hlt := h.blk.lt
  obtain ⟨A, n, c, rfl, hr, hA⟩ := h.x.rd
  obtain ⟨A', n', c', rfl, hr', hA'⟩ := h.k.rd
  have hn := hr.le
  have hn2 := hr'.2.1
  have hn3 := hr'.2.2.1
  clear hS hSl hA hA'
  by_cases h0 : n' = 0
  · subst h0
    clear hc
    go_enter Try.func23, Try.ntmps23
    go_wp2
    go_ret
    exact ⟨rfl, (by repeat (first | exact Below.refl _ _ | assumption | refine Below.setCell ?_ (by first | (simp; done) | (simp; omega) | omega) _ | refine below_drewN ?_ _ | refine Below.drew ?_ | refine Below.alloc ?_ (by first | (simp; done) | (simp; omega) | omega) _))⟩
  · have hpos : 1 ≤ n' := by omega
    obtain ⟨b', o', rfl, hb', q0, q1⟩ := hr'.at_ (i := n' - 1) (by omega)
    obtain ⟨p, hh, eK⟩ : ∃ p hh, F.blocks[n' - 1]'(by rw [hr'.1]; omega) = (p, hh) := ⟨_, _, rfl⟩
    have hbad : ¬ (0 ≤ hh ∧ hh ≤ (n : Int)) := by
      have hl := hr'.1
      have e1 : F.blocks.getLast? = some (p, hh) := by
        rw [List.getLast?_eq_getElem?, List.getElem?_eq_getElem (by omega), ← eK]
        congr 2
        omega
      simp only [Fr.catch?, e1, hr.1] at hc
      intro h
      rw [if_pos h] at hc
      cases hc
    rw [eK] at q0 q1
    clear eK hc
    by_cases hneg : hh < 0
    · go_enter Try.func23, Try.ntmps23
      go_wp2
      go_quiet (fail)
      go_wp2
      go_ret
      exact ⟨rfl, (by repeat (first | exact Below.refl _ _ | assumption | refine Below.setCell ?_ (by first | (simp; done) | (simp; omega) | omega) _ | refine below_drewN ?_ _ | refine Below.drew ?_ | refine Below.alloc ?_ (by first | (simp; done) | (simp; omega) | omega) _))⟩
    · have hd : decide (hh < 0) = false := by simpa using hneg
      have hgt : (n : Int) < hh := by omega
      go_enter Try.func23, Try.ntmps23
      go_wp2
      go_quiet (fail)
      go_wp2
      go_ret
      exact ⟨rfl, (by repeat (first | exact Below.refl _ _ | assumption | refine Below.setCell ?_ (by first | (simp; done) | (simp; omega) | omega) _ | refine below_drewN ?_ _ | refine Below.drew ?_ | refine Below.alloc ?_ (by first | (simp; done) | (simp; omega) | omega) _))⟩

theorem handle_any (g : Nat) (F : Fr) (S : Nat → Prop) (x : V) (w : World) (hF : IsFr 53 85 w S g F) (hlen : F.values.length ≤ 4398046511100) :
    Calls Try.prog 23 #[.pointer (some ⟨g, 0, none⟩), x.v] w fun e w' => e = .returned (.bool F.catch?.isSome) ∧ IsFr 53 85 w' (Grew S w w') g (F.handled x) ∧ Mod S w w' := by
  cases hc : F.catch? with
  | none =>
    refine (handle_no g F S x w hF hc).mono fun e w' ⟨he, hb⟩ => ⟨he, ?_, Mod.new hb⟩
    have e1 : F.handled x = F := by simp [Fr.handled, hc]
    rw [e1]
    exact (hF.new hb).grew hb.size
  | some r =>
    obtain ⟨p, hh⟩ := r
    have hc' := hc
    unfold Fr.catch? at hc'
    split at hc'
    · rename_i p' h' hl
      split at hc'
      · rename_i hr
        injection hc' with hc'
        injection hc' with e1 e2
        subst e1 e2
        obtain ⟨j, rfl⟩ := Int.eq_ofNat_of_zero_le hr.1
        refine (handle_yes g F S x p' j w hF hl (by omega) hlen).mono fun e w' ⟨he, h1, h2⟩ => ⟨he, ?_, h2⟩
        have e1 : F.handled x = { F with blocks := F.blocks.dropLast, values := F.values.take j ++ [x], pc := p' } := by simp [Fr.handled, hc]
        rw [e1]
        exact h1
      · cases hc'
    · cases hc'
end Go.Proofs.Ythdkloojhenlkaa
