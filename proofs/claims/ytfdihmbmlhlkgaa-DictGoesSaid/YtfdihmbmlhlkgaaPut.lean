/- Put: where the key is there, and where it may not be put. -/
import Derived.Test.YtfdihmbmlhlkgaaPak
namespace Go.Proofs.Ytfdihmbmlhlkgaa
open Go.RowKit
attribute [local go_sem high] guardV eqV neqV
attribute [local go_sem] V.v

set_option maxRecDepth 100000 in
set_option maxHeartbeats 1000000 in
theorem put_no {w : World} {S : Nat → Prop} {g : Nat} {L : List (V × V)} (h : IsDict w S g L) (x y : V) (hx : x.Ok) (hno : findL L x = none) (hk : isKey x = false ∨ 4096 ≤ L.length) :
    Calls Try.prog 15 #[.pointer (some ⟨g, 0, none⟩), .agg #[.int .i64 x.k, .int .i64 x.n, .string x.s], .agg #[.int .i64 y.k, .int .i64 y.n, .string y.s]] w fun e w' => e = .returned (.bool false) ∧ Below w.heap.size w w' := by
  obtain ⟨B, v, rs, f, h, _⟩ := h
  have hb := h.blk.lt
  have c0 := h.blk.cell 0
  simp only [List.getElem?_toArray, List.getElem?_cons_zero] at c0
  obtain ⟨k, n, s⟩ := x
  obtain ⟨k', n', s'⟩ := y
  cases e : f ⟨k, n, s⟩ with
  | some i =>
    obtain ⟨z, hz⟩ := (h.keys _ _).1 e
    have := h.keys.find hz
    rw [h.live, hno] at this
    cases this
  | none =>
    have hl : ∀ o1 o2 q, (Instr.lookup 68 (.map (some B)) (.agg #[.int .i64 k, .int .i64 n, .string s]) true).run Try.prog (((w.alloc o1).alloc o2).drewN q) = .ok (.tuple #[.int .i64 0, .bool false]) (((w.alloc o1).alloc o2).drewN q) := fun o1 o2 q => by
      have := (h.map.new (w' := ((w.alloc o1).alloc o2).drewN q) (by repeat (first | exact Below.refl _ _ | assumption | refine Below.setCell ?_ (by first | (simp; done) | (simp; omega) | omega) _ | refine below_drewN ?_ _ | refine Below.drew ?_ | refine Below.alloc ?_ (by first | (simp; done) | (simp; omega) | omega) _))).look hx
      rw [e] at this
      exact this
    have HM := Lib.hid h.map
    clear h e
    cases hky : isKey ⟨k, n, s⟩ with
    | false =>
      have HKY := Lib.hid hky
      clear hky hk
      go_enter Try.func15, Try.ntmps15
      go_wp2_with fail
      go_quiet (fail)
      go_wp2_with (go_at_call 27; refine (dkey_any k n s _).mono ?_; rintro e w1 ⟨rfl, hb1⟩; rw [HKY.out]; have HB1 := Lib.hid ((show Below w.heap.size w _ from (by repeat (first | exact Below.refl _ _ | assumption | refine Below.setCell ?_ (by first | (simp; done) | (simp; omega) | omega) _ | refine below_drewN ?_ _ | refine Below.drew ?_ | refine Below.alloc ?_ (by first | (simp; done) | (simp; omega) | omega) _))).trans (hb1.mono (by simp; omega))); clear hb1)
      go_ret
      exact ⟨rfl, HB1.out⟩
    | true =>
      have HKY := Lib.hid hky
      have hfull : 4096 ≤ L.length := by
        rcases hk with h' | h'
        · rw [hky] at h'; cases h'
        · exact h'
      clear hky hk
      go_enter Try.func15, Try.ntmps15
      go_wp2_with fail
      go_quiet (fail)
      go_wp2_with (go_at_call 27; refine (dkey_any k n s _).mono ?_; rintro e w1 ⟨rfl, hb1⟩; rw [HKY.out]; have hb0 := (show Below w.heap.size w _ from (by repeat (first | exact Below.refl _ _ | assumption | refine Below.setCell ?_ (by first | (simp; done) | (simp; omega) | omega) _ | refine below_drewN ?_ _ | refine Below.drew ?_ | refine Below.alloc ?_ (by first | (simp; done) | (simp; omega) | omega) _))).trans (hb1.mono (by simp; omega)); have cg1 := (hb0.cell (p := ⟨g, 0, none⟩) hb).trans c0; have hln := (HM.out.new hb0).len; have HB1 := Lib.hid hb0; clear hb1 hb0)
      go_ret
      exact ⟨rfl, HB1.out⟩

theorem rcs_set3 (rs : List Row) (i : Nat) (k y z : V) (h : rs[i]? = some (some (k, y))) :
    ((((rcs rs).set (i * 7 + 3) (.int .i64 z.k)).set (i * 7 + 4) (.int .i64 z.n)).set (i * 7 + 5) (.string z.s)) = rcs (rs.set i (some (k, z))) := by
  induction rs generalizing i with
  | nil => simp at h
  | cons r rs ih =>
    cases i with
    | zero =>
      simp only [List.getElem?_cons_zero, Option.some.injEq] at h
      subst h
      simp [rcs_cons, Row.cs]
    | succ i =>
      have := ih i (by simpa using h)
      have hy : ∃ a0 a1 a2 a3 a4 a5 a6, Row.cs r = [a0, a1, a2, a3, a4, a5, a6] := by cases r <;> exact ⟨_, _, _, _, _, _, _, rfl⟩
      obtain ⟨a0, a1, a2, a3, a4, a5, a6, hy⟩ := hy
      have e3 : (i + 1) * 7 + 3 = i * 7 + 3 + 1 + 1 + 1 + 1 + 1 + 1 + 1 := by omega
      have e4 : (i + 1) * 7 + 4 = i * 7 + 4 + 1 + 1 + 1 + 1 + 1 + 1 + 1 := by omega
      have e5 : (i + 1) * 7 + 5 = i * 7 + 5 + 1 + 1 + 1 + 1 + 1 + 1 + 1 := by omega
      rw [List.set_cons_succ, rcs_cons, rcs_cons, hy, e3, e4, e5, ← this]
      simp
end Go.Proofs.Ytfdihmbmlhlkgaa
