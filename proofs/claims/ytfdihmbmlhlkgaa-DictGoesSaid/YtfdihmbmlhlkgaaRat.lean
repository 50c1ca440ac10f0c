/- The reference's at. -/
import Derived.Test.YtfdihmbmlhlkgaaPrs
namespace Go.Proofs.Ytfdihmbmlhlkgaa
open Go.RowKit
attribute [local go_sem high] guardV eqV neqV
attribute [local go_sem] V.v

theorem ownP_at {w : World} {v : Value} {L : List (V × V)} (h : Own w 42 6 v L.length (pcs L)) {i : Nat} {r : V × V} (hr : L[i]? = some r) :
    ∃ b c, v = .slice (some ⟨b, 0, none⟩) L.length c ∧ b < w.heap.size ∧ ∀ j u, (pairCs r)[j]? = some u → w.cell? ⟨b, i * 6 + j, none⟩ = some u := by
  have hl := (List.getElem?_eq_some_iff.1 hr).1
  obtain ⟨hle, ⟨_, h0⟩ | ⟨b, c, cur, rfl, hb, h1, h2, h3, h4⟩⟩ := h
  · omega
  · refine ⟨b, c, rfl, (Array.getElem?_eq_some_iff.1 hb).1, fun j u hj => ?_⟩
    have hj7 : j < 6 := by have := (List.getElem?_eq_some_iff.1 hj).1; rwa [pairCs_length] at this
    rw [← pcs_at L i r hr j hj7, ← h4, List.getElem?_take, if_pos (by omega)] at hj
    rw [cell_of_row w b _ cur 42 (0, 0) hb]
    simpa using hj
/-- the place of a key's pair; -1: there is none -/
def PlaceAt (L : List (V × V)) (x : V) (z : Int) : Prop := (z = -1 ∧ ∀ p ∈ L, p.1 ≠ x) ∨ ∃ (i : Nat) (p : V × V), z = i ∧ L[i]? = some p ∧ p.1 = x ∧ ∀ q ∈ L.take i, q.1 ≠ x

set_option maxRecDepth 100000 in
set_option maxHeartbeats 600000 in
theorem rat_any {w : World} {S : Nat → Prop} {y : Nat} {L : List (V × V)} (h : IsRef w S y L) (x : V) (hn : L.length ≤ 100000) :
    Calls Try.prog 39 #[.pointer (some ⟨y, 0, none⟩), .agg #[.int .i64 x.k, .int .i64 x.n, .string x.s]] w fun e w' => ∃ z, e = .returned (.int .i64 z) ∧ PlaceAt L x z ∧ Below w.heap.size w w' := by
  obtain ⟨v, hb, ho, _⟩ := h
  have hy := hb.lt
  obtain ⟨A, c, rfl, hrd, _⟩ := Own.rd ho
  obtain ⟨k, n, s⟩ := x
  have HO := Lib.hid ho
  have HB := Lib.hid hb
  clear hb ho
  go_enter Try.func39, Try.ntmps39
  go_wp2_with fail
  go_loopw [5] (fun i wr => ∃ (j q : Nat), j ≤ L.length ∧ i = .int .i64 j ∧ Hid (∀ p ∈ L.take j, p.1 ≠ ⟨k, n, s⟩) ∧ wr = (w.alloc (.cells #[.int .i64 k, .int .i64 n, .string s] 24)).drewN q) (fun i _ => L.length - (intOf i).toNat)
  case atStart => exact ⟨0, 0, Nat.zero_le _, rfl, by intro p hp; simp at hp, rfl⟩
  case round =>
    obtain ⟨j, q, hj, rfl, hno, rfl⟩ := hrel
    have hbw : Below w.heap.size w ((w.alloc (.cells #[.int .i64 k, .int .i64 n, .string s] 24)).drewN q) := (by repeat (first | exact Below.refl _ _ | assumption | refine Below.setCell ?_ (by first | (simp; done) | (simp; omega) | omega) _ | refine below_drewN ?_ _ | refine Below.drew ?_ | refine Below.alloc ?_ (by first | (simp; done) | (simp; omega) | omega) _))
    have c0 := HB.out.cell 0
    simp only [List.getElem?_toArray, List.getElem?_cons_zero] at c0
    have HBW := Lib.hid hbw
    by_cases hlt : j < L.length
    · obtain ⟨p, hp⟩ : ∃ p, L[j]? = some p := ⟨L[j], List.getElem?_eq_getElem _⟩
      obtain ⟨b, c2, e2, hb1, hc⟩ := ownP_at HO.out hp
      simp only [Value.slice.injEq] at e2
      obtain ⟨rfl, _, rfl⟩ := e2
      obtain ⟨⟨k1, n1, s1⟩, ⟨k2, n2, s2⟩⟩ := p
      have z0 := hc 0 (.int .i64 k1) rfl
      have z1 := hc 1 (.int .i64 n1) rfl
      have z2 := hc 2 (.string s1) rfl
      simp only [Nat.add_zero] at z0
      have HP := Lib.hid hp
      clear hc hbw hp hrd
      by_cases e : V.mk k1 n1 s1 = V.mk k n s
      · have hs : V.same ⟨k1, n1, s1⟩ ⟨k, n, s⟩ = true := V.same_iff.2 e
        have E := Lib.hid e
        clear e
        go_wp2
        go_quiet (fail)
        go_wp2
        go_ret
        exact ⟨j, rfl, .inr ⟨j, _, rfl, HP.out, E.out, hno.out⟩, below_drewN HBW.out _⟩
      · have hs : V.same ⟨k1, n1, s1⟩ ⟨k, n, s⟩ = false := V.same_not.2 e
        have HN : Hid (∀ p ∈ L.take (j + 1), p.1 ≠ ⟨k, n, s⟩) := by
          intro p hp
          obtain ⟨hl, hl2⟩ := List.getElem?_eq_some_iff.1 HP.out
          rw [List.take_succ_eq_append_getElem hl, List.mem_append, List.mem_singleton] at hp
          rcases hp with hp | rfl
          · exact hno.out p hp
          · rw [hl2]; exact e
        clear e
        go_wp2
        go_quiet (fail)
        go_wp2
        go_roundw
        case rel => exact ⟨j + 1, _, by omega, by go_num, HN.out, rfl⟩
        case measure => simp [intOf]; omega
    · have HN := Lib.hid hno
      clear hno hbw
      go_wp2_with fail
      go_ret
      refine ⟨-1, rfl, .inl ⟨rfl, ?_⟩, HBW.out⟩
      have := HN.out.out
      rwa [List.take_of_length_le (by omega)] at this
end Go.Proofs.Ytfdihmbmlhlkgaa
