/- pack: which rows are gone, the first of them. -/
import Derived.Test.YtfdihmbmlhlkgaaDel
namespace Go.Proofs.Ytfdihmbmlhlkgaa
open Go.RowKit
attribute [local go_sem high] guardV eqV neqV
attribute [local go_sem] V.v

theorem gone_any (r : Row) (w : World) : Calls Try.prog 41 #[.agg r.cs.toArray] w fun e w' => e = .returned (.bool r.isNone) ∧ Below w.heap.size w w' := by
  cases r with
  | none =>
    show Calls Try.prog 41 #[.agg #[.int .i64 0, .int .i64 0, .string ⟨#[]⟩, .int .i64 0, .int .i64 0, .string ⟨#[]⟩, .bool true]] w _
    go_enter Try.func41, Try.ntmps41
    go_wp2
    go_ret
    exact ⟨rfl, (by repeat (first | exact Below.refl _ _ | assumption | refine Below.setCell ?_ (by first | (simp; done) | (simp; omega) | omega) _ | refine below_drewN ?_ _ | refine Below.drew ?_ | refine Below.alloc ?_ (by first | (simp; done) | (simp; omega) | omega) _))⟩
  | some p =>
    obtain ⟨⟨k, n, s⟩, ⟨k', n', s'⟩⟩ := p
    show Calls Try.prog 41 #[.agg #[.int .i64 k, .int .i64 n, .string s, .int .i64 k', .int .i64 n', .string s', .bool false]] w _
    go_enter Try.func41, Try.ntmps41
    go_wp2
    go_ret
    exact ⟨rfl, (by repeat (first | exact Below.refl _ _ | assumption | refine Below.setCell ?_ (by first | (simp; done) | (simp; omega) | omega) _ | refine below_drewN ?_ _ | refine Below.drew ?_ | refine Below.alloc ?_ (by first | (simp; done) | (simp; omega) | omega) _))⟩

/-- Each cell of a row, as the walk reads them. -/
theorem row_cells (r : Row) : ∃ a0 a1 a2 a3 a4 a5 a6, r.cs = [a0, a1, a2, a3, a4, a5, a6] := by cases r <;> exact ⟨_, _, _, _, _, _, _, rfl⟩
theorem Own.at_ {w : World} {b m c i : Nat} {rs : List Row} (h : Own w 73 7 (.slice (some ⟨b, 0, none⟩) m c) rs.length (rcs rs)) {r : Row} (hr : rs[i]? = some r) :
    b < w.heap.size ∧ ∀ j u, r.cs[j]? = some u → w.cell? ⟨b, i * 7 + j, none⟩ = some u := by
  have hl := (List.getElem?_eq_some_iff.1 hr).1
  obtain ⟨hle, ⟨e, _⟩ | ⟨b', c', cur, e, hb, h1, h2, h3, h4⟩⟩ := h
  · cases e
  · simp only [Value.slice.injEq, Option.some.injEq, Addr.mk.injEq, and_true] at e
    obtain ⟨rfl, rfl, rfl⟩ := e
    refine ⟨(Array.getElem?_eq_some_iff.1 hb).1, fun j u hj => ?_⟩
    have hj7 : j < 7 := by have := (List.getElem?_eq_some_iff.1 hj).1; rwa [Row.cs_length] at this
    rw [← rcs_at rs i r hr j hj7, ← h4, List.getElem?_take, if_pos (by omega)] at hj
    rw [cell_of_row w b _ cur 73 (0, 0) hb]
    simpa using hj
/-- the first row that is gone; -1: none is -/
def GoneAt (rs : List Row) (z : Int) : Prop := (z = -1 ∧ ∀ r ∈ rs, Option.isNone r = false) ∨ ∃ k : Nat, z = k ∧ rs[k]? = some none ∧ ∀ r ∈ rs.take k, Option.isNone r = false
set_option maxRecDepth 100000 in
set_option maxHeartbeats 400000 in
theorem index_any (b c : Nat) (rs : List Row) (w : World) (h : Own w 73 7 (.slice (some ⟨b, 0, none⟩) rs.length c) rs.length (rcs rs)) (hn : rs.length ≤ 100000) :
    Calls Try.prog 42 #[.slice (some ⟨b, 0, none⟩) rs.length c, .func (.func 41) #[] #[]] w fun e w' => ∃ z, e = .returned (.int .i64 z) ∧ GoneAt rs z ∧ Below w.heap.size w w' := by
  go_enter Try.func42, Try.ntmps42
  go_wp2_with fail
  go_loopw [8] (fun i wr => ∃ k : Nat, k ≤ rs.length ∧ i = .int .i64 k ∧ Hid (∀ r ∈ rs.take k, Option.isNone r = false) ∧ Below w.heap.size w wr) (fun i _ => rs.length - (intOf i).toNat)
  case atStart => exact ⟨0, Nat.zero_le _, rfl, by intro r hr; simp at hr, Below.refl _ _⟩
  case round =>
    obtain ⟨k, hk, rfl, hno, hbw⟩ := hrel
    by_cases hlt : k < rs.length
    · obtain ⟨r, hr⟩ : ∃ r, rs[k]? = some r := ⟨rs[k]'(by omega), List.getElem?_eq_getElem _⟩
      obtain ⟨hb, hc⟩ := (h.new hbw).at_ hr
      obtain ⟨a0, a1, a2, a3, a4, a5, a6, er⟩ := row_cells r
      have z0 := hc 0 a0 (by rw [er]; rfl)
      have z1 := hc 1 a1 (by rw [er]; rfl)
      have z2 := hc 2 a2 (by rw [er]; rfl)
      have z3 := hc 3 a3 (by rw [er]; rfl)
      have z4 := hc 4 a4 (by rw [er]; rfl)
      have z5 := hc 5 a5 (by rw [er]; rfl)
      have z6 := hc 6 a6 (by rw [er]; rfl)
      simp only [Nat.add_zero] at z0
      have HC := Lib.hid (gone_any r wr)
      rw [er] at HC
      have HB := Lib.hid hbw
      have HR := Lib.hid hr
      clear hc hbw er hr
      cases hg : Option.isNone r with
      | true =>
        have HG := Lib.hid hg
        clear hg
        go_wp2_with (go_at_call 41; refine HC.out.mono ?_; rintro e w' ⟨rfl, hb2⟩; rw [HG.out])
        go_ret
        refine ⟨k, rfl, .inr ⟨k, rfl, ?_, hno.out⟩, HB.out.trans (hb2.mono HB.out.size)⟩
        rw [HR.out]
        have := HG.out
        cases r with
        | none => rfl
        | some p => cases this
      | false =>
        have HG := Lib.hid hg
        have HN : Hid (∀ r ∈ rs.take (k + 1), Option.isNone r = false) := by
          intro y hy
          have hl := (List.getElem?_eq_some_iff.1 HR.out)
          obtain ⟨hl, hl2⟩ := hl
          rw [List.take_succ_eq_append_getElem hl, List.mem_append, List.mem_singleton] at hy
          rcases hy with hy | rfl
          · exact hno.out y hy
          · rw [hl2]; exact HG.out
        clear hg
        go_wp2_with (go_at_call 41; refine HC.out.mono ?_; rintro e w' ⟨rfl, hb2⟩; rw [HG.out])
        go_roundw
        case rel => exact ⟨k + 1, by omega, by go_num, HN.out, HB.out.trans (hb2.mono HB.out.size)⟩
        case measure => simp [intOf]; omega
    · have HN := Lib.hid hno
      have HB := Lib.hid hbw
      clear hno hbw
      go_wp2_with fail
      go_ret
      refine ⟨-1, rfl, .inl ⟨rfl, ?_⟩, HB.out⟩
      have := HN.out.out
      rwa [List.take_of_length_le (by omega)] at this
end Go.Proofs.Ytfdihmbmlhlkgaa
