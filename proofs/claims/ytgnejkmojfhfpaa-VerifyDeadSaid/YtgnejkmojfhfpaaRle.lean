/- The reference's Look: all of it. -/
import Derived.Test.YtgnejkmojfhfpaaRlb
import Derived.Test.YtgnejkmojfhfpaaRlc
import Derived.Test.YtgnejkmojfhfpaaRld
import Derived.Test.YtgnejkmojfhfpaaRlf
import Derived.Test.YtgnejkmojfhfpaaRtx
namespace Go.Proofs.Ytgnejkmojfhfpaa
open Go.RowKit
set_option linter.unusedVariables false
set_option linter.unusedSimpArgs false

theorem free_le {w : World} {A : Option Addr} {n k : Nat} {p : ProgD} (hp : ProgAt w A n k p) {i : Nat} {x : CodeD} (hx : p[i]? = some x) : x.free.length ≤ 140737488351232 := by
  obtain ⟨b, o, cs, rfl, hb, hca, -⟩ := hp.at_ hx
  obtain ⟨A1, n1, c1, A2, n2, c2, A3, n3, c3, A4, n4, c4, A5, n5, c5, A6, n6, c6, e, h1, h2, h3, h4, h5, h6, m1, m2, m3, m4⟩ := hca.parts
  rw [h3.1]
  exact m3
theorem takes_bound {w : World} {A : Option Addr} {n k : Nat} {p : ProgD} {c : CodeD} (hp : ProgAt w A n k p) {op a h : Int} (hx : wrongE p c (op, a) = 0) (h0 : 0 ≤ h) (hm : h < 1099511627776) :
    (0 ≤ (takesE p (op, a) h).1 ∧ (takesE p (op, a) h).1 ≤ 281474976710656) ∧ 0 ≤ (takesE p (op, a) h).2 ∧ (takesE p (op, a) h).2 ≤ 3 := by
  obtain ⟨kd, tk, lv, he0, hmay, _⟩ := right_parts hx
  have he : effOf op = some (kd, tk, lv) := he0
  clear he0
  obtain ⟨l1, l2, l3, _⟩ := effOf_le he
  have ht : takesE p (op, a) h = (tk.takesR p h a, lv) := by
    unfold takesE
    rw [he]
  rw [ht]
  refine ⟨?_, l1, l2⟩
  have hok : tkOk (kd, tk, lv) = true := by
    unfold effOf at he
    rw [if_pos (by omega)] at he
    exact effs_ok _ (List.mem_of_getElem? he)
  have hfree : ∀ kind c', codeAt p a kind = some c' → (c'.free.length : Int) ≤ 140737488351232 := by
    intro kind c' hc
    obtain ⟨i, x, _, hi, hx'⟩ := func_at (p := p) (a := a) (kind := kind) (by rw [hc]; rfl)
    rw [hc] at hx'
    cases hx'
    have := free_le hp hi
    omega
  cases tk with
  | just m =>
    simp only [tkOk, decide_eq_true_eq] at hok
    simp only [Tk.takesR]
    omega
  | each b m =>
    simp only [tkOk, decide_eq_true_eq] at hok
    obtain ⟨rfl, h2, h3, h4, h5⟩ := hok
    have ha : 0 ≤ a := by simpa [Kd.may] using hmay
    have hc : 0 ≤ capE a h ∧ capE a h ≤ h + 1 := by unfold capE; split <;> omega
    simp only [Tk.takesR]
    have hb : b = 0 ∨ b = 1 ∨ b = 2 := by omega
    rcases hb with rfl | rfl | rfl <;> omega
  | given =>
    simp only [Tk.takesR]
    split
    · rename_i c' hc
      have := hfree _ _ hc
      have hd := codeAt_def hc
      have hc : 0 ≤ capE c'.defaults h ∧ capE c'.defaults h ≤ h + 1 := by unfold capE; split <;> omega
      omega
    · omega
  | around =>
    simp only [Tk.takesR]
    split
    · rename_i c' hc
      have := hfree _ _ hc
      omega
    · omega
set_option maxHeartbeats 4000000 in
theorem look_ref {w : World} {A Ab : Option Addr} {n k nb cb : Nat} {p : ProgD} {c : CodeD} {bl : List (Int × Int)} {op a h : Int} {i : Nat} (hp : ProgAt w A n k p) (hx : wrongE p c (op, a) = 0) (h0 : 0 ≤ h) (hm : h < 1099511627776)
    (hi : i ≤ 17592186044416) (hbl : BlAt w Ab nb cb bl) (hnb : nb ≤ 1099511627775) :
    Calls Try.prog 17 #[.slice A n k, .agg #[.int .i64 op, .int .i64 a], .int .i64 i, .agg #[.int .i64 h, .slice Ab nb cb]] w (LookRR w Ab (waysR p (op, a) i ⟨h, bl⟩)) := by
  have hT : ∀ w', Below w.heap.size w w' → Calls Try.prog 19 #[.slice A n k, .agg #[.int .i64 op, .int .i64 a], .int .i64 h] w' (TkR w' (takesE p (op, a) h).1 (takesE p (op, a) h).2) :=
    fun w' hb => takes_any (hp.new hb) hx h0 hm
  obtain ⟨hT0, hlv⟩ := takes_bound hp hx h0 hm
  obtain ⟨kd, tk, lv', he, _, _⟩ := right_parts hx
  obtain ⟨_, _, l1, l2⟩ := effOf_le he
  have hh : 0 ≤ h ∧ h ≤ 70368744177664 := by omega
  unfold waysR
  simp only
  generalize (takesE p (op, a) h).1 = T at *
  generalize (takesE p (op, a) h).2 = lv at *
  clear hx he hp
  simp only at l1 l2
  by_cases c1 : h < T
  · rw [show lookE T lv op a i ⟨h, bl⟩ = none by unfold lookE; rw [if_pos (.inl (by simp only; omega))]]
    exact rlook_low hT hT0 hh hlv hi hbl hnb c1
  by_cases c2 : (43 ≤ op ∧ op ≤ 45) ∧ h ≤ a
  · rw [show lookE T lv op a i ⟨h, bl⟩ = none by unfold lookE; rw [if_pos (.inr (.inl ⟨by omega, c2.2⟩))]]
    exact rlook_deep hT hT0 hh hlv hi hbl hnb c1 c2.1 c2.2
  by_cases c3 : op = 48 ∧ bl = []
  · rw [show lookE T lv op a i ⟨h, bl⟩ = none by unfold lookE; rw [if_pos (.inr (.inr (.inl c3)))]]
    exact rlook_end hT hT0 hh hlv hi hbl hnb c1 c3.1 c3.2
  by_cases c4 : ∃ b ∈ bl.head?, h - T < b.2
  · rw [show lookE T lv op a i ⟨h, bl⟩ = none by unfold lookE; rw [if_pos (.inr (.inr (.inr c4)))]]
    have hne : bl ≠ [] := by
      rintro rfl
      obtain ⟨b, hb, _⟩ := c4
      simp at hb
    by_cases o1 : 43 ≤ op ∧ op ≤ 45
    · exact rlook_block_a hT hT0 hh hlv hi hbl hnb c1 hne c4 o1 (fun h => c2 ⟨o1, h⟩)
    · by_cases o2 : op < 43
      · exact rlook_block_b hT hT0 hh hlv hi hbl hnb c1 hne c4 o2
      · by_cases o3 : op = 48
        · exact rlook_block_d hT hT0 hh hlv hi hbl hnb c1 hne c4 o3
        · exact rlook_block_c hT hT0 hh hlv hi hbl hnb c1 hne c4 (by omega)
  have hblk : ∀ b ∈ bl.head?, ¬ h - T < b.2 := fun b hb hl => c4 ⟨b, hb, hl⟩
  have hno : ¬ (h - T < 0 ∨ ((op = 43 ∨ op = 44 ∨ op = 45) ∧ h ≤ a) ∨ (op = 48 ∧ bl = []) ∨ (∃ b ∈ bl.head?, h - T < b.2)) := by
    rintro (h1 | h1 | h1 | h1)
    · omega
    · exact c2 ⟨by omega, h1.2⟩
    · exact c3 h1
    · exact c4 h1
  unfold lookE
  dsimp only
  rw [if_neg hno]
  clear hno
  by_cases o36 : op = 36
  · subst o36
    exact rlook_jump hT hT0 hh hlv hi hbl hnb c1 hblk rfl
  rw [if_neg o36]
  by_cases oe : op = 50 ∨ op = 51 ∨ op = 52 ∨ op = 55 ∨ op = 56
  · rw [if_pos oe]
    exact rlook_stop hT hT0 hh hlv hi hbl hnb c1 hblk oe
  rw [if_neg oe]
  by_cases o37 : op = 37 ∨ op = 38
  · rw [if_pos o37]
    exact rlook_both hT hT0 hh hlv hi hbl hnb c1 hblk o37
  rw [if_neg o37]
  by_cases o39 : op = 39 ∨ op = 40
  · rw [if_pos o39]
    exact rlook_keep hT hT0 hh hlv hi hbl hnb c1 hblk o39
  rw [if_neg o39]
  by_cases o42 : op = 42
  · rw [if_pos o42]
    exact rlook_next hT hT0 hh hlv hi hbl hnb c1 hblk o42
  rw [if_neg o42]
  by_cases o47 : op = 47
  · rw [if_pos o47]
    exact rlook_try hT hT0 hh hlv hi hbl hnb c1 hblk o47
  rw [if_neg o47]
  by_cases o48 : op = 48
  · rw [if_pos o48]
    exact rlook_endtry hT hT0 hh hlv hi hbl hnb c1 hblk o48 (fun h => c3 ⟨o48, h⟩)
  rw [if_neg o48]
  by_cases od : 43 ≤ op ∧ op ≤ 45
  · exact rlook_deepok hT hT0 hh hlv hi hbl hnb c1 hblk od (fun h => c2 ⟨od, h⟩)
  by_cases ol : op < 43
  · exact rlook_less hT hT0 hh hlv hi hbl hnb c1 hblk (by omega)
  · exact rlook_more hT hT0 hh hlv hi hbl hnb c1 hblk (by omega)
end Go.Proofs.Ytgnejkmojfhfpaa
