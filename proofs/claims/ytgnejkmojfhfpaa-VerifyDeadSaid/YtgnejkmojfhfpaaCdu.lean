/- unit.code. -/
import Derived.Test.YtgnejkmojfhfpaaPrg
namespace Go.Proofs.Ytgnejkmojfhfpaa
open Go.RowKit
set_option linter.unusedVariables false
set_option linter.unusedSimpArgs false

def codeZ : Array Value := #[.string ⟨#[]⟩, .int .i64 0, .int .i64 0, .int .i64 0, .bool false, .slice none 0 0, .slice none 0 0, .slice none 0 0, .slice none 0 0, .slice none 0 0, .slice none 0 0]
/-- what code tells -/
def CodeR (w : World) (r : Option CodeD) (e : Ending) : Prop := match r with
  | none => e = .returned (.tuple #[.agg codeZ, .bool false])
  | some c => ∃ cs, e = .returned (.tuple #[.agg cs.toArray, .bool true]) ∧ CodeAt w c cs
set_option maxRecDepth 100000 in
set_option maxHeartbeats 1000000 in
theorem code_any {w : World} {p : ProgD} {c : CodeD} {us : List Value} (h : UnitAt w p c us) (a k : Int) (hk : k = 2 ∨ k = 3) :
    Calls Try.prog 49 #[.agg us.toArray, .int .i64 a, .int .i64 k] w fun e w' => CodeR w (codeAt p a k) e ∧ Below w.heap.size w w' := by
  obtain ⟨A, n, kk, cs, rfl, hp, hc⟩ := h.parts
  obtain ⟨A1, n1, c1, A2, n2, c2, A3, n3, c3, A4, n4, c4, A5, n5, c5, A6, n6, c6, rfl, -⟩ := hc.parts
  have hl := hp.len
  have hm := hp.most
  by_cases h0 : a < 0
  · have hr : codeAt p a k = none := by unfold codeAt; rw [if_pos h0]
    rw [hr]
    clear hr hl hp hc h hk
    have d0 : decide (a < 0) = true := decide_eq_true h0
    go_enter Try.func49, Try.ntmps49
    go_wp2_with fail
    exact bodyPost_ret (v := .tuple #[.agg codeZ, .bool false]) (by simp [results, Try.results49, go_sem, codeZ]) rfl ⟨rfl, (by repeat (first | exact Below.refl _ _ | assumption | refine Below.setCell ?_ (by first | (simp; done) | (simp; omega) | omega) _ | refine below_drewN ?_ _ | refine Below.drew ?_ | refine Below.alloc ?_ (by first | (simp; done) | (simp; omega) | omega) _))⟩
  obtain ⟨i, rfl⟩ := Int.eq_ofNat_of_zero_le (show 0 ≤ a by omega)
  by_cases h1 : n ≤ i
  · have hr : codeAt p i k = none := by
      unfold codeAt
      rw [if_neg h0, show (i : Int).toNat = i from rfl, List.getElem?_eq_none (by omega)]
    rw [hr]
    have d0 : decide ((i : Int) < 0) = false := decide_eq_false h0
    clear hr hl hp hc h hk h0
    go_enter Try.func49, Try.ntmps49
    go_wp2_with fail
    exact bodyPost_ret (v := .tuple #[.agg codeZ, .bool false]) (by simp [results, Try.results49, go_sem, codeZ]) rfl ⟨rfl, (by repeat (first | exact Below.refl _ _ | assumption | refine Below.setCell ?_ (by first | (simp; done) | (simp; omega) | omega) _ | refine below_drewN ?_ _ | refine Below.drew ?_ | refine Below.alloc ?_ (by first | (simp; done) | (simp; omega) | omega) _))⟩
  obtain ⟨x, hx⟩ : ∃ x, p[i]? = some x := ⟨_, List.getElem?_eq_getElem (by omega)⟩
  have hr : codeAt p i k = if x.kind = k ∧ ¬ (k = 2 ∧ x.defaults < 0) then some x else none := by
    unfold codeAt
    rw [if_neg h0, show (i : Int).toNat = i from rfl, hx]
  obtain ⟨b, o, cs, rfl, hb, hca, hce⟩ := hp.at_ hx
  obtain ⟨B1, m1, d1, B2, m2, d2, B3, m3, d3, B4, m4, d4, B5, m5, d5, B6, m6, d6, rfl, -⟩ := hca.parts
  have e0 : w.cell? ⟨b, o + i * 11, none⟩ = some (.string x.name) := hce 0 _ rfl
  have e1 : w.cell? ⟨b, o + i * 11 + 1, none⟩ = some (.int .i64 x.kind) := hce 1 _ rfl
  have e2 : w.cell? ⟨b, o + i * 11 + 2, none⟩ = some (.int .i64 x.params) := hce 2 _ rfl
  have e3 : w.cell? ⟨b, o + i * 11 + 3, none⟩ = some (.int .i64 x.defaults) := hce 3 _ rfl
  have e4 : w.cell? ⟨b, o + i * 11 + 4, none⟩ = some (.bool x.gen) := hce 4 _ rfl
  have e5 : w.cell? ⟨b, o + i * 11 + 5, none⟩ = some (.slice B1 m1 d1) := hce 5 _ rfl
  have e6 : w.cell? ⟨b, o + i * 11 + 6, none⟩ = some (.slice B2 m2 d2) := hce 6 _ rfl
  have e7 : w.cell? ⟨b, o + i * 11 + 7, none⟩ = some (.slice B3 m3 d3) := hce 7 _ rfl
  have e8 : w.cell? ⟨b, o + i * 11 + 8, none⟩ = some (.slice B4 m4 d4) := hce 8 _ rfl
  have e9 : w.cell? ⟨b, o + i * 11 + 9, none⟩ = some (.slice B5 m5 d5) := hce 9 _ rfl
  have e10 : w.cell? ⟨b, o + i * 11 + 10, none⟩ = some (.slice B6 m6 d6) := hce 10 _ rfl
  have HC := Lib.hid hca
  rw [hr]
  have d0 : decide ((i : Int) < 0) = false := decide_eq_false h0
  have hlt : i < n := by omega
  clear hr hl hp hc h h0 h1 hce hca hx
  obtain ⟨nm, kd, pa, de, ge, lo, ce, fr, na, co, is⟩ := x
  simp only at e0 e1 e2 e3 e4
  by_cases h2 : kd = k
  · subst h2
    rcases hk with rfl | rfl
    · by_cases h3 : de < 0
      · rw [if_neg (by simp [h3])]
        clear HC
        go_enter Try.func49, Try.ntmps49
        go_wp2_with fail
        exact bodyPost_ret (v := .tuple #[.agg codeZ, .bool false]) (by simp [results, Try.results49, go_sem, codeZ]) rfl ⟨rfl, (by repeat (first | exact Below.refl _ _ | assumption | refine Below.setCell ?_ (by first | (simp; done) | (simp; omega) | omega) _ | refine below_drewN ?_ _ | refine Below.drew ?_ | refine Below.alloc ?_ (by first | (simp; done) | (simp; omega) | omega) _))⟩
      · rw [if_pos (by simp [h3])]
        go_enter Try.func49, Try.ntmps49
        go_wp2_with fail
        exact bodyPost_ret (v := .tuple #[.agg #[.string nm, .int .i64 2, .int .i64 pa, .int .i64 de, .bool ge, .slice B1 m1 d1, .slice B2 m2 d2, .slice B3 m3 d3, .slice B4 m4 d4, .slice B5 m5 d5, .slice B6 m6 d6], .bool true]) (by simp [results, Try.results49, go_sem]) rfl ⟨⟨_, rfl, HC.out.new (by repeat (first | exact Below.refl _ _ | assumption | refine Below.setCell ?_ (by first | (simp; done) | (simp; omega) | omega) _ | refine below_drewN ?_ _ | refine Below.drew ?_ | refine Below.alloc ?_ (by first | (simp; done) | (simp; omega) | omega) _))⟩, (by repeat (first | exact Below.refl _ _ | assumption | refine Below.setCell ?_ (by first | (simp; done) | (simp; omega) | omega) _ | refine below_drewN ?_ _ | refine Below.drew ?_ | refine Below.alloc ?_ (by first | (simp; done) | (simp; omega) | omega) _))⟩
    · rw [if_pos (by simp)]
      go_enter Try.func49, Try.ntmps49
      go_wp2_with fail
      exact bodyPost_ret (v := .tuple #[.agg #[.string nm, .int .i64 3, .int .i64 pa, .int .i64 de, .bool ge, .slice B1 m1 d1, .slice B2 m2 d2, .slice B3 m3 d3, .slice B4 m4 d4, .slice B5 m5 d5, .slice B6 m6 d6], .bool true]) (by simp [results, Try.results49, go_sem]) rfl ⟨⟨_, rfl, HC.out.new (by repeat (first | exact Below.refl _ _ | assumption | refine Below.setCell ?_ (by first | (simp; done) | (simp; omega) | omega) _ | refine below_drewN ?_ _ | refine Below.drew ?_ | refine Below.alloc ?_ (by first | (simp; done) | (simp; omega) | omega) _))⟩, (by repeat (first | exact Below.refl _ _ | assumption | refine Below.setCell ?_ (by first | (simp; done) | (simp; omega) | omega) _ | refine below_drewN ?_ _ | refine Below.drew ?_ | refine Below.alloc ?_ (by first | (simp; done) | (simp; omega) | omega) _))⟩
  · rw [if_neg (fun h => h2 h.1)]
    have h4 : (kd == k) = false := by simpa using h2
    have h5 : (kd != k) = true := by simpa using h2
    clear HC
    go_enter Try.func49, Try.ntmps49
    go_wp2_with fail
    exact bodyPost_ret (v := .tuple #[.agg codeZ, .bool false]) (by simp [results, Try.results49, go_sem, codeZ]) rfl ⟨rfl, (by repeat (first | exact Below.refl _ _ | assumption | refine Below.setCell ?_ (by first | (simp; done) | (simp; omega) | omega) _ | refine below_drewN ?_ _ | refine Below.drew ?_ | refine Below.alloc ?_ (by first | (simp; done) | (simp; omega) | omega) _))⟩
end Go.Proofs.Ytgnejkmojfhfpaa
