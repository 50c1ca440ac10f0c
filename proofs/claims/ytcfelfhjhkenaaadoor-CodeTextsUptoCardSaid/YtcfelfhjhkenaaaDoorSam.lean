/- The reference's sameTexts, SameCode, Same, Big. -/
import Derived.Test.YtcfelfhjhkenaaaDoorEcd
import Derived.Test.YtcfelfhjhkenaaaDoorBig
import Derived.Deep.QuietTactic
import Derived.BigQuiet
namespace Go.Proofs.YtcfelfhjhkenaaaDoor
open Go.RowKit
attribute [local go_sem] Oper.semAt_some

/-- it answers whether, and has drawn at most -/
def SaysB (w : World) (b : Bool) (e : Ending) (w' : World) : Prop := e = .returned (.bool b) ∧ ∃ q, w' = w.drewN q
theorem take_more {α : Type} {l m : List α} {k : Nat} {x : α} (h : l.take k = m.take k) (hx : l[k]? = some x) (hy : m[k]? = some x) : l.take (k + 1) = m.take (k + 1) := by
  rw [(take_snoc hx).1, (take_snoc hy).1, h]
theorem ne_at {α : Type} {l m : List α} {k : Nat} {x y : α} (hx : l[k]? = some x) (hy : m[k]? = some y) (h : x ≠ y) : l ≠ m := by
  rintro rfl
  rw [hx] at hy
  exact h (Option.some.inj hy)
theorem drewN_add (w : World) (q r : Nat) : (w.drewN q).drewN r = w.drewN (q + r) := by simp [World.drewN, Nat.add_assoc]
def sameB (l m : List ByteArray) : Bool := decide (l = m)
set_option maxRecDepth 100000 in
set_option maxHeartbeats 1000000 in
theorem sameTexts_any {w : World} {A1 A2 : Option Addr} {n1 c1 n2 c2 : Nat} {l m : List ByteArray} (h1 : RdS w A1 n1 c1 l) (h2 : RdS w A2 n2 c2 m) :
    Calls Tryd.prog 42 #[.slice A1 n1 c1, .slice A2 n2 c2] w (SaysB w (sameB l m)) := by
  have hl1 := h1.1
  have hl2 := h2.1
  have hz1 := h1.le
  have hz2 := h2.le
  by_cases hn : n1 = n2
  · subst hn
    have H1 := Lib.hid h1
    have H2 := Lib.hid h2
    clear h1 h2
    go_enter Tryd.func42, Tryd.ntmps42
    go_wp2_with fail
    go_loopw [5] (fun i wr => ∃ k q : Nat, k ≤ n1 ∧ i = .int .i64 k ∧ l.take k = m.take k ∧ wr = w.drewN q) (fun i _ => n1 - (intOf i).toNat)
    case atStart => exact ⟨0, 0, by omega, rfl, rfl, rfl⟩
    case round =>
      obtain ⟨k, q, hk, rfl, he, rfl⟩ := hrel
      have HE := Lib.hid he
      clear he
      by_cases hlt : k < n1
      · obtain ⟨x, hx⟩ : ∃ x, l[k]? = some x := ⟨_, List.getElem?_eq_getElem (by omega)⟩
        obtain ⟨y, hy⟩ : ∃ y, m[k]? = some y := ⟨_, List.getElem?_eq_getElem (by omega)⟩
        obtain ⟨b1, o1, rfl, hb1, d1⟩ := H1.out.at_ hlt
        obtain ⟨b2, o2, rfl, hb2, d2⟩ := H2.out.at_ hlt
        rw [(List.getElem?_eq_some_iff.1 hx).2] at d1
        rw [(List.getElem?_eq_some_iff.1 hy).2] at d2
        have HX := Lib.hid hx
        have HY := Lib.hid hy
        clear hx hy
        by_cases hxy : x = y
        · subst hxy
          go_wp2_with fail
          go_quiet (fail)
          go_wp2
          go_roundw
          case rel => exact ⟨k + 1, q + nq, by omega, by go_num, take_more HE.out HX.out HY.out, rfl⟩
          case measure => simp [intOf]; omega
        · have hx1 : ¬ x.toList = y.toList := fun h => hxy ((toList_inj x y).1 h)
          have hx2 : (x.toList == y.toList) = false := by simpa using hx1
          have hb : sameB l m = false := decide_eq_false (ne_at HX.out HY.out hxy)
          have HB := Lib.hid hb
          clear hb
          go_wp2_with fail
          go_quiet (fail)
          go_wp2
          go_ret
          exact ⟨by rw [HB.out]; rfl, _, drewN_add w q nq⟩
      · obtain rfl : k = n1 := by omega
        have he := HE.out
        rw [List.take_of_length_le (by omega), List.take_of_length_le (by omega)] at he
        have hb : sameB l m = true := decide_eq_true he
        have HB := Lib.hid hb
        clear hb he
        go_wp2
        go_ret
        exact ⟨by rw [HB.out]; rfl, _, rfl⟩
  · have hb : sameB l m = false := decide_eq_false (by rintro rfl; omega)
    rw [hb]
    clear hb
    have hne : ((n1 : Int) == (n2 : Int)) = false := by simp; omega
    have hne2 : ¬ n1 = n2 := hn
    go_enter Tryd.func42, Tryd.ntmps42
    go_wp2
    go_ret
    exact ⟨rfl, 0, rfl⟩
theorem sameB_yes {l m : List ByteArray} (h : l = m) : sameB l m = true := decide_eq_true h
theorem sameB_no {l m : List ByteArray} (h : l ≠ m) : sameB l m = false := decide_eq_false h
end Go.Proofs.YtcfelfhjhkenaaaDoor
