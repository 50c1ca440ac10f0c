/- The reference's Big. -/
import Derived.Test.YtcfelfhjhkenaaaDoorSam
namespace Go.Proofs.YtcfelfhjhkenaaaDoor
open Go.RowKit
set_option linter.unusedVariables false
set_option linter.unusedSimpArgs false
attribute [local go_sem] Oper.semAt_some

def bigC (c : CodeD) : Prop := 70000 < c.ins.length ∨ 5000 < c.consts.length ∨ 5000 < c.locals.length ∨ 5000 < c.cells.length ∨ 5000 < c.free.length ∨ 5000 < c.names.length
/-- too much to be looked at -/
def bigP (p : List CodeD) : Prop := 1100 < p.length ∨ ∃ c ∈ p, bigC c
/-- it answers whether, and leaves all as it was -/
def SaysP (w : World) (P : Prop) (e : Ending) (w' : World) : Prop := ∃ b : Bool, e = .returned (.bool b) ∧ (b = true ↔ P) ∧ Below w.heap.size w w'
set_option maxRecDepth 100000 in
set_option maxHeartbeats 4000000 in
theorem big_any {w : World} {A : Option Addr} {n c : Nat} {p : List CodeD} (h : ProgAt w A n c p) :
    Calls Tryd.prog 12 #[.slice A n c] w (SaysP w (bigP p)) := by
  have hl := h.1
  have hz := h.le
  have H := Lib.hid h
  clear h
  by_cases hn : n ≤ 1100
  · have hd : decide (n ≤ 1100) = true := decide_eq_true hn
    have hd' : decide ((n : Int) ≤ 1100) = true := decide_eq_true (by omega)
    have hd2 : decide (1100 < n) = false := decide_eq_false (by omega)
    have hd3 : decide ((1100 : Int) < (n : Int)) = false := decide_eq_false (by omega)
    go_enter Tryd.func12, Tryd.ntmps12
    go_wp2_with fail
    go_loopw [3] (fun i wr => ∃ k : Nat, k ≤ n ∧ i = .int .i64 k ∧ (∀ c ∈ p.take k, ¬ bigC c) ∧ Below w.heap.size w wr) (fun i _ => n - (intOf i).toNat)
    case atStart => exact ⟨0, by omega, rfl, fun c hc => by simp at hc, Below.refl _ _⟩
    case round =>
      obtain ⟨k, hk, rfl, he, hb⟩ := hrel
      have HE := Lib.hid he
      have HB := Lib.hid hb
      have hwz := hb.size
      by_cases hlt : k < n
      · obtain ⟨x, hx⟩ : ∃ x, p[k]? = some x := ⟨_, List.getElem?_eq_getElem (by omega)⟩
        obtain ⟨be, oe, xs, rfl, hbe, hcx, hce⟩ := H.out.at_ hx
        have htk := (take_snoc hx).1
        have HTK := Lib.hid htk
        have HMEM := Lib.hid (List.mem_of_getElem? hx)
        obtain ⟨A1, n1, c1, A2, n2, c2, A3, n3, c3, A4, n4, c4, A5, n5, c5, A6, n6, c6, rfl, h1, h2, h3, h4, h5, h6⟩ := hcx.parts
        have l1 := h1.1
        have l2 := h2.1
        have l3 := h3.1
        have l4 := h4.1
        have l5 := h5.1
        have l6 := h6.1
        have HBIG : Hid (bigC x ↔ 70000 < n6 ∨ 5000 < n5 ∨ 5000 < n1 ∨ 5000 < n2 ∨ 5000 < n3 ∨ 5000 < n4) := Lib.hid (by rw [bigC, l1, l2, l3, l4, l5, l6])
        clear l1 l2 l3 l4 l5 l6 h1 h2 h3 h4 h5 h6 hcx htk he
        obtain ⟨nm, hnm⟩ : ∃ z, z = x.name := ⟨_, rfl⟩
        obtain ⟨kd, hkd⟩ : ∃ z, z = x.kind := ⟨_, rfl⟩
        obtain ⟨pa, hpa⟩ : ∃ z, z = x.params := ⟨_, rfl⟩
        obtain ⟨de, hde⟩ : ∃ z, z = x.defaults := ⟨_, rfl⟩
        obtain ⟨ge, hge⟩ : ∃ z, z = x.gen := ⟨_, rfl⟩
        rw [← hnm, ← hkd, ← hpa, ← hde, ← hge] at hce
        clear hnm hkd hpa hde hge
        have e0 : wr.cell? ⟨be, oe + k * 11, none⟩ = some (.string nm) := (hb.cell (p := ⟨be, oe + k * 11, none⟩) hbe).trans (hce 0 _ rfl)
        have e1 : wr.cell? ⟨be, oe + k * 11 + 1, none⟩ = some (.int .i64 kd) := (hb.cell (p := ⟨be, oe + k * 11 + 1, none⟩) hbe).trans (hce 1 _ rfl)
        have e2 : wr.cell? ⟨be, oe + k * 11 + 2, none⟩ = some (.int .i64 pa) := (hb.cell (p := ⟨be, oe + k * 11 + 2, none⟩) hbe).trans (hce 2 _ rfl)
        have e3 : wr.cell? ⟨be, oe + k * 11 + 3, none⟩ = some (.int .i64 de) := (hb.cell (p := ⟨be, oe + k * 11 + 3, none⟩) hbe).trans (hce 3 _ rfl)
        have e4 : wr.cell? ⟨be, oe + k * 11 + 4, none⟩ = some (.bool ge) := (hb.cell (p := ⟨be, oe + k * 11 + 4, none⟩) hbe).trans (hce 4 _ rfl)
        have e5 : wr.cell? ⟨be, oe + k * 11 + 5, none⟩ = some (.slice A1 n1 c1) := (hb.cell (p := ⟨be, oe + k * 11 + 5, none⟩) hbe).trans (hce 5 _ rfl)
        have e6 : wr.cell? ⟨be, oe + k * 11 + 6, none⟩ = some (.slice A2 n2 c2) := (hb.cell (p := ⟨be, oe + k * 11 + 6, none⟩) hbe).trans (hce 6 _ rfl)
        have e7 : wr.cell? ⟨be, oe + k * 11 + 7, none⟩ = some (.slice A3 n3 c3) := (hb.cell (p := ⟨be, oe + k * 11 + 7, none⟩) hbe).trans (hce 7 _ rfl)
        have e8 : wr.cell? ⟨be, oe + k * 11 + 8, none⟩ = some (.slice A4 n4 c4) := (hb.cell (p := ⟨be, oe + k * 11 + 8, none⟩) hbe).trans (hce 8 _ rfl)
        have e9 : wr.cell? ⟨be, oe + k * 11 + 9, none⟩ = some (.slice A5 n5 c5) := (hb.cell (p := ⟨be, oe + k * 11 + 9, none⟩) hbe).trans (hce 9 _ rfl)
        have e10 : wr.cell? ⟨be, oe + k * 11 + 10, none⟩ = some (.slice A6 n6 c6) := (hb.cell (p := ⟨be, oe + k * 11 + 10, none⟩) hbe).trans (hce 10 _ rfl)
        have hbr : be < wr.heap.size := by omega
        have HB2 : Hid (Below w.heap.size w (wr.alloc (.cells #[.string nm, .int .i64 kd, .int .i64 pa, .int .i64 de, .bool ge, .slice A1 n1 c1, .slice A2 n2 c2, .slice A3 n3 c3, .slice A4 n4 c4, .slice A5 n5 c5, .slice A6 n6 c6] 49))) := Lib.hid (hb.trans ((show Below wr.heap.size wr (wr.alloc (.cells #[.string nm, .int .i64 kd, .int .i64 pa, .int .i64 de, .bool ge, .slice A1 n1 c1, .slice A2 n2 c2, .slice A3 n3 c3, .slice A4 n4 c4, .slice A5 n5 c5, .slice A6 n6 c6] 49)) from (by repeat (first | exact Below.refl _ _ | assumption | refine Below.setCell ?_ (by first | (simp; done) | (simp; omega) | omega) _ | refine below_drewN ?_ _ | refine Below.drew ?_ | refine Below.alloc ?_ (by first | (simp; done) | (simp; omega) | omega) _))).mono hwz))
        clear hb hce hx
        by_cases t6 : 70000 < n6
        · have s6 : decide (70000 < n6) = true := decide_eq_true t6
          have u6 : decide ((70000 : Int) < (n6 : Int)) = true := decide_eq_true (by omega)
          have HYES : Hid (bigP p) := Lib.hid (.inr ⟨x, HMEM.out, HBIG.out.2 (by omega)⟩)
          go_wp2
          go_ret
          exact ⟨true, rfl, ⟨fun _ => HYES.out, fun _ => rfl⟩, HB2.out⟩
        have s6 : decide (70000 < n6) = false := decide_eq_false t6
        have u6 : decide ((70000 : Int) < (n6 : Int)) = false := decide_eq_false (by omega)
        by_cases t5 : 5000 < n5
        · have s5 : decide (5000 < n5) = true := decide_eq_true t5
          have u5 : decide ((5000 : Int) < (n5 : Int)) = true := decide_eq_true (by omega)
          have HYES : Hid (bigP p) := Lib.hid (.inr ⟨x, HMEM.out, HBIG.out.2 (by omega)⟩)
          go_wp2
          go_ret
          exact ⟨true, rfl, ⟨fun _ => HYES.out, fun _ => rfl⟩, HB2.out⟩
        have s5 : decide (5000 < n5) = false := decide_eq_false t5
        have u5 : decide ((5000 : Int) < (n5 : Int)) = false := decide_eq_false (by omega)
        by_cases t1 : 5000 < n1
        · have s1 : decide (5000 < n1) = true := decide_eq_true t1
          have u1 : decide ((5000 : Int) < (n1 : Int)) = true := decide_eq_true (by omega)
          have HYES : Hid (bigP p) := Lib.hid (.inr ⟨x, HMEM.out, HBIG.out.2 (by omega)⟩)
          go_wp2
          go_ret
          exact ⟨true, rfl, ⟨fun _ => HYES.out, fun _ => rfl⟩, HB2.out⟩
        have s1 : decide (5000 < n1) = false := decide_eq_false t1
        have u1 : decide ((5000 : Int) < (n1 : Int)) = false := decide_eq_false (by omega)
        by_cases t2 : 5000 < n2
        · have s2 : decide (5000 < n2) = true := decide_eq_true t2
          have u2 : decide ((5000 : Int) < (n2 : Int)) = true := decide_eq_true (by omega)
          have HYES : Hid (bigP p) := Lib.hid (.inr ⟨x, HMEM.out, HBIG.out.2 (by omega)⟩)
          go_wp2
          go_ret
          exact ⟨true, rfl, ⟨fun _ => HYES.out, fun _ => rfl⟩, HB2.out⟩
        have s2 : decide (5000 < n2) = false := decide_eq_false t2
        have u2 : decide ((5000 : Int) < (n2 : Int)) = false := decide_eq_false (by omega)
        by_cases t3 : 5000 < n3
        · have s3 : decide (5000 < n3) = true := decide_eq_true t3
          have u3 : decide ((5000 : Int) < (n3 : Int)) = true := decide_eq_true (by omega)
          have HYES : Hid (bigP p) := Lib.hid (.inr ⟨x, HMEM.out, HBIG.out.2 (by omega)⟩)
          go_wp2
          go_ret
          exact ⟨true, rfl, ⟨fun _ => HYES.out, fun _ => rfl⟩, HB2.out⟩
        have s3 : decide (5000 < n3) = false := decide_eq_false t3
        have u3 : decide ((5000 : Int) < (n3 : Int)) = false := decide_eq_false (by omega)
        by_cases t4 : 5000 < n4
        · have s4 : decide (5000 < n4) = true := decide_eq_true t4
          have u4 : decide ((5000 : Int) < (n4 : Int)) = true := decide_eq_true (by omega)
          have HYES : Hid (bigP p) := Lib.hid (.inr ⟨x, HMEM.out, HBIG.out.2 (by omega)⟩)
          go_wp2
          go_ret
          exact ⟨true, rfl, ⟨fun _ => HYES.out, fun _ => rfl⟩, HB2.out⟩
        have s4 : decide (5000 < n4) = false := decide_eq_false t4
        have u4 : decide ((5000 : Int) < (n4 : Int)) = false := decide_eq_false (by omega)
        have HNO : Hid (¬ bigC x) := Lib.hid (fun hB => by have := HBIG.out.1 hB; omega)
        go_wp2
        go_roundw
        case rel => exact ⟨k + 1, by omega, by go_num, fun c hc => by
          rw [HTK.out] at hc
          rcases List.mem_append.1 hc with h | h
          · exact HE.out c h
          · have h : c = x := by simpa using h
            subst h
            exact HNO.out, HB2.out⟩
        case measure => simp [intOf]; omega
      · obtain rfl : k = n := by omega
        have HNO : Hid (¬ bigP p) := Lib.hid (by
          rintro (h | ⟨c, hc, hB⟩)
          · omega
          · exact HE.out c (by rw [List.take_of_length_le (by omega)]; exact hc) hB)
        clear hb he
        go_wp2
        go_ret
        exact ⟨false, rfl, ⟨fun h => absurd h (by decide), fun h => absurd h HNO.out⟩, HB.out⟩
  · have hd : decide (n ≤ 1100) = false := decide_eq_false hn
    have hd' : decide ((n : Int) ≤ 1100) = false := decide_eq_false (by omega)
    have hd2 : decide (1100 < n) = true := decide_eq_true (by omega)
    have hd3 : decide ((1100 : Int) < (n : Int)) = true := decide_eq_true (by omega)
    have hd4 : decide (0 < n) = true := decide_eq_true (by omega)
    have hn0 : (0 : Int) < (n : Int) := by omega
    have HYES : Hid (bigP p) := Lib.hid (.inl (by omega))
    go_enter Tryd.func12, Tryd.ntmps12
    go_wp2_with fail
    go_loopw [3] (fun i wr => i = .int .i64 0 ∧ wr = w) (fun i _ => 0)
    case atStart => exact ⟨rfl, rfl⟩
    case round =>
      obtain ⟨rfl, rfl⟩ := hrel
      go_wp2
      go_ret
      exact ⟨true, rfl, ⟨fun _ => HYES.out, fun _ => rfl⟩, Below.refl _ _⟩
end Go.Proofs.YtcfelfhjhkenaaaDoor
