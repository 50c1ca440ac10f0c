/- verify.same. -/
import Derived.Test.YtgnejkmojfhfpaaLka
import Derived.Deep.LoopGhost
import Derived.LaidEqlPtr
import Derived.ChangeKeysEq
import Derived.Deep.QuietTactic
import Derived.BigQuiet
namespace Go.Proofs.Ytgnejkmojfhfpaa
open Go.RowKit
set_option linter.unusedVariables false
set_option linter.unusedSimpArgs false
attribute [local go_sem] Oper.semAt_some

theorem info3 : (Try.prog.info? 3).isSome = true := by kernel_rfl
theorem und99 : Try.prog.underlying 99 = some (.array 2 3) := by kernel_rfl
theorem cells3 : Try.prog.cellsOf 3 = 1 := by kernel_rfl
theorem agg3 (w : World) : (isAgg 3).run Try.prog w = .ok false w := by kernel_rfl
theorem eq_int (d : Nat) (a b : Int) (w : World) : (Op.equalIn (d + 1) 3 (.int .i64 a) (.int .i64 b)).run Try.prog w = .ok (a == b) w := by
  simp [Op.equalIn, run_underlying Try.underlying3]
theorem part3 (cs : Array Value) (off : Nat) (v : Value) (h : cs[off]? = some v) (w : World) : (part 3 cs off).run Try.prog w = .ok v w := by
  simp only [part, Sem.run_bind, agg3, Result.andThen_ok, h]
  rfl
theorem run_arr (a1 k1 a2 k2 : Int) (w : World) : (Op.equalIn 10000 99 (.agg #[.int .i64 a1, .int .i64 k1]) (.agg #[.int .i64 a2, .int .i64 k2])).run Try.prog w = .ok (a1 == a2 && k1 == k2) w := by
  obtain ⟨i, hi⟩ := Option.isSome_iff_exists.1 info3
  have := run_equalIn_array (P := Try.prog) w 9999 #[.int .i64 a1, .int .i64 k1] #[.int .i64 a2, .int .i64 k2] und99 hi
  rw [show 10000 = 9999 + 1 from rfl, this]
  rw [cells3]
  simp only [show List.range 2 = [0, 1] from rfl, Op.eqItems, Sem.run_bind, part3 #[.int .i64 a1, .int .i64 k1] (0 * 1) (.int .i64 a1) rfl, part3 #[.int .i64 a2, .int .i64 k2] (0 * 1) (.int .i64 a2) rfl,
    part3 #[.int .i64 a1, .int .i64 k1] (1 * 1) (.int .i64 k1) rfl, part3 #[.int .i64 a2, .int .i64 k2] (1 * 1) (.int .i64 k2) rfl, Result.andThen_ok, show (9999 : Nat) = 9998 + 1 from rfl, eq_int]
  cases a1 == a2 <;> cases h2 : (k1 == k2) <;> simp [Sem.run_bind, part3 #[.int .i64 a1, .int .i64 k1] (1 * 1) (.int .i64 k1) rfl, part3 #[.int .i64 a2, .int .i64 k2] (1 * 1) (.int .i64 k2) rfl, eq_int] <;> simpa using h2
theorem run_nil_eql (b : Addr) (w : World) : (binOp .eql 66 (.pointer none) (.pointer (some b))).run Try.prog w = .ok (.bool false) w := by
  have e : (Op.equal 66 (.pointer none) (.pointer (some b))).run Try.prog w = .ok false w := by
    show (Op.equalIn (9999 + 1) 66 _ _).run Try.prog w = _
    unfold Op.equalIn
    simp only [Sem.run_bind, run_underlying Try.underlying66, Result.andThen_ok]
    rfl
  simp only [binOp]
  simp [e]
theorem info98 : (Try.prog.info? 98).map (·.size) = some 3 := by kernel_rfl
theorem run_blk_eql {g1 g2 : Nat} {w : World} {c1 c2 : Array Value} (h1 : Blk w g1 98 c1) (h2 : Blk w g2 98 c2) : (binOp .eql 66 (.pointer (some ⟨g1, 0, none⟩)) (.pointer (some ⟨g2, 0, none⟩))).run Try.prog w = .ok (.bool (decide (g1 = g2))) w := by
  obtain ⟨j, hj, hs⟩ := Option.map_eq_some_iff.1 info98
  by_cases e : g1 = g2
  · subst e
    rw [decide_eq_true rfl]
    exact run_eql_ptr_same w _ Try.underlying66 hj
  · rw [decide_eq_false e]
    exact run_eql_ptr_other w Try.underlying66 hj (by omega) (by intro h; injection h with h; exact e h) h1 h2
theorem run_blk_neq {g1 g2 : Nat} {w : World} {c1 c2 : Array Value} (h1 : Blk w g1 98 c1) (h2 : Blk w g2 98 c2) : (binOp .neq 66 (.pointer (some ⟨g1, 0, none⟩)) (.pointer (some ⟨g2, 0, none⟩))).run Try.prog w = .ok (.bool (!decide (g1 = g2))) w := by
  have h := run_blk_eql h1 h2
  simp only [binOp, Sem.run_bind] at h ⊢
  cases hr : (Op.equal 66 (.pointer (some ⟨g1, 0, none⟩)) (.pointer (some ⟨g2, 0, none⟩))).run Try.prog w with
  | ok b w' =>
    rw [hr] at h
    simp at h ⊢
    obtain ⟨h3, h4⟩ := h
    subst h4
    exact ⟨by rw [h3], rfl⟩
  | halt x w' =>
    rw [hr] at h
    cases h
theorem chain_det {w : World} : ∀ {l m : List (Int × Int)} {p : Option Addr}, ChainAt w p l → ChainAt w p m → l = m
  | [], [], _, _, _ => rfl
  | [], b :: m, p, h, ⟨g, q, e, _⟩ => by
    rw [show p = none from h] at e
    cases e
  | a :: l, [], p, ⟨g, q, e, _⟩, h => by
    rw [show p = none from h] at e
    cases e
  | a :: l, b :: m, p, ⟨g, q, e, h1, h2⟩, ⟨g', q', e', h1', h2'⟩ => by
    rw [e] at e'
    cases e'
    unfold Blk at h1 h1'
    rw [h1] at h1'
    have : (a.1, a.2) = (b.1, b.2) ∧ q = q' := by
      simp only [Option.some.injEq, Obj.cells.injEq, Array.mk.injEq, List.cons.injEq, Value.int.injEq, Value.pointer.injEq, true_and, and_true] at h1'
      obtain ⟨e1, e2, e3⟩ := h1'
      exact ⟨by rw [e1, e2], e3⟩
    obtain ⟨e1, rfl⟩ := this
    rw [show a = b from e1, chain_det h2 h2']
/-- the same state? -/
def sameE (a b : St) : Bool := decide (a = b)
set_option maxRecDepth 100000 in
set_option maxHeartbeats 4000000 in
theorem same_any {w : World} {p1 p2 : Option Addr} {l1 l2 : List (Int × Int)} {h1 h2 : Int} (c1 : ChainAt w p1 l1) (c2 : ChainAt w p2 l2) :
    Calls Try.prog 25 #[.agg #[.int .i64 h1, .pointer p1], .agg #[.int .i64 h2, .pointer p2]] w fun e w' => e = .returned (.bool (sameE ⟨h1, l1⟩ ⟨h2, l2⟩)) ∧ Below w.heap.size w w' := by
  have C1 := Lib.hid c1
  have C2 := Lib.hid c2
  clear c1 c2
  go_enter Try.func25, Try.ntmps25
  go_wp2_with fail
  go_quiet (fail)
  go_wp2_with fail
  have HB : Hid (∀ q, Below w.heap.size w (((w.alloc (.cells #[.int .i64 h1, .pointer p1] 68)).alloc (.cells #[.int .i64 h2, .pointer p2] 68)).drewN q)) := Lib.hid fun q => (by repeat (first | exact Below.refl _ _ | assumption | refine Below.setCell ?_ (by first | (simp; done) | (simp; omega) | omega) _ | refine below_drewN ?_ _ | refine Below.drew ?_ | refine Below.alloc ?_ (by first | (simp; done) | (simp; omega) | omega) _))
  have HS : Hid (sameE ⟨h1, l1⟩ ⟨h2, l2⟩ = (decide (h1 = h2) && decide (l1 = l2))) := Lib.hid (by unfold sameE; simp)
  go_loopg [5, 6] (l1.length + 1) (fun k x y wr => ∃ (q : Nat) (m1 m2 : List (Int × Int)) (q1 q2 : Option Addr), x = .pointer q1 ∧ y = .pointer q2 ∧ ChainAt w q1 m1 ∧ ChainAt w q2 m2 ∧ (l1 = l2 ↔ m1 = m2) ∧ m1.length < k ∧ wr = ((w.alloc (.cells #[.int .i64 h1, .pointer p1] 68)).alloc (.cells #[.int .i64 h2, .pointer p2] 68)).drewN q)
  case atStart => exact ⟨nq, l1, l2, p1, p2, rfl, rfl, C1.out, C2.out, Iff.rfl, by omega, rfl⟩
  case round =>
    obtain ⟨q, m1, m2, q1, q2, rfl, rfl, d1, d2, hiff, hlen, rfl⟩ := hrel
    have HI := Lib.hid hiff
    have hl0 := hlen
    clear hiff hlen
    have fin : ∀ (e : Ending) (b : Bool) (q' : Nat), (b = (decide (h1 = h2) && decide (m1 = m2))) → e = .returned (.bool b) → e = .returned (.bool (sameE ⟨h1, l1⟩ ⟨h2, l2⟩)) := fun e b q' hb he => by
      rw [he, HS.out, hb]
      congr 3
      simp only [HI.out]
    have FIN := Lib.hid fin
    clear fin
    cases m1 with
    | nil =>
      obtain rfl : q1 = none := d1
      cases m2 with
      | nil =>
        obtain rfl : q2 = none := d2
        go_wp2_with fail
        go_quiet (fail)
        by_cases hh : h1 = h2
        · subst hh
          go_wp2_with fail
          go_ret
          exact ⟨FIN.out _ true nq (by simp) rfl, HB.out _⟩
        · have hh' : (h1 == h2) = false := by simpa using hh
          have HN := Lib.hid hh
          clear hh
          go_wp2_with fail
          go_ret
          exact ⟨FIN.out _ false nq (by simp [HN.out]) rfl, HB.out _⟩
      | cons b2 r2 =>
        obtain ⟨g2, t2, rfl, hb2, hr2⟩ := d2
        clear hb2 hr2
        have hne := run_nil_eql ⟨g2, 0, none⟩
        go_wp2_with fail
        go_quiet (fail)
        by_cases hh : h1 = h2
        · subst hh
          go_wp2_with fail
          go_ret
          exact ⟨FIN.out _ false nq (by simp) rfl, HB.out _⟩
        · have hh' : (h1 == h2) = false := by simpa using hh
          have HN := Lib.hid hh
          clear hh
          go_wp2_with fail
          go_ret
          exact ⟨FIN.out _ false nq (by simp [HN.out]) rfl, HB.out _⟩
    | cons b1 r1 =>
      obtain ⟨g1, t1, rfl, hb1, hr1⟩ := d1
      cases m2 with
      | nil =>
        obtain rfl : q2 = none := d2
        clear hb1 hr1
        go_wp2_with fail
        go_quiet (fail)
        by_cases hh : h1 = h2
        · subst hh
          go_wp2_with fail
          go_ret
          exact ⟨FIN.out _ false nq (by simp) rfl, HB.out _⟩
        · have hh' : (h1 == h2) = false := by simpa using hh
          have HN := Lib.hid hh
          clear hh
          go_wp2_with fail
          go_ret
          exact ⟨FIN.out _ false nq (by simp [HN.out]) rfl, HB.out _⟩
      | cons b2 r2 =>
        obtain ⟨g2, t2, rfl, hb2, hr2⟩ := d2
        have HW : ∀ q, Below w.heap.size w (((w.alloc (.cells #[.int .i64 h1, .pointer p1] 68)).alloc (.cells #[.int .i64 h2, .pointer p2] 68)).drewN q) := HB.out
        have hneq : ∀ q, (binOp .neq 66 (.pointer (some ⟨g1, 0, none⟩)) (.pointer (some ⟨g2, 0, none⟩))).run Try.prog (((w.alloc (.cells #[.int .i64 h1, .pointer p1] 68)).alloc (.cells #[.int .i64 h2, .pointer p2] 68)).drewN q) = .ok (.bool (!decide (g1 = g2))) _ := fun q => run_blk_neq (hb1.new' (HW q)) (hb2.new' (HW q))
        have heql : ∀ q, (binOp .eql 66 (.pointer (some ⟨g1, 0, none⟩)) (.pointer (some ⟨g2, 0, none⟩))).run Try.prog (((w.alloc (.cells #[.int .i64 h1, .pointer p1] 68)).alloc (.cells #[.int .i64 h2, .pointer p2] 68)).drewN q) = .ok (.bool (decide (g1 = g2))) _ := fun q => run_blk_eql (hb1.new' (HW q)) (hb2.new' (HW q))
        clear HW
        by_cases hg : g1 = g2
        · subst hg
          have hdet : b1 :: r1 = b2 :: r2 := chain_det ⟨g1, t1, rfl, hb1, hr1⟩ ⟨g1, t2, rfl, hb2, hr2⟩
          have HDET := Lib.hid hdet
          rw [decide_eq_true rfl] at hneq heql
          clear hdet hb1 hr1 hb2 hr2
          go_wp2_with fail
          go_quiet (fail)
          by_cases hh : h1 = h2
          · subst hh
            go_wp2_with fail
            go_ret
            exact ⟨FIN.out _ true nq (by simp [HDET.out]) rfl, HB.out _⟩
          · have hh' : (h1 == h2) = false := by simpa using hh
            have HN := Lib.hid hh
            clear hh
            go_wp2_with fail
            go_ret
            exact ⟨FIN.out _ false nq (by simp [HN.out]) rfl, HB.out _⟩
        · obtain ⟨a1, k1⟩ := b1
          obtain ⟨a2, k2⟩ := b2
          rw [decide_eq_false hg] at hneq heql
          have x0 := hb1.cell 0
          have x1 := hb1.cell 1
          have x2 := hb1.cell 2
          have xl := hb1.lt
          have y0 := hb2.cell 0
          have y1 := hb2.cell 1
          have y2 := hb2.cell 2
          have yl := hb2.lt
          simp only [List.getElem?_toArray, List.getElem?_cons_zero, List.getElem?_cons_succ] at x0 x1 x2 y0 y1 y2
          have R1 := Lib.hid hr1
          have R2 := Lib.hid hr2
          have harr := run_arr a1 k1 a2 k2
          clear hb1 hb2 hr1 hr2 hg
          by_cases he : a1 = a2 ∧ k1 = k2
          · obtain ⟨rfl, rfl⟩ := he
            rw [show (a1 == a1 && k1 == k1) = true by simp] at harr
            go_wp2_with fail
            go_quiet (fail)
            go_wp2_with fail
            go_quiet (fail)
            go_wp2_with fail
            go_roundg (gk - 1)
            case measure => simp only [List.length_cons] at hl0; omega
            case rel => exact ⟨_, r1, r2, t1, t2, rfl, rfl, R1.out, R2.out, by rw [HI.out]; simp, by simp only [List.length_cons] at hl0; omega, by rw [World.drewN_drewN, World.drewN_drewN]⟩
          · have he2 : (a1 == a2 && k1 == k2) = false := by
              rw [Bool.eq_false_iff]
              intro h
              simp at h
              exact he h
            rw [he2] at harr
            have HE := Lib.hid (show ¬ ((a1, k1) :: r1 = (a2, k2) :: r2) from fun h => by
              injection h with h _
              injection h with e1 e2
              exact he ⟨e1, e2⟩)
            clear he he2
            go_wp2_with fail
            go_quiet (fail)
            by_cases hh : h1 = h2
            · subst hh
              go_wp2_with fail
              go_ret
              exact ⟨FIN.out _ false nq (by rw [decide_eq_false HE.out]; simp) rfl, HB.out _⟩
            · have hh' : (h1 == h2) = false := by simpa using hh
              have HN := Lib.hid hh
              clear hh
              go_wp2_with fail
              go_ret
              exact ⟨FIN.out _ false nq (by simp [HN.out]) rfl, HB.out _⟩
end Go.Proofs.Ytgnejkmojfhfpaa
