/- Calls; fit. -/
import Derived.Test.YtfdihmbmlhlkgaaRdl
import Derived.Outline
namespace Go.Proofs.Ytfdihmbmlhlkgaa
open Go.RowKit
attribute [local go_sem high] guardV eqV neqV
attribute [local go_sem] V.v

/-- A call: which, a key, a value, raw? -/
structure CallD where
  d : Int
  k : V
  x : V
  raw : Bool
def CallD.cs (c : CallD) : List Value := [.int .i64 c.d, .int .i64 c.k.k, .int .i64 c.k.n, .string c.k.s, .int .i64 c.x.k, .int .i64 c.x.n, .string c.x.s, .bool c.raw]
def cutS (s : ByteArray) : ByteArray := if 12 < s.size then s.extract 0 12 else s
def V.cut (x : V) : V := ⟨x.k, x.n, cutS x.s⟩
def CallD.fit (c : CallD) : CallD := { c with k := if c.raw then c.k.cut else fitV c.k.cut }
theorem cutS_size (s : ByteArray) : (cutS s).size ≤ 12 := by
  unfold cutS
  split
  · rw [ByteArray.size_extract]; omega
  · omega
theorem V.cut_ok {x : V} (h : x.Ok) : x.cut.Ok := ⟨h.1, h.2.1, by have := cutS_size x.s; show (cutS x.s).size ≤ maxLen; unfold maxLen; omega⟩
theorem CallD.fit_ok {c : CallD} (h : c.k.Ok) : c.fit.k.Ok := by
  unfold CallD.fit
  simp only
  split
  · exact V.cut_ok h
  · exact fitV_ok (V.cut_ok h)

theorem box8 (w : World) (xs ys : Array Value) : Blk ((w.alloc (.cells xs 48)).alloc (.cells ys 48)) w.heap.size 48 xs ∧ Blk ((w.alloc (.cells xs 48)).alloc (.cells ys 48)) (w.heap.size + 1) 48 ys := by
  refine ⟨(Blk.new w 48 xs).alloc _, ?_⟩
  have hh := Blk.new (w.alloc (.cells xs 48)) 48 ys
  rw [World.size_alloc] at hh
  exact hh
set_option maxRecDepth 100000 in
set_option maxHeartbeats 2000000 in
theorem fitc_any (c : CallD) (hs : c.k.s.size ≤ maxLen) (w : World) :
    Calls Try.prog 22 #[.agg c.cs.toArray] w fun e w' => e = .returned (.agg c.fit.cs.toArray) ∧ Below w.heap.size w w' := by
  obtain ⟨d, ⟨k, n, s⟩, ⟨k', n', s'⟩, raw⟩ := c
  have hs : s.size ≤ maxLen := hs
  unfold maxLen at hs
  show Calls Try.prog 22 #[.agg #[.int .i64 d, .int .i64 k, .int .i64 n, .string s, .int .i64 k', .int .i64 n', .string s', .bool raw]] w _
  have hcut : (12 < s.size ∧ cutS s = s.extract 0 12) ∨ (¬ 12 < s.size ∧ cutS s = s) := by
    unfold cutS
    by_cases h : 12 < s.size
    · exact .inl ⟨h, if_pos h⟩
    · exact .inr ⟨h, if_neg h⟩
  cases raw with
  | true =>
    rcases hcut with ⟨hlt, hc⟩ | ⟨hlt, hc⟩
    all_goals
      have HC := Lib.hid hc
      clear hc
      go_enter Try.func22, Try.ntmps22
      go_wp2_with fail
      refine bodyPost_ret (by simp [results, Try.results22, go_sem]; try rfl) rfl ⟨?_, (by repeat (first | exact Below.refl _ _ | assumption | refine Below.setCell ?_ (by first | (simp; done) | (simp; omega) | omega) _ | refine below_drewN ?_ _ | refine Below.drew ?_ | refine Below.alloc ?_ (by first | (simp; done) | (simp; omega) | omega) _))⟩
      simp only [CallD.fit, V.cut, CallD.cs, HC.out, if_true]
  | false =>
    rcases hcut with ⟨hlt, hc⟩ | ⟨hlt, hc⟩
    all_goals
      have HC := Lib.hid hc
      clear hc
      go_enter Try.func22, Try.ntmps22
      go_wp2_with fail
      refine (fit_any k n _ _).mono ?_
      rintro e w1 ⟨rfl, hb1⟩
      rw [← HC.out] at hb1 ⊢
      generalize hz : fitV ⟨k, n, cutS s⟩ = z
      obtain ⟨zk, zn, zs⟩ := z
      have HZ := Lib.hid hz
      have hbw : Below w.heap.size w w1 := Below.trans (by exact (by repeat (first | exact Below.refl _ _ | assumption | refine Below.setCell ?_ (by first | (simp; done) | (simp; omega) | omega) _ | refine below_drewN ?_ _ | refine Below.drew ?_ | refine Below.alloc ?_ (by first | (simp; done) | (simp; omega) | omega) _))) (hb1.mono (by simp; omega))
      have hB := (box8 w #[.int .i64 d, .int .i64 k, .int .i64 n, .string (cutS s), .int .i64 k', .int .i64 n', .string s', .bool false] #[.int .i64 0, .int .i64 0, .int .i64 0, .string ⟨#[]⟩, .int .i64 0, .int .i64 0, .string ⟨#[]⟩, .bool false])
      have hA := hB.1.new' hb1
      have hD := hB.2.new' hb1
      have a0 := hA.cell 0
      have a1 := hA.cell 1
      have a2 := hA.cell 2
      have a3 := hA.cell 3
      have a4 := hA.cell 4
      have a5 := hA.cell 5
      have a6 := hA.cell 6
      have a7 := hA.cell 7
      have e1 := hA.frozen 1
      have e2 := hA.frozen 2
      have e3 := hA.frozen 3
      have d0 := hD.cell 0
      have d1 := hD.cell 1
      have d2 := hD.cell 2
      have d3 := hD.cell 3
      have d4 := hD.cell 4
      have d5 := hD.cell 5
      have d6 := hD.cell 6
      have d7 := hD.cell 7
      have f0 := hD.frozen 0
      have f1 := hD.frozen 1
      have f2 := hD.frozen 2
      have f3 := hD.frozen 3
      have f4 := hD.frozen 4
      have f5 := hD.frozen 5
      have f6 := hD.frozen 6
      have f7 := hD.frozen 7
      simp only [List.getElem?_toArray, List.getElem?_cons_zero, List.getElem?_cons_succ] at a0 a1 a2 a3 a4 a5 a6 a7 d0 d1 d2 d3 d4 d5 d6 d7
      have hl := hA.lt
      have hl2 := hD.lt
      have HBW := Lib.hid hbw
      clear hz hA hD hB hb1 hbw
      go_wp2_with fail
      refine bodyPost_ret (by simp [results, Try.results22, go_sem, d0, d1, d2, d3, d4, d5, d6, d7]; try rfl) rfl ⟨?_, ?_⟩
      · simp only [CallD.fit, V.cut, CallD.cs, HZ.out, Bool.false_eq_true, if_false]
      · repeat (first | with_reducible exact HBW.out | refine Below.setCell ?_ (by first | (simp; done) | (simp; omega)) _)
end Go.Proofs.Ytfdihmbmlhlkgaa
