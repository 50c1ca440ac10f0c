/- made. -/
import Derived.Test.YtfdihmbmlhlkgaaDos
namespace Go.Proofs.Ytfdihmbmlhlkgaa
open Go.RowKit
attribute [local go_sem high] guardV eqV neqV guardP neqP
attribute [local go_sem] V.v

/-! a slice of calls -/
def ccs (l : List CallD) : List Value := l.flatMap CallD.cs
theorem CallD.cs_length (c : CallD) : c.cs.length = 8 := rfl
theorem ccs_cons (c : CallD) (l : List CallD) : ccs (c :: l) = c.cs ++ ccs l := by simp [ccs]
theorem ccs_length (l : List CallD) : (ccs l).length = l.length * 8 := by
  induction l with
  | nil => rfl
  | cons r rs ih => rw [ccs_cons, List.length_append, CallD.cs_length, ih, List.length_cons]; omega
theorem ccs_append (a b : List CallD) : ccs (a ++ b) = ccs a ++ ccs b := by simp [ccs]
theorem ccs_at (l : List CallD) (i : Nat) (r : CallD) (h : l[i]? = some r) (j : Nat) (hj : j < 8) : (ccs l)[i * 8 + j]? = r.cs[j]? := by
  induction l generalizing i with
  | nil => simp at h
  | cons x xs ih =>
    rw [ccs_cons]
    cases i with
    | zero =>
      simp only [List.getElem?_cons_zero, Option.some.injEq] at h
      subst h
      rw [List.getElem?_append_left (by rw [CallD.cs_length]; omega)]
      congr 1; omega
    | succ i =>
      rw [List.getElem?_append_right (by rw [CallD.cs_length]; omega), CallD.cs_length, ← ih i (by simpa using h)]
      congr 1; omega
theorem ccs_oneCell (l : List CallD) : ∀ u ∈ ccs l, u.oneCell' = true := by
  intro u hu
  simp only [ccs, List.mem_flatMap] at hu
  obtain ⟨r, _, hr⟩ := hu
  simp only [CallD.cs, List.mem_cons, List.not_mem_nil, or_false] at hr
  rcases hr with rfl | rfl | rfl | rfl | rfl | rfl | rfl | rfl <;> rfl
/-- The slice reads as calls, each with a key that memory can hold. -/
def RdC (w : World) (A : Option Addr) (n c : Nat) (l : List CallD) : Prop := l.length = n ∧ Rd w A n c 8 (ccs l) ∧ ∀ x ∈ l, x.k.Ok
theorem RdC.new {w w' : World} {A : Option Addr} {n c : Nat} {l : List CallD} (h : RdC w A n c l) (hb : Below w.heap.size w w') : RdC w' A n c l := ⟨h.1, h.2.1.new hb, h.2.2⟩
theorem RdC.le {w : World} {A : Option Addr} {n c : Nat} {l : List CallD} (h : RdC w A n c l) : n ≤ 9223372036854775807 := h.2.1.le
theorem RdC.at_ {w : World} {A : Option Addr} {n c : Nat} {l : List CallD} (h : RdC w A n c l) {i : Nat} (hi : i < n) :
    ∃ b o x, A = some ⟨b, o, none⟩ ∧ b < w.heap.size ∧ l[i]? = some x ∧ x.k.Ok ∧ ∀ j u, x.cs[j]? = some u → w.cell? ⟨b, o + i * 8 + j, none⟩ = some u := by
  obtain ⟨hl, hr, hok⟩ := h
  obtain ⟨b, o, e, hb, hc⟩ := hr.2.2.2 (by omega)
  obtain ⟨x, hx⟩ : ∃ x, l[i]? = some x := ⟨l[i]'(by omega), List.getElem?_eq_getElem _⟩
  refine ⟨b, o, x, e, hb, hx, hok x (List.mem_of_getElem? hx), fun j u hj => ?_⟩
  rw [Nat.add_assoc]
  refine hc _ _ ?_
  have hj8 : j < 8 := by have := (List.getElem?_eq_some_iff.1 hj).1; rwa [CallD.cs_length] at this
  rw [ccs_at l i x hx j hj8]
  exact hj

/-- what one of made's calls leaves -/
def madeL (L : List (V × V)) (c : CallD) : List (V × V) := if c.which = 3 then delL L c.k else putR L c.k c.x
/-- .. all of them -/
def madeAll (l : List CallD) : List (V × V) := (l.map CallD.fit).foldl madeL []
theorem madeAll_snoc (l : List CallD) (c : CallD) : madeAll (l ++ [c]) = madeL (madeAll l) c.fit := by simp [madeAll]

def Made (w : World) (l : List CallD) (e : Ending) (w' : World) : Prop := ∃ g y S, e = .returned (.tuple #[.pointer (some ⟨g, 0, none⟩), .pointer (some ⟨y, 0, none⟩)]) ∧ HasB w w' S g y (madeAll (l.take 40))
set_option maxRecDepth 100000 in
set_option maxHeartbeats 2000000 in
theorem made_any (A : Option Addr) (n c : Nat) (l : List CallD) (w : World) (hA : RdC w A n c l) :
    Calls Try.prog 13 #[.slice A n c] w (Made w l) := by
  have hn := hA.le
  have hln := hA.1
  have HA := Lib.hid hA
  clear hA
  go_enter Try.func13, Try.ntmps13
  go_wp2_with fail
  refine (new_any _).mono ?_
  rintro e w1 ⟨g, rfl, hd, hb1⟩
  have hbn : Below w1.heap.size w1 (w1.alloc (.cells #[.slice none 0 0] 53)) := (by repeat (first | exact Below.refl _ _ | assumption | refine Below.setCell ?_ (by first | (simp; done) | (simp; omega) | omega) _ | refine below_drewN ?_ _ | refine Below.drew ?_ | refine Below.alloc ?_ (by first | (simp; done) | (simp; omega) | omega) _))
  have hB0 : HasB w (w1.alloc (.cells #[.slice none 0 0] 53)) (Grew (fun _ => False) w (w1.alloc (.cells #[.slice none 0 0] 53))) g w1.heap.size [] := by
    have hy : IsRef (w1.alloc (.cells #[.slice none 0 0] 53)) (fun i => i = w1.heap.size) w1.heap.size [] := ⟨.slice none 0 0, Blk.new w1 53 _, Own.nil_ _ _ _, rfl, fun b e => (by cases e), fun i e => (by subst e; simp)⟩
    have hs := hb1.size
    refine ⟨⟨_, _, hd.new hbn, hy, fun i h1 h2 => ?_, fun i hi => hi.elim False.elim (fun h => .inr ⟨h.1, by simp; omega⟩), fun i hi => .inr ⟨by subst hi; exact hs, by subst hi; simp⟩⟩, ⟨fun i hi => hi.elim False.elim (fun h => h.2), fun i hi => hi.elim False.elim (fun h => h.1), hb1.trans (hbn.mono hs)⟩⟩
    subst h2
    exact h1.elim False.elim (fun h => by omega)
  have HB0 := Lib.hid hB0
  clear hd hb1 hbn hB0
  go_wp2_with fail
  go_loopw [6] (fun i wr => ∃ (k : Nat) (S : Nat → Prop), k ≤ n ∧ k ≤ 40 ∧ i = .int .i64 k ∧ HasB w wr S g w1.heap.size (madeAll (l.take k))) (fun i _ => 40 - (intOf i).toNat)
  case atStart => exact ⟨0, _, Nat.zero_le _, Nat.zero_le _, rfl, HB0.out⟩
  case round =>
    obtain ⟨k, S, hk, hk40, rfl, hB⟩ := hrel
    generalize w1.heap.size = y at *
    have HB := Lib.hid hB
    clear hB
    by_cases hlt : k < n
    · by_cases h40 : k < 40
      · obtain ⟨b, o, x, rfl, hb, hx, hok, hc⟩ := (HA.out.new HB.out.z.bel).at_ hlt
        obtain ⟨d, ⟨k1, n1, s1⟩, ⟨k2, n2, s2⟩, raw⟩ := x
        have z0 := hc 0 (.int .i64 d) rfl
        have z1 := hc 1 (.int .i64 k1) rfl
        have z2 := hc 2 (.int .i64 n1) rfl
        have z3 := hc 3 (.string s1) rfl
        have z4 := hc 4 (.int .i64 k2) rfl
        have z5 := hc 5 (.int .i64 n2) rfl
        have z6 := hc 6 (.string s2) rfl
        have z7 := hc 7 (.bool raw) rfl
        simp only [Nat.add_zero] at z0
        have HX := Lib.hid hx
        have HOK := Lib.hid hok
        clear hc hx hok
        have HS : Hid (madeAll (l.take (k + 1)) = madeL (madeAll (l.take k)) (CallD.fit ⟨d, ⟨k1, n1, s1⟩, ⟨k2, n2, s2⟩, raw⟩)) := Lib.hid (by
          obtain ⟨hl1, hl2⟩ := List.getElem?_eq_some_iff.1 HX.out
          rw [List.take_succ_eq_append_getElem hl1, hl2, madeAll_snoc])
        have HFO := Lib.hid (CallD.fit_ok (c := ⟨d, ⟨k1, n1, s1⟩, ⟨k2, n2, s2⟩, raw⟩) HOK.out)
        go_wp2_with fail
        refine (fitc_any ⟨d, ⟨k1, n1, s1⟩, ⟨k2, n2, s2⟩, raw⟩ HOK.out.2.2 _).mono ?_
        rintro e w2 ⟨rfl, hb2⟩
        generalize CallD.fit ⟨d, ⟨k1, n1, s1⟩, ⟨k2, n2, s2⟩, raw⟩ = f at *
        obtain ⟨fd, ⟨fk, fn, fs⟩, ⟨fk', fn', fs'⟩, fr⟩ := f
        dsimp only [CallD.cs]
        have hb3 : Below w2.heap.size w2 (w2.alloc (.cells #[.int .i64 fd, .int .i64 fk, .int .i64 fn, .string fs, .int .i64 fk', .int .i64 fn', .string fs', .bool fr] 48)) := (by repeat (first | exact Below.refl _ _ | assumption | refine Below.setCell ?_ (by first | (simp; done) | (simp; omega) | omega) _ | refine below_drewN ?_ _ | refine Below.drew ?_ | refine Below.alloc ?_ (by first | (simp; done) | (simp; omega) | omega) _))
        have D3 := ((HB.out.new hb2).new hb3).duo
        have B3 : Bes (w2.alloc (.cells #[.int .i64 fd, .int .i64 fk, .int .i64 fn, .string fs, .int .i64 fk', .int .i64 fn', .string fs', .bool fr] 48)) S w2.heap.size 48 (CallD.cs ⟨fd, ⟨fk, fn, fs⟩, ⟨fk', fn', fs'⟩, fr⟩).toArray := Bes.fresh (HB.out.new hb2).z (Blk.new w2 48 _) (Nat.le_refl _)
        have hf := HB.out.facts
        have HF := Lib.hid hf
        have HD3 := Lib.hid D3
        have HB3 := Lib.hid B3
        clear hb2 hb3 D3 B3 hf z0 z1 z2 z3 z4 z5 z6 z7 HX HOK hb HB
        cases hw : decide (bits BinOp.and .i64 fd 3 = 3) with
        | true =>
          have hw := of_decide_eq_true hw
          have HW : Hid (madeAll (l.take (k + 1)) = delL (madeAll (l.take k)) ⟨fk, fn, fs⟩) := Lib.hid (HS.out.trans (if_pos hw))
          go_wp2_with fail
          refine (HD3.out.del ⟨fk, fn, fs⟩ HFO.out).mono ?_
          rintro e w4 ⟨rfl, D4, m4⟩
          have B4 := HB3.out.step m4
          obtain ⟨x1, x2, x3⟩ := bes_K B4
          have hl4 := B4.blk.lt
          have HD4 := Lib.hid D4
          clear D4 m4 B4
          go_wp2_with fail
          refine (HD4.out.rdel ⟨fk, fn, fs⟩ HF.out.1 HF.out.2.2).mono ?_
          rintro e w5 ⟨rfl, D5, m5⟩
          have HD5 := Lib.hid D5.whole
          clear D5 m5 x1 x2 x3
          go_wp2
          go_roundw
          case rel => exact ⟨k + 1, _, by omega, by omega, by go_num, by rw [HW.out]; exact HD5.out⟩
          case measure => simp [intOf]; omega
        | false =>
          have hw := of_decide_eq_false hw
          have HW : Hid (madeAll (l.take (k + 1)) = putR (madeAll (l.take k)) ⟨fk, fn, fs⟩ ⟨fk', fn', fs'⟩) := Lib.hid (HS.out.trans (if_neg hw))
          go_wp2_with fail
          refine (HD3.out.put ⟨fk, fn, fs⟩ ⟨fk', fn', fs'⟩ HFO.out).mono ?_
          rintro e w4 ⟨rfl, D4, m4⟩
          have B4 := HB3.out.step m4
          obtain ⟨x1, x2, x3, x4, x5, x6⟩ := bes_KX B4
          have hl4 := B4.blk.lt
          have HD4 := Lib.hid D4
          clear D4 m4 B4
          go_wp2_with fail
          refine (HD4.out.rput ⟨fk, fn, fs⟩ ⟨fk', fn', fs'⟩ HF.out.1 (fun p hp => (HF.out.2.1 p hp).2) HF.out.2.2).mono ?_
          rintro e w5 ⟨rfl, D5, m5⟩
          have HD5 := Lib.hid D5.whole
          clear D5 m5 x1 x2 x3 x4 x5 x6
          go_wp2
          go_roundw
          case rel => exact ⟨k + 1, _, by omega, by omega, by go_num, by rw [HW.out]; exact HD5.out⟩
          case measure => simp [intOf]; omega
      · have e : l.take k = l.take 40 := by
          obtain rfl : k = 40 := by omega
          rfl
        have HE := Lib.hid e
        clear e
        go_wp2
        refine bodyPost_ret (v := .tuple #[.pointer (some ⟨g, 0, none⟩), .pointer (some ⟨y, 0, none⟩)]) (by simp [results, Try.results13, go_sem]) rfl ⟨g, y, S, rfl, ?_⟩
        rw [← HE.out]
        exact HB.out
    · have e : l.take k = l.take 40 := by
        rw [List.take_of_length_le (by omega), List.take_of_length_le (by omega)]
      have HE := Lib.hid e
      clear e
      go_wp2
      refine bodyPost_ret (v := .tuple #[.pointer (some ⟨g, 0, none⟩), .pointer (some ⟨y, 0, none⟩)]) (by simp [results, Try.results13, go_sem]) rfl ⟨g, y, S, rfl, ?_⟩
      rw [← HE.out]
      exact HB.out
end Go.Proofs.Ytfdihmbmlhlkgaa
