/- verify.Heights: the walk. -/
import Derived.Test.YtgnejkmojfhfpaaHst
import Derived.Deep.LoopGhost
import Derived.Deep.RegionHeld3
namespace Go.Proofs.Ytgnejkmojfhfpaa
open Go.RowKit
set_option linter.unusedVariables false
set_option linter.unusedSimpArgs false
attribute [local go_sem] Oper.semAt_some

set_option maxRecDepth 100000 in
set_option maxHeartbeats 1000000 in
theorem heights_arg {w : World} {A : Option Addr} {n c : Nat} {p : ProgD} (h : ProgAt w A n c p) {k : Int} (hk : k < 0 ∨ (n : Int) ≤ k) :
    Calls Try.prog 11 #[.slice A n c, .int .i64 k] w (HtR w ([], 1, 0)) := by
  clear h
  by_cases h0 : k < 0
  · have d0 : decide (k < 0) = true := decide_eq_true h0
    clear hk
    go_enter Try.func11, Try.ntmps11
    go_wp2_with fail
    exact bodyPost_ret (v := .tuple #[.slice none 0 0, .int .i64 1, .int .i64 0]) (by simp [results, Try.results11, go_sem]) rfl (HtR.bad (by exact (by repeat (first | exact Below.refl _ _ | assumption | refine Below.setCell ?_ (by first | (simp; done) | (simp; omega) | omega) _ | refine below_drewN ?_ _ | refine Below.drew ?_ | refine Below.alloc ?_ (by first | (simp; done) | (simp; omega) | omega) _))) 1 0)
  · have h1 : (n : Int) ≤ k := by omega
    have d0 : decide (k < 0) = false := decide_eq_false h0
    have d1 : decide ((n : Int) ≤ k) = true := decide_eq_true h1
    clear hk h0
    go_enter Try.func11, Try.ntmps11
    go_wp2_with fail
    exact bodyPost_ret (v := .tuple #[.slice none 0 0, .int .i64 1, .int .i64 0]) (by simp [results, Try.results11, go_sem]) rfl (HtR.bad (by exact (by repeat (first | exact Below.refl _ _ | assumption | refine Below.setCell ?_ (by first | (simp; done) | (simp; omega) | omega) _ | refine below_drewN ?_ _ | refine Below.drew ?_ | refine Below.alloc ?_ (by first | (simp; done) | (simp; omega) | omega) _))) 1 0)
theorem wrongs_at {p : ProgD} {c : CodeD} {k : Nat} {x : Int × Int} (h : c.ins[k]? = some x) : wrongs p c (c.ins.drop k) k = if wrongE p c x = 0 then wrongs p c (c.ins.drop (k + 1)) (k + 1) else some (wrongE p c x, k) := by
  rw [List.drop_eq_getElem?_toList_append, h]
  rfl
def tellE (p : ProgD) (ins : List (Int × Int)) : Option (Int × Nat) → List Int × Int × Int
  | some (e, i) => ([], e, i)
  | none => flowE p ins
theorem flow_err {p : ProgD} {ins : List (Int × Int)} {e : Int} {i : Nat} (hn : 0 < ins.length) (h : goE p ins (ins.length + 1) (startF ins.length) = .inr (e, i)) : flowE p ins = ([], e, (i : Int)) := by
  unfold flowE
  rw [if_neg (by omega), h]
theorem flow_ok {p : ProgD} {ins : List (Int × Int)} {st : List (Option St)} (hn : 0 < ins.length) (h : goE p ins (ins.length + 1) (startF ins.length) = .inl st) : flowE p ins = (st.map heightOf, 0, 0) := by
  unfold flowE
  rw [if_neg (by omega), h]
theorem WaysAt.set_ {W : World} {A : Option Addr} {n c : Nat} {ways : List (Int × St)} (h : WaysAt W A n c ways) {g i : Nat} {t : TypeId} {cs : Array Value} (hb : Blk W g t cs) (ht : t ≠ 98) (hA : ∀ b o, A = some ⟨b, o, none⟩ → b ≠ g) (v : Value) : WaysAt (W.setCell ⟨g, i, none⟩ v) A n c ways := by
  obtain ⟨h1, css, h2, h3, h4, h5⟩ := h
  refine ⟨h1, css, h2, h3, fun j q cs' hq hc => ?_, h5.keep (by simp [World.setCell]) fun b o e hlt => Below.heap_setCell _ _ _ _ (hA b o e)⟩
  obtain ⟨u, e, h6⟩ := h4 j q cs' hq hc
  exact ⟨u, e, chain_keep (fun g' cs'' hb' => hb'.far (Blk.ne_ hb' hb (Ne.symm ht)) v) h6⟩
theorem WaysAt.at_ {W : World} {A : Option Addr} {n c : Nat} {ways : List (Int × St)} (h : WaysAt W A n c ways) {j : Nat} {q : Int × St} (hq : ways[j]? = some q) :
    ∃ b o t, A = some ⟨b, o, none⟩ ∧ b < W.heap.size ∧ W.cell? ⟨b, o + j * 3, none⟩ = some (.int .i64 q.1) ∧ W.cell? ⟨b, o + j * 3 + 1, none⟩ = some (.int .i64 q.2.h) ∧ W.cell? ⟨b, o + j * 3 + 2, none⟩ = some (.pointer t) ∧ ChainAt W t q.2.bl := by
  obtain ⟨h1, css, h2, h3, h4, _, _, _, h5⟩ := h
  have hj : j < n := by rw [← h1]; exact (List.getElem?_eq_some_iff.1 hq).1
  obtain ⟨b, o, rfl, hb, hc⟩ := h5 (by omega)
  have hcs : css[j]? = some css[j] := List.getElem?_eq_getElem (by omega)
  obtain ⟨t, e, h6⟩ := h4 j q _ hq hcs
  have hat : ∀ i u, (css[j])[i]? = some u → W.cell? ⟨b, o + (j * 3 + i), none⟩ = some u := fun i u hu => hc _ _ (flat_at css j i _ u h3 hcs hu)
  exact ⟨b, o, t, rfl, hb, hat 0 _ (by rw [e]; rfl), hat 1 _ (by rw [e]; rfl), hat 2 _ (by rw [e]; rfl), h6⟩
/-- the heights so far, and zeros -/
def hgtL (f : Fl) (jj j : Nat) : List Value := ((f.st.take jj).map fun o => Value.int .i64 (heightOf o)) ++ List.replicate (j - jj) (.int .i64 0)
theorem hgtL_at {f : Fl} {jj j : Nat} (h : jj < j) (hl : f.st.length = j) : (hgtL f jj j).toArray[jj]? = some (.int .i64 0) := by
  unfold hgtL
  rw [List.getElem?_toArray, List.getElem?_append_right (by simp; omega)]
  simp only [List.length_map, List.length_take, hl, Nat.min_eq_left (Nat.le_of_lt h), Nat.sub_self]
  rw [List.getElem?_replicate, if_pos (by omega)]
theorem hgtL_set {f : Fl} {jj j : Nat} {o : Option St} (h : jj < j) (hl : f.st.length = j) (ho : f.st[jj]? = some o) : (hgtL f jj j).set jj (.int .i64 (heightOf o)) = hgtL f (jj + 1) j := by
  unfold hgtL
  rw [List.set_append_right _ _ (by simp; omega), List.take_add_one, ho]
  obtain ⟨m, hm⟩ : ∃ m, j - jj = m + 1 := ⟨j - jj - 1, by omega⟩
  rw [hm, show j - (jj + 1) = m by omega, List.replicate_succ]
  simp [Nat.min_eq_left (by omega : jj ≤ f.st.length)]
theorem step_none {p : ProgD} {ins : List (Int × Int)} {i : Nat} {f : Fl} {x : Int × Int} {s : St} (hx : ins[i]? = some x) (hs : Kn f i s) (hw : waysE p x i s = none) : stepE p ins f i = .inr 52 := by
  unfold Kn at hs
  unfold stepE
  simp only [hx, hs, hw]
theorem step_some {p : ProgD} {ins : List (Int × Int)} {i : Nat} {f : Fl} {x : Int × Int} {s : St} {ways : List (Int × St)} (hx : ins[i]? = some x) (hs : Kn f i s) (hw : waysE p x i s = some ways) : stepE p ins f i = pushE ins.length ⟨f.st, f.op.set i false⟩ ways := by
  unfold Kn at hs
  unfold stepE
  simp only [hx, hs, hw]
theorem go_err {p : ProgD} {ins : List (Int × Int)} {k i : Nat} {f : Fl} {e : Int} (h : firstE f.op = some i) (hk : 0 < k) (hs : stepE p ins f i = .inr e) : goE p ins k f = .inr (e, i) := by
  obtain ⟨m, rfl⟩ : ∃ m, k = m + 1 := ⟨k - 1, by omega⟩
  simp only [goE, h, hs]
theorem go_on {p : ProgD} {ins : List (Int × Int)} {k i : Nat} {f f' : Fl} (h : firstE f.op = some i) (hk : 0 < k) (hs : stepE p ins f i = .inl f') : goE p ins k f = goE p ins (k - 1) f' := by
  obtain ⟨m, rfl⟩ : ∃ m, k = m + 1 := ⟨k - 1, by omega⟩
  simp only [goE, h, hs, Nat.add_sub_cancel]
theorem go_end {p : ProgD} {ins : List (Int × Int)} {k : Nat} {f : Fl} (h : firstE f.op = none) : goE p ins k f = .inl f.st := by
  cases k with
  | zero => rfl
  | succ k => simp only [goE, h]
theorem push_at {n jj : Nat} {f : Fl} {ways : List (Int × St)} {q : Int × St} (h : ways[jj]? = some q) : pushE n f (ways.drop jj) = pushE n f (q :: ways.drop (jj + 1)) := by
  rw [List.drop_eq_getElem?_toList_append, h]
  rfl
theorem push_ge {n : Nat} {f : Fl} {to : Int} {s : St} {r : List (Int × St)} (h : (n : Int) ≤ to) : pushE n f ((to, s) :: r) = .inr 51 := by
  unfold pushE
  rw [if_pos h]
theorem push_new {n t : Nat} {f : Fl} {s : St} {r : List (Int × St)} (h : t < n) (hs : f.st[t]? = some none) : pushE n f (((t : Int), s) :: r) = pushE n ⟨f.st.set t (some s), f.op.set t true⟩ r := by
  rw [pushE, if_neg (by omega)]
  simp only [Int.toNat_natCast, hs]
theorem push_same {n t : Nat} {f : Fl} {s : St} {r : List (Int × St)} (h : t < n) (hs : f.st[t]? = some (some s)) : pushE n f (((t : Int), s) :: r) = pushE n f r := by
  rw [pushE, if_neg (by omega)]
  simp only [Int.toNat_natCast, hs, if_true]
theorem push_no {n t : Nat} {f : Fl} {s u : St} {r : List (Int × St)} (h : t < n) (hs : f.st[t]? = some (some u)) (hne : u ≠ s) : pushE n f (((t : Int), s) :: r) = .inr 52 := by
  rw [pushE, if_neg (by omega)]
  simp only [Int.toNat_natCast, hs, if_neg hne]
set_option maxRecDepth 100000 in
set_option maxHeartbeats 8000000 in
theorem heights_code {w : World} {A : Option Addr} {n c : Nat} {p : ProgD} (h : ProgAt w A n c p) {k : Nat} {x : CodeD} (hx : p[k]? = some x) :
    Calls Try.prog 11 #[.slice A n c, .int .i64 k] w (HtR w (heightsC p x)) := by
  have hkn : k < n := by rw [← h.len]; exact (List.getElem?_eq_some_iff.1 hx).1
  have hmost := h.most
  have H := Lib.hid h
  obtain ⟨be, oe, cs, rfl, hbe, hca, hce⟩ := h.at_ hx
  have HCA := Lib.hid hca
  obtain ⟨A1, n1, c1, A2, n2, c2, A3, n3, c3, A4, n4, c4, A5, n5, c5, A6, n6, c6, rfl, -, -, -, -, -, r6, -, -, -, -, -, m6⟩ := hca.parts
  have R6 := Lib.hid r6
  have hl6 := r6.1
  have HL6 := Lib.hid hl6
  have e0 : w.cell? ⟨be, oe + k * 11, none⟩ = some (.string x.name) := hce 0 _ rfl
  have e1 : w.cell? ⟨be, oe + k * 11 + 1, none⟩ = some (.int .i64 x.kind) := hce 1 _ rfl
  have e2 : w.cell? ⟨be, oe + k * 11 + 2, none⟩ = some (.int .i64 x.params) := hce 2 _ rfl
  have e3 : w.cell? ⟨be, oe + k * 11 + 3, none⟩ = some (.int .i64 x.defaults) := hce 3 _ rfl
  have e4 : w.cell? ⟨be, oe + k * 11 + 4, none⟩ = some (.bool x.gen) := hce 4 _ rfl
  have e5 : w.cell? ⟨be, oe + k * 11 + 5, none⟩ = some (.slice A1 n1 c1) := hce 5 _ rfl
  have e6 : w.cell? ⟨be, oe + k * 11 + 6, none⟩ = some (.slice A2 n2 c2) := hce 6 _ rfl
  have e7 : w.cell? ⟨be, oe + k * 11 + 7, none⟩ = some (.slice A3 n3 c3) := hce 7 _ rfl
  have e8 : w.cell? ⟨be, oe + k * 11 + 8, none⟩ = some (.slice A4 n4 c4) := hce 8 _ rfl
  have e9 : w.cell? ⟨be, oe + k * 11 + 9, none⟩ = some (.slice A5 n5 c5) := hce 9 _ rfl
  have e10 : w.cell? ⟨be, oe + k * 11 + 10, none⟩ = some (.slice A6 n6 c6) := hce 10 _ rfl
  have hU : Below w.heap.size w (w.alloc (.cells #[.slice (some ⟨be, oe, none⟩) n c, .string x.name, .int .i64 x.kind, .int .i64 x.params, .int .i64 x.defaults, .bool x.gen, .slice A1 n1 c1, .slice A2 n2 c2, .slice A3 n3 c3, .slice A4 n4 c4, .slice A5 n5 c5, .slice A6 n6 c6] 58)) := (by repeat (first | exact Below.refl _ _ | assumption | refine Below.setCell ?_ (by first | (simp; done) | (simp; omega) | omega) _ | refine below_drewN ?_ _ | refine Below.drew ?_ | refine Below.alloc ?_ (by first | (simp; done) | (simp; omega) | omega) _))
  have HU := Lib.hid hU
  have HUB := Lib.hid (Blk.new w 58 #[.slice (some ⟨be, oe, none⟩) n c, .string x.name, .int .i64 x.kind, .int .i64 x.params, .int .i64 x.defaults, .bool x.gen, .slice A1 n1 c1, .slice A2 n2 c2, .slice A3 n3 c3, .slice A4 n4 c4, .slice A5 n5 c5, .slice A6 n6 c6])
  have HUA : Hid (UnitAt (w.alloc (.cells #[.slice (some ⟨be, oe, none⟩) n c, .string x.name, .int .i64 x.kind, .int .i64 x.params, .int .i64 x.defaults, .bool x.gen, .slice A1 n1 c1, .slice A2 n2 c2, .slice A3 n3 c3, .slice A4 n4 c4, .slice A5 n5 c5, .slice A6 n6 c6] 58)) p x [.slice (some ⟨be, oe, none⟩) n c, .string x.name, .int .i64 x.kind, .int .i64 x.params, .int .i64 x.defaults, .bool x.gen, .slice A1 n1 c1, .slice A2 n2 c2, .slice A3 n3 c3, .slice A4 n4 c4, .slice A5 n5 c5, .slice A6 n6 c6]) := Lib.hid ⟨_, _, _, _, rfl, h.new hU, hca.new hU⟩
  have KT := Lib.hid (tables_any (hca.new hU))
  clear h hca hce r6 hl6 hx hU
  unfold Most at hmost m6
  go_enter Try.func11, Try.ntmps11
  cases ht : tablesOk x with
  | false =>
    have hr : heightsC p x = ([], 53, 0) := by unfold heightsC; rw [if_pos ht]
    rw [hr]
    rw [ht] at KT
    clear ht hr
    go_wp2_with ((with_reducible refine KT.out.mono ?_); rintro e w1 ⟨rfl, hb1⟩; have HB1 := Lib.hid (HU.out.trans (hb1.mono HU.out.size)); clear hb1)
    exact bodyPost_ret (v := .tuple #[.slice none 0 0, .int .i64 53, .int .i64 0]) (by simp [results, Try.results11, go_sem]) rfl (HtR.bad HB1.out 53 0)
  | true =>
    have HR : Hid (heightsC p x = tellE p x.ins (wrongs p x x.ins 0)) := Lib.hid (by
      unfold heightsC
      rw [if_neg (by rw [ht]; decide)]
      cases wrongs p x x.ins 0 <;> rfl)
    rw [ht] at KT
    clear ht
    go_wp2_with ((with_reducible refine KT.out.mono ?_); rintro e w1 ⟨rfl, hb1⟩; have HB1 := Lib.hid (HU.out.trans (hb1.mono HU.out.size)); have HUB1 := Lib.hid (HUB.out.new' hb1); have HUA1 := Lib.hid (HUA.out.new hb1); clear hb1)
    clear e0 e1 e2 e3 e4 e5 e6 e7 e8 e9 e10 KT HUB HUA
    refine (effects_any w1).mono ?_
    rintro e w2 ⟨⟨g, rfl, hg⟩, hb2⟩
    have HG := Lib.hid hg
    have HB2 := Lib.hid (HB1.out.trans (hb2.mono HB1.out.size))
    have HUB2 := Lib.hid (HUB1.out.new' hb2)
    have HUA2 := Lib.hid (HUA1.out.new hb2)
    have HCA2 := Lib.hid (HCA.out.new HB2.out)
    clear hg hb2 HB1 HUB1 HUA1 HU
    have u11 := HUB2.out.cell 11
    have ul := HUB2.out.lt
    simp only [List.getElem?_toArray, List.getElem?_cons_zero, List.getElem?_cons_succ] at u11
    go_wp2_with fail
    go_loopw [47] (fun i wr => ∃ j : Nat, j ≤ n6 ∧ i = .int .i64 j ∧ Below w2.heap.size w2 wr ∧ Hid (wrongs p x x.ins 0 = wrongs p x (x.ins.drop j) j)) (fun i _ => n6 - (intOf i).toNat)
    case atStart => exact ⟨0, by omega, rfl, Below.refl _ _, Lib.hid rfl⟩
    case round =>
      obtain ⟨j, hj, rfl, hb, HW⟩ := hrel
      have HBr := Lib.hid hb
      have HBw := Lib.hid (HB2.out.trans (hb.mono HB2.out.size))
      have hz := hb.size
      by_cases hlt : j < n6
      · obtain ⟨y, hy⟩ : ∃ y, x.ins[j]? = some y := ⟨_, List.getElem?_eq_getElem (by have := HL6.out; omega)⟩
        obtain ⟨bi, oi, rfl, hbi, hci⟩ := R6.out.at_ (f := insCs) (m := 2) (fun _ => rfl) hy
        have HY := Lib.hid hy
        have HWA := Lib.hid (wrongs_at (p := p) hy)
        obtain ⟨op, a⟩ := y
        have i0 : wr.cell? ⟨bi, oi + j * 2, none⟩ = some (.int .i64 op) := (HBw.out.cell (p := ⟨bi, oi + j * 2, none⟩) hbi).trans (hci 0 _ rfl)
        have i1 : wr.cell? ⟨bi, oi + j * 2 + 1, none⟩ = some (.int .i64 a) := (HBw.out.cell (p := ⟨bi, oi + j * 2 + 1, none⟩) hbi).trans (hci 1 _ rfl)
        have hbr : bi < wr.heap.size := by have := HBw.out.size; omega
        have hbub := HUB2.out.new' hb
        have u0 := hbub.cell 0
        have u1 := hbub.cell 1
        have u2 := hbub.cell 2
        have u3 := hbub.cell 3
        have u4 := hbub.cell 4
        have u5 := hbub.cell 5
        have u6 := hbub.cell 6
        have u7 := hbub.cell 7
        have u8 := hbub.cell 8
        have u9 := hbub.cell 9
        have u10 := hbub.cell 10
        have u11 := hbub.cell 11
        have ul := hbub.lt
        simp only [List.getElem?_toArray, List.getElem?_cons_zero, List.getElem?_cons_succ] at u0 u1 u2 u3 u4 u5 u6 u7 u8 u9 u10 u11
        have hal : Below wr.heap.size wr (wr.alloc (.cells #[.int .i64 op, .int .i64 a] 43)) := (by repeat (first | exact Below.refl _ _ | assumption | refine Below.setCell ?_ (by first | (simp; done) | (simp; omega) | omega) _ | refine below_drewN ?_ _ | refine Below.drew ?_ | refine Below.alloc ?_ (by first | (simp; done) | (simp; omega) | omega) _))
        have KW := Lib.hid (wrong_any (HUA2.out.new (hb.trans (hal.mono hz))) (HG.out.new (hb.trans (hal.mono hz))) op a)
        clear hb hy hci hbub hal
        cases he : decide (wrongE p x (op, a) = 0) with
        | true =>
          have he0 : wrongE p x (op, a) = 0 := of_decide_eq_true he
          rw [he0] at KW
          have HWA2 : Hid (wrongs p x x.ins 0 = wrongs p x (x.ins.drop (j + 1)) (j + 1)) := Lib.hid (by rw [HW.out, HWA.out, if_pos he0])
          clear he he0 HW HWA
          go_wp2_with ((with_reducible refine KW.out.mono ?_); rintro e w3 ⟨rfl, hb3⟩; have HB3 := Lib.hid (HBr.out.trans (Below.trans (by exact (by repeat (first | exact Below.refl _ _ | assumption | refine Below.setCell ?_ (by first | (simp; done) | (simp; omega) | omega) _ | refine below_drewN ?_ _ | refine Below.drew ?_ | refine Below.alloc ?_ (by first | (simp; done) | (simp; omega) | omega) _))) (hb3.mono (by have := HBr.out.size; simp; omega)))); clear hb3)
          go_roundw
          case rel => exact ⟨j + 1, by omega, by go_num, HB3.out, HWA2⟩
          case measure => simp [intOf]; omega
        | false =>
          have he0 : ¬ wrongE p x (op, a) = 0 := of_decide_eq_false he
          have HWA2 : Hid (wrongs p x x.ins 0 = some (wrongE p x (op, a), j)) := Lib.hid (by rw [HW.out, HWA.out, if_neg he0])
          generalize wrongE p x (op, a) = z at *
          have he1 : (z == 0) = false := by simpa using he0
          have he2 : (z != 0) = true := by simpa using he0
          clear he he0 HW HWA
          go_wp2_with ((with_reducible refine KW.out.mono ?_); rintro e w3 ⟨rfl, hb3⟩; have HB3 := Lib.hid (HBw.out.trans (Below.trans (by exact (by repeat (first | exact Below.refl _ _ | assumption | refine Below.setCell ?_ (by first | (simp; done) | (simp; omega) | omega) _ | refine below_drewN ?_ _ | refine Below.drew ?_ | refine Below.alloc ?_ (by first | (simp; done) | (simp; omega) | omega) _))) (hb3.mono (by have := HBw.out.size; simp; omega)))); clear hb3)
          exact bodyPost_ret (v := .tuple #[.slice none 0 0, .int .i64 z, .int .i64 j]) (by simp [results, Try.results11, go_sem]) rfl (by rw [HR.out, HWA2.out]; exact HtR.bad HB3.out z j)
      · obtain rfl : j = n6 := by omega
        have HNO : Hid (wrongs p x x.ins 0 = none) := Lib.hid (by rw [HW.out, List.drop_of_length_le (by have := HL6.out; omega)]; rfl)
        obtain ⟨wb, rfl⟩ : ∃ wo, wo = wr := ⟨_, rfl⟩
        have HW0 := Lib.hid hb
        have HUBw := Lib.hid (HUB2.out.new' hb)
        have HUAw := Lib.hid (HUA2.out.new hb)
        have HGw := Lib.hid (HG.out.new hb)
        have u11 := HUBw.out.cell 11
        have ul := HUBw.out.lt
        simp only [List.getElem?_toArray, List.getElem?_cons_zero, List.getElem?_cons_succ] at u11
        have HR2 : Hid (heightsC p x = flowE p x.ins) := Lib.hid (by rw [HR.out, HNO.out]; rfl)
        have HALL : Hid (AllRight p x) := Lib.hid (wrongs_none.1 HNO.out)
        clear hb HW HR HNO HUB2 HUA2 HG
        by_cases hn0 : j = 0
        · subst hn0
          go_wp2_with fail
          exact bodyPost_ret (v := .tuple #[.slice none 0 0, .int .i64 51, .int .i64 0]) (by simp [results, Try.results11, go_sem]) rfl (by
            rw [HR2.out]
            unfold flowE
            rw [if_pos HL6.out]
            exact HtR.bad HBw.out 51 0)
        · have hn1 : 0 < j := by omega
          have hj8 : j ≤ 8796093022208 := by omega
          have mkP := make_P j hj8
          have mkB := make_B j hj8
          have ej : ((j : Int) == 0) = false := by simp; omega
          clear hj hlt hn0
          go_wp2_with fail
          have HF := Lib.hid (start_at wb j hn1)
          have HLJ := Lib.hid HL6.out
          obtain ⟨g0, k0, un0⟩ := start_good p x.ins (by have := HL6.out; omega)
          rw [HL6.out] at g0 k0 un0
          have G0 := Lib.hid g0
          have K0 := Lib.hid k0
          have UN0 := Lib.hid un0
          clear g0 k0 un0
          generalize ((wb.alloc (.cells ((Array.replicate j (.pointer none)).setIfInBounds 0 (.pointer (some ⟨wb.heap.size + 1 + 1, 0, none⟩))) 65)).alloc (.cells ((Array.replicate j (.bool false)).setIfInBounds 0 (.bool true)) 4)).alloc (.cells #[.int .i64 0, .pointer none] 68) = W1 at *
          obtain ⟨sb, hsb⟩ : ∃ sb, sb = wb.heap.size := ⟨_, rfl⟩
          obtain ⟨ob, hob⟩ : ∃ ob, ob = wb.heap.size + 1 := ⟨_, rfl⟩
          have HF1 : Hid (FlAt wb j sb ob W1 (startF j) ((List.replicate j none).set 0 (some ⟨wb.heap.size + 1 + 1, 0, none⟩))) := Lib.hid (by rw [hsb, hob]; exact HF.out)
          rw [← hob, ← hsb]
          clear hsb hob HF
          refine (first_any HF1.out.lo (HF1.out.rd (by omega))).mono ?_
          rintro e W2 ⟨rfl, rfl⟩
          clear mkP mkB
          go_wp2_with fail
          go_loopg [15] (j + 1) (fun k v W => ∃ (f : Fl) (ps : List (Option Addr)) (q : Nat), v = .int .i64 (firstI f.op) ∧ FlAt wb j sb ob W f ps ∧ Good p x.ins q f ∧ k + q = j + 1 ∧ undone f < k ∧ goE p x.ins (j + 1) (startF j) = goE p x.ins k f ∧ Kn f 0 ⟨0, []⟩)
          case atStart => exact ⟨startF j, _, 0, rfl, HF1.out, G0.out, by omega, UN0.out, rfl, K0.out⟩
          case round =>
            obtain ⟨f, ps, q, rfl, hfl, hgood, hkq, hund, hgo, hk0⟩ := hrel
            have FL := Lib.hid hfl
            have GD := Lib.hid hgood
            have GO := Lib.hid hgo
            have UND := Lib.hid hund
            have KQ := Lib.hid hkq
            have KN0 := Lib.hid hk0
            have hbe1 := hfl.bel
            have HWr := Lib.hid hbe1
            clear hfl hgood hgo hund hkq hk0 hbe1 HF1 G0 K0 UN0
            cases hfo : firstE f.op with
            | none =>
              have hfi : firstI f.op = -1 := by unfold firstI; rw [hfo]
              rw [hfi]
              have HRS : Hid (heightsC p x = (f.st.map heightOf, 0, 0)) := Lib.hid (by
                rw [HR2.out]
                refine flow_ok (by have := HLJ.out; omega) ?_
                rw [HLJ.out, GO.out]
                exact go_end hfo)
              have mkI := make_I j hj8
              have HBL := Lib.hid (HBw.out.trans (FL.out.bel.mono HBw.out.size))
              clear hfi hfo GO UND KQ KN0 HWr GD
              go_wp2_with fail
              obtain ⟨wq, rfl⟩ : ∃ wo, wo = wr := ⟨_, rfl⟩
              go_loopw [158] (fun v W => ∃ jj : Nat, jj ≤ j ∧ v = .int .i64 jj ∧ Below wq.heap.size wq W ∧ Blk W wq.heap.size 3 (hgtL f jj j).toArray) (fun v _ => j - (intOf v).toNat)
              case atStart => exact ⟨0, by omega, rfl, (by repeat (first | exact Below.refl _ _ | assumption | refine Below.setCell ?_ (by first | (simp; done) | (simp; omega) | omega) _ | refine below_drewN ?_ _ | refine Below.drew ?_ | refine Below.alloc ?_ (by first | (simp; done) | (simp; omega) | omega) _)), by rw [show (hgtL f 0 j).toArray = (List.replicate j (Value.int .i64 0)).toArray by simp [hgtL]]; exact Blk.new _ _ _⟩
              case round =>
                obtain ⟨jj, hjj, rfl, hb, hbo⟩ := hrel
                have HBO := Lib.hid hbo
                have HBB := Lib.hid hb
                have FW := Lib.hid (FL.out.new hb)
                by_cases hjl : jj < j
                · obtain ⟨qp, o, hp1, hp2, hp3, hp4⟩ := FW.out.get hjl
                  have HP2 := Lib.hid hp2
                  have HOL := Lib.hid (hgtL_set hjl FL.out.ln hp2)
                  have bl := hbo.lt
                  have bf := hbo.frozen jj
                  have bc : wr.cell? ⟨wq.heap.size, jj, none⟩ = some (.int .i64 0) := by
                    rw [hbo.cell jj]
                    exact hgtL_at hjl FL.out.ln
                  cases o with
                  | none =>
                    obtain rfl : qp = none := hp3
                    clear hbo hb hp1 hp2
                    go_wp2_with fail
                    go_roundw
                    case rel => exact ⟨jj + 1, by omega, by go_num, HBB.out.setCell (Nat.le_refl _) _, by
                      have := HBO.out.set_ jj (.int .i64 (-1))
                      rw [List.setIfInBounds_toArray, show (Value.int .i64 (-1)) = .int .i64 (heightOf none) from rfl, HOL.out] at this
                      exact this⟩
                    case measure => simp [intOf]; omega
                  | some u =>
                    obtain ⟨pb, pk, pt, rfl, q1, q2, q3, q4, q5, q6⟩ : StAt wr sb ob qp u := hp3
                    obtain ⟨uh, ul⟩ := u
                    simp only at q4
                    have hne : pb ≠ wq.heap.size := fun e => by
                      obtain ⟨_, _, _, e1, h9, _⟩ : StAt wq sb ob _ _ := FL.out.at_ jj _ _ HP2.out hp1
                      cases e1
                      omega
                    clear hbo hb hp1 hp2 q6
                    go_wp2_with fail
                    go_roundw
                    case rel => exact ⟨jj + 1, by omega, by go_num, (HBB.out.setCell (Nat.le_refl _) _).setCell (Nat.le_refl _) _, by
                      have := (HBO.out.set_ jj (.int .i64 (-1))).set_ jj (.int .i64 uh)
                      rw [List.setIfInBounds_toArray, List.setIfInBounds_toArray, List.set_set, show (Value.int .i64 uh) = .int .i64 (heightOf (some ⟨uh, ul⟩)) from rfl, HOL.out] at this
                      exact this⟩
                    case measure => simp [intOf]; omega
                · obtain rfl : jj = j := by omega
                  have HRD : Hid (Rd wr (some ⟨wq.heap.size, 0, none⟩) jj jj 1 ((f.st.map heightOf).map (Value.int .i64))) := Lib.hid (by
                    refine ⟨Nat.le_refl _, by omega, by simp [FL.out.ln], fun _ => ⟨_, 0, rfl, hbo.lt, fun i u hu => ?_⟩⟩
                    rw [Nat.zero_add, hbo.cell i]
                    rw [show hgtL f jj jj = (f.st.map heightOf).map (Value.int .i64) by
                      unfold hgtL
                      rw [List.take_of_length_le (by rw [FL.out.ln]; exact Nat.le_refl _)]
                      simp]
                    simpa using hu)
                  have HBZ := Lib.hid (HBL.out.trans (hb.mono HBL.out.size))
                  clear hbo hb
                  go_wp2_with fail
                  exact bodyPost_ret (v := .tuple #[.slice (some ⟨wq.heap.size, 0, none⟩) jj jj, .int .i64 0, .int .i64 0]) (by simp [results, Try.results11, go_sem]) rfl (by rw [HRS.out]; exact ⟨HBZ.out, _, _, _, rfl, by simp [FL.out.ln], HRD.out⟩)
            | some i =>
              have hfi : firstI f.op = i := by unfold firstI; rw [hfo]
              rw [hfi]
              have hop := (firstE_some hfo).1
              have hij : i < j := by rw [← FL.out.lo]; exact (List.getElem?_eq_some_iff.1 hop).1
              have HOP := Lib.hid hop
              have HFO := Lib.hid hfo
              obtain ⟨s, hks⟩ := GD.out.open_ i hop
              obtain ⟨qa, o, hq1, hq2, hq3, hq4⟩ := FL.out.get hij
              have ho : o = some s := by
                unfold Kn at hks
                rw [hks] at hq2
                exact (Option.some.inj hq2).symm
              subst ho
              obtain ⟨b0, hb0, hb1⟩ := FL.out.bool hij
              obtain ⟨y, hy⟩ : ∃ y, x.ins[i]? = some y := ⟨_, List.getElem?_eq_getElem (by have := HLJ.out; omega)⟩
              obtain ⟨bi, oi, rfl, hbi, hci⟩ := R6.out.at_ (f := insCs) (m := 2) (fun _ => rfl) hy
              have hob1 := FL.out.op.lt
              have hobf := FL.out.op.frozen i
              have FM := Lib.hid (FL.out.mark i false)
              have HY := Lib.hid hy
              have HKS := Lib.hid hks
              have HQ3 := Lib.hid hq3
              have HQ1 := Lib.hid hq1
              obtain ⟨op, a⟩ := y
              have HBW1 := Lib.hid (HBw.out.trans (FM.out.bel.mono HBw.out.size))
              have i0 : (wr.setCell ⟨ob, i, none⟩ (.bool false)).cell? ⟨bi, oi + i * 2, none⟩ = some (.int .i64 op) := (HBW1.out.cell (p := ⟨bi, oi + i * 2, none⟩) hbi).trans (hci 0 _ rfl)
              have i1 : (wr.setCell ⟨ob, i, none⟩ (.bool false)).cell? ⟨bi, oi + i * 2 + 1, none⟩ = some (.int .i64 a) := (HBW1.out.cell (p := ⟨bi, oi + i * 2 + 1, none⟩) hbi).trans (hci 1 _ rfl)
              have hub := HUBw.out.new' FM.out.bel
              have u11 := hub.cell 11
              have ul := hub.lt
              simp only [List.getElem?_toArray, List.getElem?_cons_zero, List.getElem?_cons_succ] at u11
              have hbil : bi < (wr.setCell ⟨ob, i, none⟩ (.bool false)).heap.size := by have := HBW1.out.size; omega
              clear hfo hop hks hq1 hq2 hq3 hq4 hb0 hy hci hub hfi
              go_wp2_with fail
              have hz3 : (wr.setCell ⟨ob, i, none⟩ (.bool false)).heap.size = wr.heap.size := by simp [World.setCell]
              generalize wr.setCell ⟨ob, i, none⟩ (.bool false) = W3 at *
              have hW4 : Below W3.heap.size W3 (W3.alloc (.cells #[.int .i64 op, .int .i64 a] 43)) := (by repeat (first | exact Below.refl _ _ | assumption | refine Below.setCell ?_ (by first | (simp; done) | (simp; omega) | omega) _ | refine below_drewN ?_ _ | refine Below.drew ?_ | refine Below.alloc ?_ (by first | (simp; done) | (simp; omega) | omega) _))
              have HXB : Hid (Blk (W3.alloc (.cells #[.int .i64 op, .int .i64 a] 43)) wr.heap.size 43 #[.int .i64 op, .int .i64 a]) := Lib.hid (by have hx := Blk.new W3 43 #[.int .i64 op, .int .i64 a]; rw [hz3] at hx; exact hx)
              clear hz3
              have F4 := Lib.hid (FM.out.new hW4)
              obtain ⟨qb, qk, st, rfl, s1, s2, s3, s4, s5, s6⟩ : StAt (W3.alloc (.cells #[.int .i64 op, .int .i64 a] 43)) sb ob qa s := F4.out.at_ i (some s) qa HKS.out HQ1.out
              obtain ⟨kd, tk, lv, he, hm, -⟩ := right_parts (HALL.out (op, a) (List.mem_of_getElem? HY.out))
              have hg4 : IsEff (W3.alloc (.cells #[.int .i64 op, .int .i64 a] 43)) g := (HGw.out.new FM.out.bel).new hW4
              obtain ⟨vm, vt, hkd, htk, -, hlook⟩ := look_some hg4 he
              obtain ⟨sh, sbl⟩ := s
              have hsl := GD.out.low i _ HKS.out
              have hsh := GD.out.high i _ HKS.out
              have hkq := KQ.out
              simp only at hsl hsh s4 s6
              have HU4 := Lib.hid ((HUBw.out.new' FM.out.bel).new' hW4)
              have HUA4 := Lib.hid ((HUAw.out.new FM.out.bel).new hW4)
              generalize hWW : W3.alloc (.cells #[.int .i64 op, .int .i64 a] 43) = W4 at *
              have HD4 : Hid (Below W4.heap.size W4 W4.drew) := Lib.hid (by repeat (first | exact Below.refl _ _ | assumption | refine Below.setCell ?_ (by first | (simp; done) | (simp; omega) | omega) _ | refine below_drewN ?_ _ | refine Below.drew ?_ | refine Below.alloc ?_ (by first | (simp; done) | (simp; omega) | omega) _))
              have HS0 : Hid ((fun w' => w'.cell? ⟨w.heap.size, 0, none⟩ = some (.slice (some ⟨be, oe, none⟩) n c) ∧ w'.cell? ⟨w.heap.size, 1, none⟩ = some (.string x.name) ∧ w'.cell? ⟨w.heap.size, 2, none⟩ = some (.int .i64 x.kind) ∧ w'.cell? ⟨w.heap.size, 3, none⟩ = some (.int .i64 x.params) ∧ w'.cell? ⟨w.heap.size, 4, none⟩ = some (.int .i64 x.defaults) ∧ w'.cell? ⟨w.heap.size, 5, none⟩ = some (.bool x.gen) ∧ w'.cell? ⟨w.heap.size, 6, none⟩ = some (.slice A1 n1 c1) ∧ w'.cell? ⟨w.heap.size, 7, none⟩ = some (.slice A2 n2 c2) ∧ w'.cell? ⟨w.heap.size, 8, none⟩ = some (.slice A3 n3 c3) ∧ w'.cell? ⟨w.heap.size, 9, none⟩ = some (.slice A4 n4 c4) ∧ w'.cell? ⟨w.heap.size, 10, none⟩ = some (.slice A5 n5 c5) ∧ w'.cell? ⟨w.heap.size, 11, none⟩ = some (.slice (some ⟨bi, oi, none⟩) j c6) ∧ w'.cell? ⟨wr.heap.size, 0, none⟩ = some (.int .i64 op) ∧ w'.cell? ⟨wr.heap.size, 1, none⟩ = some (.int .i64 a) ∧ w'.cell? ⟨sb, i, none⟩ = some (.pointer (some ⟨qb, qk, none⟩)) ∧ w'.cell? ⟨qb, qk, none⟩ = some (.int .i64 sh) ∧ w'.cell? ⟨qb, qk + 1, none⟩ = some (.pointer st) ∧ (Instr.lookup 60 (.map (some g)) (.int .i64 op) false).run Try.prog w' = .ok (.agg #[vm, vt, .int .i64 lv]) w') W4.drew) := Lib.hid ⟨HU4.out.cell 0, HU4.out.cell 1, HU4.out.cell 2, HU4.out.cell 3, HU4.out.cell 4, HU4.out.cell 5, HU4.out.cell 6, HU4.out.cell 7, HU4.out.cell 8, HU4.out.cell 9, HU4.out.cell 10, HU4.out.cell 11, HXB.out.cell 0, HXB.out.cell 1, F4.out.ptr HQ1.out, s4, s5, hlook _ rfl⟩
              have HALLS : Hid (∀ w', Below W4.heap.size W4 w' → (fun w' => w'.cell? ⟨w.heap.size, 0, none⟩ = some (.slice (some ⟨be, oe, none⟩) n c) ∧ w'.cell? ⟨w.heap.size, 1, none⟩ = some (.string x.name) ∧ w'.cell? ⟨w.heap.size, 2, none⟩ = some (.int .i64 x.kind) ∧ w'.cell? ⟨w.heap.size, 3, none⟩ = some (.int .i64 x.params) ∧ w'.cell? ⟨w.heap.size, 4, none⟩ = some (.int .i64 x.defaults) ∧ w'.cell? ⟨w.heap.size, 5, none⟩ = some (.bool x.gen) ∧ w'.cell? ⟨w.heap.size, 6, none⟩ = some (.slice A1 n1 c1) ∧ w'.cell? ⟨w.heap.size, 7, none⟩ = some (.slice A2 n2 c2) ∧ w'.cell? ⟨w.heap.size, 8, none⟩ = some (.slice A3 n3 c3) ∧ w'.cell? ⟨w.heap.size, 9, none⟩ = some (.slice A4 n4 c4) ∧ w'.cell? ⟨w.heap.size, 10, none⟩ = some (.slice A5 n5 c5) ∧ w'.cell? ⟨w.heap.size, 11, none⟩ = some (.slice (some ⟨bi, oi, none⟩) j c6) ∧ w'.cell? ⟨wr.heap.size, 0, none⟩ = some (.int .i64 op) ∧ w'.cell? ⟨wr.heap.size, 1, none⟩ = some (.int .i64 a) ∧ w'.cell? ⟨sb, i, none⟩ = some (.pointer (some ⟨qb, qk, none⟩)) ∧ w'.cell? ⟨qb, qk, none⟩ = some (.int .i64 sh) ∧ w'.cell? ⟨qb, qk + 1, none⟩ = some (.pointer st) ∧ (Instr.lookup 60 (.map (some g)) (.int .i64 op) false).run Try.prog w' = .ok (.agg #[vm, vt, .int .i64 lv]) w') w') := Lib.hid fun w' hb => ⟨(HU4.out.new' hb).cell 0, (HU4.out.new' hb).cell 1, (HU4.out.new' hb).cell 2, (HU4.out.new' hb).cell 3, (HU4.out.new' hb).cell 4, (HU4.out.new' hb).cell 5, (HU4.out.new' hb).cell 6, (HU4.out.new' hb).cell 7, (HU4.out.new' hb).cell 8, (HU4.out.new' hb).cell 9, (HU4.out.new' hb).cell 10, (HU4.out.new' hb).cell 11, (HXB.out.new' hb).cell 0, (HXB.out.new' hb).cell 1, (F4.out.new hb).ptr HQ1.out, (hb.cell (p := ⟨qb, qk, none⟩) s1).trans s4, (hb.cell (p := ⟨qb, qk + 1, none⟩) s1).trans s5, hlook _ (hb.block g hg4.lt)⟩
              have hxl := HXB.out.lt
              have hull := HU4.out.lt
              have hsbl := F4.out.st.lt
              have KLD : Hid (Calls Try.prog 24 #[.agg #[.slice (some ⟨be, oe, none⟩) n c, .string x.name, .int .i64 x.kind, .int .i64 x.params, .int .i64 x.defaults, .bool x.gen, .slice A1 n1 c1, .slice A2 n2 c2, .slice A3 n3 c3, .slice A4 n4 c4, .slice A5 n5 c5, .slice (some ⟨bi, oi, none⟩) j c6], .agg #[vm, vt, .int .i64 lv], .agg #[.int .i64 op, .int .i64 a], .int .i64 i, .agg #[.int .i64 sh, .pointer st]] W4.drew (LookR W4.drew (waysE p (op, a) i ⟨sh, sbl⟩))) := Lib.hid (look_any (i := i) (HUA4.out.new HD4.out) he hm (hkd.new HD4.out) (htk.new HD4.out) ⟨hsl, by omega⟩ (by omega) (s6.new HD4.out))
              clear hW4 hWW s6 hkd htk he hm hg4 hlook hsl hsh hkq
              cases hwe : waysE p (op, a) i ⟨sh, sbl⟩ with
              | none =>
                have KL := Lib.hid (hwe ▸ KLD.out)
                have HWE := Lib.hid hwe
                clear hwe KLD
                go_region_held3 (fun w' => w'.cell? ⟨w.heap.size, 0, none⟩ = some (.slice (some ⟨be, oe, none⟩) n c) ∧ w'.cell? ⟨w.heap.size, 1, none⟩ = some (.string x.name) ∧ w'.cell? ⟨w.heap.size, 2, none⟩ = some (.int .i64 x.kind) ∧ w'.cell? ⟨w.heap.size, 3, none⟩ = some (.int .i64 x.params) ∧ w'.cell? ⟨w.heap.size, 4, none⟩ = some (.int .i64 x.defaults) ∧ w'.cell? ⟨w.heap.size, 5, none⟩ = some (.bool x.gen) ∧ w'.cell? ⟨w.heap.size, 6, none⟩ = some (.slice A1 n1 c1) ∧ w'.cell? ⟨w.heap.size, 7, none⟩ = some (.slice A2 n2 c2) ∧ w'.cell? ⟨w.heap.size, 8, none⟩ = some (.slice A3 n3 c3) ∧ w'.cell? ⟨w.heap.size, 9, none⟩ = some (.slice A4 n4 c4) ∧ w'.cell? ⟨w.heap.size, 10, none⟩ = some (.slice A5 n5 c5) ∧ w'.cell? ⟨w.heap.size, 11, none⟩ = some (.slice (some ⟨bi, oi, none⟩) j c6) ∧ w'.cell? ⟨wr.heap.size, 0, none⟩ = some (.int .i64 op) ∧ w'.cell? ⟨wr.heap.size, 1, none⟩ = some (.int .i64 a) ∧ w'.cell? ⟨sb, i, none⟩ = some (.pointer (some ⟨qb, qk, none⟩)) ∧ w'.cell? ⟨qb, qk, none⟩ = some (.int .i64 sh) ∧ w'.cell? ⟨qb, qk + 1, none⟩ = some (.pointer st) ∧ (Instr.lookup 60 (.map (some g)) (.int .i64 op) false).run Try.prog w' = .ok (.agg #[vm, vt, .int .i64 lv]) w')
                  (first | exact HS4.out | exact HS0.out | go_keep)
                  (first
                    | ((with_reducible refine KL.out.mono ?_); rintro e w4 ⟨hb4, rfl⟩; have HB4 := Lib.hid (HD4.out.trans hb4); have HS4 := Lib.hid (HALLS.out _ HB4.out); clear hb4))
                clear HS4 HS0 HALLS KL HD4
                have HB : Hid (Below w.heap.size w w4) := Lib.hid (HBw.out.trans ((F4.out.bel.trans (HB4.out.mono F4.out.bel.size)).mono HBw.out.size))
                have HRS : Hid (heightsC p x = ([], 52, (i : Int))) := Lib.hid (by
                  rw [HR2.out]
                  refine flow_err (by have := HLJ.out; omega) ?_
                  rw [HLJ.out, GO.out]
                  exact go_err HFO.out (by have := UND.out; omega) (step_none HY.out HKS.out HWE.out))
                clear F4 HB4 HKS HY
                go_wp2_with fail
                exact bodyPost_ret (v := .tuple #[.slice none 0 0, .int .i64 52, .int .i64 i]) (by simp [results, Try.results11, go_sem]) rfl (by rw [HRS.out]; exact HtR.bad HB.out 52 i)
              | some ways =>
                have KL := Lib.hid (hwe ▸ KLD.out)
                have HWE := Lib.hid hwe
                clear hwe KLD
                go_region_held3 (fun w' => w'.cell? ⟨w.heap.size, 0, none⟩ = some (.slice (some ⟨be, oe, none⟩) n c) ∧ w'.cell? ⟨w.heap.size, 1, none⟩ = some (.string x.name) ∧ w'.cell? ⟨w.heap.size, 2, none⟩ = some (.int .i64 x.kind) ∧ w'.cell? ⟨w.heap.size, 3, none⟩ = some (.int .i64 x.params) ∧ w'.cell? ⟨w.heap.size, 4, none⟩ = some (.int .i64 x.defaults) ∧ w'.cell? ⟨w.heap.size, 5, none⟩ = some (.bool x.gen) ∧ w'.cell? ⟨w.heap.size, 6, none⟩ = some (.slice A1 n1 c1) ∧ w'.cell? ⟨w.heap.size, 7, none⟩ = some (.slice A2 n2 c2) ∧ w'.cell? ⟨w.heap.size, 8, none⟩ = some (.slice A3 n3 c3) ∧ w'.cell? ⟨w.heap.size, 9, none⟩ = some (.slice A4 n4 c4) ∧ w'.cell? ⟨w.heap.size, 10, none⟩ = some (.slice A5 n5 c5) ∧ w'.cell? ⟨w.heap.size, 11, none⟩ = some (.slice (some ⟨bi, oi, none⟩) j c6) ∧ w'.cell? ⟨wr.heap.size, 0, none⟩ = some (.int .i64 op) ∧ w'.cell? ⟨wr.heap.size, 1, none⟩ = some (.int .i64 a) ∧ w'.cell? ⟨sb, i, none⟩ = some (.pointer (some ⟨qb, qk, none⟩)) ∧ w'.cell? ⟨qb, qk, none⟩ = some (.int .i64 sh) ∧ w'.cell? ⟨qb, qk + 1, none⟩ = some (.pointer st) ∧ (Instr.lookup 60 (.map (some g)) (.int .i64 op) false).run Try.prog w' = .ok (.agg #[vm, vt, .int .i64 lv]) w')
                  (first | exact HS4.out | exact HS0.out | go_keep)
                  (first
                    | ((with_reducible refine KL.out.mono ?_); rintro e w4 ⟨hb4, A4w, n4w, c4w, rfl, hways, hnew⟩; have HWY := Lib.hid hways; have HNEW := Lib.hid hnew; clear hways hnew; have HB4 := Lib.hid (HD4.out.trans hb4); have HS4 := Lib.hid (HALLS.out _ HB4.out); clear hb4))
                clear HS4 HS0 HALLS KL HD4
                have hsbl' := F4.out.st.lt
                have hobl' := F4.out.op.lt
                have HNE : Hid (∀ b o, A4w = some ⟨b, o, none⟩ → b ≠ sb ∧ b ≠ ob) := Lib.hid fun b o e => by
                  have h9 := HNEW.out b o e
                  have h8 : W4.drew.heap.size = W4.heap.size := rfl
                  omega
                have HF5 := Lib.hid (F4.out.new HB4.out)
                have HWP := Lib.hid (ways_of (HALL.out (op, a) (List.mem_of_getElem? HY.out)) HWE.out (GD.out.low i _ HKS.out))
                have HST := Lib.hid (step_some HY.out HKS.out HWE.out)
                have hn4 := HWY.out.len
                have hn63 : n4w ≤ 9223372036854775807 := by
                  obtain ⟨_, _, _, _, hrd⟩ := HWY.out.css
                  exact hrd.le
                have HN4 := Lib.hid hn4
                clear F4 HB4 HNEW hsbl' hobl' hxl hull hsbl HY HWE HU4 HUA4 HXB hn4 u11 ul hob1 hobf i0 i1 hbil hbi
                go_wp2_with fail
                obtain ⟨wq, rfl⟩ : ∃ wo, wo = wr := ⟨_, rfl⟩
                go_loopw [114] (fun v W => ∃ (jj : Nat) (fj : Fl) (psj : List (Option Addr)), jj ≤ n4w ∧ v = .int .i64 jj ∧ FlAt wb j sb ob W fj psj ∧ WaysAt W A4w n4w c4w ways ∧ Hid (stepE p x.ins f i = pushE x.ins.length fj (ways.drop jj))) (fun v _ => n4w - (intOf v).toNat)
                case atStart => exact ⟨0, _, _, by omega, rfl, HF5.out, HWY.out, Lib.hid HST.out⟩
                case round =>
                  obtain ⟨jj, fj, psj, hjj, rfl, hfl, hwy, HPU⟩ := hrel
                  have FJ := Lib.hid hfl
                  have WJ := Lib.hid hwy
                  clear hfl hwy HF5 HWY HST
                  by_cases hjl : jj < n4w
                  · obtain ⟨⟨to, zh, zl⟩, hq⟩ : ∃ q, ways[jj]? = some q := ⟨_, List.getElem?_eq_getElem (by rw [HN4.out]; exact hjl)⟩
                    obtain ⟨wb2, wo, zt, rfl, hwl, z0, z1, z2, z3⟩ := WJ.out.at_ hq
                    have h00 := (HWP.out _ (List.mem_of_getElem? hq)).1
                    obtain ⟨t0, rfl⟩ := Int.eq_ofNat_of_zero_le h00
                    have HPA := Lib.hid (push_at (n := x.ins.length) (f := fj) hq)
                    simp only at z0 z1 z2 z3
                    have hal : Below wr.heap.size wr (wr.alloc (.cells #[.int .i64 t0, .int .i64 zh, .pointer zt] 78)) := (by repeat (first | exact Below.refl _ _ | assumption | refine Below.setCell ?_ (by first | (simp; done) | (simp; omega) | omega) _ | refine below_drewN ?_ _ | refine Below.drew ?_ | refine Below.alloc ?_ (by first | (simp; done) | (simp; omega) | omega) _))
                    have FA := Lib.hid (FJ.out.new hal)
                    have WA := Lib.hid (WJ.out.new hal)
                    have BA := Lib.hid (Blk.new wr 78 #[.int .i64 t0, .int .i64 zh, .pointer zt])
                    have ZA := Lib.hid (z3.new hal)
                    clear hq h00 z3 FJ WJ
                    by_cases hge : j ≤ t0
                    · have d0 : decide (j ≤ t0) = true := decide_eq_true hge
                      have HB : Hid (Below w.heap.size w (wr.alloc (.cells #[.int .i64 t0, .int .i64 zh, .pointer zt] 78))) := Lib.hid (HBw.out.trans (FA.out.bel.mono HBw.out.size))
                      have HRS : Hid (heightsC p x = ([], 51, (i : Int))) := Lib.hid (by
                        rw [HR2.out]
                        refine flow_err (by have := HLJ.out; omega) ?_
                        rw [HLJ.out, GO.out]
                        refine go_err HFO.out (by have := UND.out; omega) ?_
                        rw [HPU.out, HPA.out]
                        exact push_ge (by have := HLJ.out; omega))
                      clear hal hge FA WA BA ZA HPU HPA
                      go_wp2_with fail
                      exact bodyPost_ret (v := .tuple #[.slice none 0 0, .int .i64 51, .int .i64 i]) (by simp [results, Try.results11, go_sem]) rfl (by rw [HRS.out]; exact HtR.bad HB.out 51 i)
                    · have d0 : decide (j ≤ t0) = false := decide_eq_false hge
                      have htj : t0 < j := by omega
                      obtain ⟨qp, o, hp1, hp2, hp3, hp4⟩ := FA.out.get htj
                      obtain ⟨b0, -, hb0⟩ := FA.out.bool htj
                      have f1 := FA.out.st.frozen t0
                      have f2 := FA.out.op.frozen t0
                      have hs1 := FA.out.st.lt
                      have hs2 := FA.out.op.lt
                      have hneo := FA.out.ne
                      cases o with
                      | none =>
                        obtain rfl : qp = none := hp3
                        have HPN := Lib.hid (push_new (s := ⟨zh, zl⟩) (r := ways.drop (jj + 1)) (show t0 < x.ins.length by have := HLJ.out; omega) hp2)
                        have HSN : Hid (StAt (wr.alloc (.cells #[.int .i64 t0, .int .i64 zh, .pointer zt] 78)) sb ob (some ⟨wr.heap.size, 1, none⟩) ⟨zh, zl⟩) := Lib.hid ⟨_, _, zt, rfl, BA.out.lt, Blk.ne_ BA.out FA.out.st (by decide), Blk.ne_ BA.out FA.out.op (by decide), BA.out.cell 1, BA.out.cell 2, ZA.out⟩
                        have HFN := Lib.hid ((FA.out.know htj HSN.out).mark t0 true)
                        have HWN := Lib.hid ((WA.out.set_ (i := t0) FA.out.st (by decide) (fun b o e => (HNE.out b o e).1) (.pointer (some ⟨wr.heap.size, 1, none⟩))).set_ (i := t0) (FA.out.know htj HSN.out).op (by decide) (fun b o e => (HNE.out b o e).2) (.bool true))
                        clear hal hge hp1 hp2 FA WA BA ZA HSN
                        go_wp2_with fail
                        go_roundw
                        case rel => exact ⟨jj + 1, _, _, by omega, by go_num, HFN.out, HWN.out, Lib.hid (by rw [HPU.out, HPA.out, HPN.out])⟩
                        case measure => simp [intOf]; omega
                      | some u =>
                        obtain ⟨pb, pk, pt, rfl, q1, q2, q3, q4, q5, q6⟩ : StAt (wr.alloc (.cells #[.int .i64 t0, .int .i64 zh, .pointer zt] 78)) sb ob qp u := hp3
                        obtain ⟨uh, ul⟩ := u
                        simp only at q4 q6
                        have HP2 := Lib.hid hp2
                        have HQ6 := Lib.hid q6
                        have htl : Hid (t0 < x.ins.length) := Lib.hid (by have := HLJ.out; omega)
                        have HALW := Lib.hid hal
                        clear hal hp2 hp1 q6 hge hneo hs1 hs2
                        go_wp2_with fail
                        generalize wr.alloc (.cells #[.int .i64 t0, .int .i64 zh, .pointer zt] 78) = WA1 at *
                        have HDA : Hid (Below WA1.heap.size WA1 WA1.drew) := Lib.hid (by repeat (first | exact Below.refl _ _ | assumption | refine Below.setCell ?_ (by first | (simp; done) | (simp; omega) | omega) _ | refine below_drewN ?_ _ | refine Below.drew ?_ | refine Below.alloc ?_ (by first | (simp; done) | (simp; omega) | omega) _))
                        have HSA0 : Hid ((fun w' => w'.cell? ⟨sb, t0, none⟩ = some (.pointer (some ⟨pb, pk, none⟩)) ∧ w'.cell? ⟨pb, pk, none⟩ = some (.int .i64 uh) ∧ w'.cell? ⟨pb, pk + 1, none⟩ = some (.pointer pt) ∧ w'.cell? ⟨wr.heap.size, 0, none⟩ = some (.int .i64 (t0 : Int)) ∧ w'.cell? ⟨wr.heap.size, 1, none⟩ = some (.int .i64 zh) ∧ w'.cell? ⟨wr.heap.size, 2, none⟩ = some (.pointer zt)) WA1.drew) := Lib.hid ⟨hp4, q4, q5, BA.out.cell 0, BA.out.cell 1, BA.out.cell 2⟩
                        have HSAL : Hid (∀ w', Below WA1.heap.size WA1 w' → (fun w' => w'.cell? ⟨sb, t0, none⟩ = some (.pointer (some ⟨pb, pk, none⟩)) ∧ w'.cell? ⟨pb, pk, none⟩ = some (.int .i64 uh) ∧ w'.cell? ⟨pb, pk + 1, none⟩ = some (.pointer pt) ∧ w'.cell? ⟨wr.heap.size, 0, none⟩ = some (.int .i64 (t0 : Int)) ∧ w'.cell? ⟨wr.heap.size, 1, none⟩ = some (.int .i64 zh) ∧ w'.cell? ⟨wr.heap.size, 2, none⟩ = some (.pointer zt)) w') := Lib.hid fun w' hb => ⟨(hb.cell (p := ⟨sb, t0, none⟩) FA.out.st.lt).trans hp4, (hb.cell (p := ⟨pb, pk, none⟩) q1).trans q4, (hb.cell (p := ⟨pb, pk + 1, none⟩) q1).trans q5, (BA.out.new' hb).cell 0, (BA.out.new' hb).cell 1, (BA.out.new' hb).cell 2⟩
                        have hbl8 := BA.out.lt
                        have hsb8 := FA.out.st.lt
                        have KS := Lib.hid (same_any (h1 := uh) (h2 := zh) (HQ6.out.new HDA.out) (ZA.out.new HDA.out))
                        cases hse : sameE ⟨uh, ul⟩ ⟨zh, zl⟩ with
                        | true =>
                          rw [hse] at KS
                          have HSE : Hid (St.mk uh ul = ⟨zh, zl⟩) := Lib.hid (of_decide_eq_true hse)
                          clear hse
                          go_region_held3 (fun w' => w'.cell? ⟨sb, t0, none⟩ = some (.pointer (some ⟨pb, pk, none⟩)) ∧ w'.cell? ⟨pb, pk, none⟩ = some (.int .i64 uh) ∧ w'.cell? ⟨pb, pk + 1, none⟩ = some (.pointer pt) ∧ w'.cell? ⟨wr.heap.size, 0, none⟩ = some (.int .i64 (t0 : Int)) ∧ w'.cell? ⟨wr.heap.size, 1, none⟩ = some (.int .i64 zh) ∧ w'.cell? ⟨wr.heap.size, 2, none⟩ = some (.pointer zt))
                            (first | exact HSB.out | exact HSA0.out | go_keep)
                            (first
                              | ((with_reducible refine KS.out.mono ?_); rintro e w8 ⟨rfl, hb8⟩; have HB8 := Lib.hid (HDA.out.trans hb8); have HSB := Lib.hid (HSAL.out _ HB8.out); clear hb8))
                          clear HSB HSA0 HSAL KS HDA
                          go_wp2_with fail
                          go_roundw
                          case rel => exact ⟨jj + 1, fj, psj, by omega, by go_num, FA.out.new HB8.out, WA.out.new HB8.out, Lib.hid (by rw [HPU.out, HPA.out]; exact push_same htl.out (HSE.out ▸ HP2.out))⟩
                          case measure => simp [intOf]; omega
                        | false =>
                          rw [hse] at KS
                          have HSE : Hid (St.mk uh ul ≠ ⟨zh, zl⟩) := Lib.hid (of_decide_eq_false hse)
                          clear hse
                          go_region_held3 (fun w' => w'.cell? ⟨sb, t0, none⟩ = some (.pointer (some ⟨pb, pk, none⟩)) ∧ w'.cell? ⟨pb, pk, none⟩ = some (.int .i64 uh) ∧ w'.cell? ⟨pb, pk + 1, none⟩ = some (.pointer pt) ∧ w'.cell? ⟨wr.heap.size, 0, none⟩ = some (.int .i64 (t0 : Int)) ∧ w'.cell? ⟨wr.heap.size, 1, none⟩ = some (.int .i64 zh) ∧ w'.cell? ⟨wr.heap.size, 2, none⟩ = some (.pointer zt))
                            (first | exact HSB.out | exact HSA0.out | go_keep)
                            (first
                              | ((with_reducible refine KS.out.mono ?_); rintro e w8 ⟨rfl, hb8⟩; have HB8 := Lib.hid (HDA.out.trans hb8); have HSB := Lib.hid (HSAL.out _ HB8.out); clear hb8))
                          clear HSB HSA0 HSAL KS HDA
                          have HB : Hid (Below w.heap.size w w8) := Lib.hid (HBw.out.trans ((FA.out.bel.trans (HB8.out.mono FA.out.bel.size)).mono HBw.out.size))
                          have HRS : Hid (heightsC p x = ([], 52, (i : Int))) := Lib.hid (by
                            rw [HR2.out]
                            refine flow_err (by have := HLJ.out; omega) ?_
                            rw [HLJ.out, GO.out]
                            refine go_err HFO.out (by have := UND.out; omega) ?_
                            rw [HPU.out, HPA.out]
                            exact push_no htl.out HP2.out HSE.out)
                          go_wp2_with fail
                          exact bodyPost_ret (v := .tuple #[.slice none 0 0, .int .i64 52, .int .i64 i]) (by simp [results, Try.results11, go_sem]) rfl (by rw [HRS.out]; exact HtR.bad HB.out 52 i)
                  · obtain rfl : jj = n4w := by omega
                    have HSE : Hid (stepE p x.ins f i = .inl fj) := Lib.hid (by rw [HPU.out, List.drop_of_length_le (by have := HN4.out; omega)]; rfl)
                    have HGS := Lib.hid (good_step HALL.out GD.out (firstE_some HFO.out).1 HSE.out)
                    have K23 := Lib.hid (first_any FJ.out.lo (FJ.out.rd (by omega)))
                    clear HPU hjl
                    go_wp2_with ((with_reducible refine K23.out.mono ?_); rintro e w7 ⟨rfl, rfl⟩)
                    go_roundg (gk - 1)
                    case measure => have := UND.out; omega
                    case rel => exact ⟨fj, psj, q + 1, rfl, FJ.out, HGS.out.1, by have := KQ.out; have := UND.out; omega, by have := HGS.out.2.1; have := UND.out; omega, by rw [GO.out, go_on HFO.out (by have := UND.out; omega) HSE.out], HGS.out.2.2 _ _ KN0.out⟩
end Go.Proofs.Ytgnejkmojfhfpaa
