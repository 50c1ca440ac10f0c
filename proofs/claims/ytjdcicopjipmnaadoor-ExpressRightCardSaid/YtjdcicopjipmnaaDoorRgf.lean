/- The document's Right: node, by Op. The document's Right: node of a lambda, of a module. The document's Right: node and texts of any right node. The document's Right: how often each node is a kid.. -/
import Derived.Test.YtjdcicopjipmnaaDoorRge
import Derived.Test.YtjdcicopjipmnaaDoorRgb
namespace Go.Proofs.YtjdcicopjipmnaaDoor
open Go.RowKit
set_option linter.unusedVariables false
set_option linter.unusedSimpArgs false
theorem opsOf_len (T : List NodeD) (kids : List Int) : (opsOf T kids).length = kids.length := by simp [opsOf]
set_option maxRecDepth 100000 in
set_option maxHeartbeats 4000000 in
theorem node_1 {w : World} {A : Option Addr} {n c i : Nat} {T : List NodeD} {a nn : Int} {s : ByteArray} {kids : List Int} (h : RdT w A n c T) (hi : T[i]? = some ⟨1, a, s, nn, kids⟩) (hk : ∀ k ∈ kids, 0 ≤ k ∧ k < (i : Int)) (hx : ∀ x ∈ opsOf T kids, 1 ≤ x ∧ x ≤ 21) (hc : kids.length = 0) : Calls Tryd.prog 41 #[.slice A n c, .int .i64 i] w fun e w' => e = .returned (.bool true) ∧ Below w.heap.size w w' := by
  have H := Lib.hid h
  have HI := Lib.hid hi
  have HK := Lib.hid hk
  have hl : kids.length ≤ 4398046511103 := by omega
  have HL := Lib.hid hl
  have HX := Lib.hid hx
  have hbig : n ≤ 9223372036854775807 := h.le
  have hin : i < n := by have := (List.getElem?_eq_some_iff.1 hi).1; have := h.len; omega
  obtain ⟨b, o, K, d, rfl, hb, p0, p1, p2, p3, p4, -⟩ := h.nth hi
  simp only at p0 p1 p2 p3 p4
  rw [hc] at p4
  have hol : (opsOf T kids).length = 0 := (opsOf_len T kids).trans hc
  have HOL := Lib.hid hol
  clear h hi hk hx hc hl hol
  go_enter Tryd.func41, Tryd.ntmps41
  go_upto_region 4 with (go_at_call 61; go_must (refine (ops_any (H.out.stay (StayC.bel (by exact (by repeat (first | exact Below.refl _ _ | assumption | refine Below.setCell ?_ (by first | (simp; done) | (simp; omega) | omega) _ | refine below_drewN ?_ _ | refine Below.drew ?_ | refine Below.alloc ?_ (by first | (simp; done) | (simp; omega) | omega) _))))) HI.out HK.out HL.out).mono ?_); rintro e w2 ⟨v, rfl, hn⟩; have HG := Lib.hid ((Blk.at_new (w := w) (t := 51) (cs := #[.int .i64 1, .int .i64 a, .string s, .int .i64 nn, .slice K 0 d]) rfl).bel hn.bel); obtain ⟨A6, c6, e6, hr6, -⟩ := Own.rd hn.own; rw [HOL.out] at e6 hr6; subst e6; have HRR := Lib.hid hr6; have HB : Hid (Below w.heap.size w w2) := Lib.hid (Below.trans (show Below w.heap.size w _ from (by repeat (first | exact Below.refl _ _ | assumption | refine Below.setCell ?_ (by first | (simp; done) | (simp; omega) | omega) _ | refine below_drewN ?_ _ | refine Below.drew ?_ | refine Below.alloc ?_ (by first | (simp; done) | (simp; omega) | omega) _))) (below_low hn.bel (by simp))); clear hn)
  have hg := HG.out
  have g0 := hg.cell 0
  have g4 := hg.cell 4
  have gl := hg.lt
  simp only [List.getElem?_toArray, List.getElem?_cons_zero, List.getElem?_cons_succ] at g0 g4
  clear hg p0 p1 p2 p3 p4
  go_wp2_with fail
  go_ret
  exact ⟨rfl, by have := HB.out; have hs := this.size; exact (by repeat (first | exact Below.refl _ _ | assumption | refine Below.setCell ?_ (by first | (simp; done) | (simp; omega) | omega) _ | refine below_drewN ?_ _ | refine Below.drew ?_ | refine Below.alloc ?_ (by first | (simp; done) | (simp; omega) | omega) _))⟩
set_option maxRecDepth 100000 in
set_option maxHeartbeats 4000000 in
theorem node_2 {w : World} {A : Option Addr} {n c i : Nat} {T : List NodeD} {a nn : Int} {s : ByteArray} {kids : List Int} (h : RdT w A n c T) (hi : T[i]? = some ⟨2, a, s, nn, kids⟩) (hk : ∀ k ∈ kids, 0 ≤ k ∧ k < (i : Int)) (hx : ∀ x ∈ opsOf T kids, 1 ≤ x ∧ x ≤ 21) (hc : kids.length = 0) : Calls Tryd.prog 41 #[.slice A n c, .int .i64 i] w fun e w' => e = .returned (.bool true) ∧ Below w.heap.size w w' := by
  have H := Lib.hid h
  have HI := Lib.hid hi
  have HK := Lib.hid hk
  have hl : kids.length ≤ 4398046511103 := by omega
  have HL := Lib.hid hl
  have HX := Lib.hid hx
  have hbig : n ≤ 9223372036854775807 := h.le
  have hin : i < n := by have := (List.getElem?_eq_some_iff.1 hi).1; have := h.len; omega
  obtain ⟨b, o, K, d, rfl, hb, p0, p1, p2, p3, p4, -⟩ := h.nth hi
  simp only at p0 p1 p2 p3 p4
  rw [hc] at p4
  have hol : (opsOf T kids).length = 0 := (opsOf_len T kids).trans hc
  have HOL := Lib.hid hol
  clear h hi hk hx hc hl hol
  go_enter Tryd.func41, Tryd.ntmps41
  go_upto_region 4 with (go_at_call 61; go_must (refine (ops_any (H.out.stay (StayC.bel (by exact (by repeat (first | exact Below.refl _ _ | assumption | refine Below.setCell ?_ (by first | (simp; done) | (simp; omega) | omega) _ | refine below_drewN ?_ _ | refine Below.drew ?_ | refine Below.alloc ?_ (by first | (simp; done) | (simp; omega) | omega) _))))) HI.out HK.out HL.out).mono ?_); rintro e w2 ⟨v, rfl, hn⟩; have HG := Lib.hid ((Blk.at_new (w := w) (t := 51) (cs := #[.int .i64 2, .int .i64 a, .string s, .int .i64 nn, .slice K 0 d]) rfl).bel hn.bel); obtain ⟨A6, c6, e6, hr6, -⟩ := Own.rd hn.own; rw [HOL.out] at e6 hr6; subst e6; have HRR := Lib.hid hr6; have HB : Hid (Below w.heap.size w w2) := Lib.hid (Below.trans (show Below w.heap.size w _ from (by repeat (first | exact Below.refl _ _ | assumption | refine Below.setCell ?_ (by first | (simp; done) | (simp; omega) | omega) _ | refine below_drewN ?_ _ | refine Below.drew ?_ | refine Below.alloc ?_ (by first | (simp; done) | (simp; omega) | omega) _))) (below_low hn.bel (by simp))); clear hn)
  have hg := HG.out
  have g0 := hg.cell 0
  have g4 := hg.cell 4
  have gl := hg.lt
  simp only [List.getElem?_toArray, List.getElem?_cons_zero, List.getElem?_cons_succ] at g0 g4
  clear hg p0 p1 p2 p3 p4
  go_wp2_with fail
  go_ret
  exact ⟨rfl, by have := HB.out; have hs := this.size; exact (by repeat (first | exact Below.refl _ _ | assumption | refine Below.setCell ?_ (by first | (simp; done) | (simp; omega) | omega) _ | refine below_drewN ?_ _ | refine Below.drew ?_ | refine Below.alloc ?_ (by first | (simp; done) | (simp; omega) | omega) _))⟩
set_option maxRecDepth 100000 in
set_option maxHeartbeats 4000000 in
theorem node_3 {w : World} {A : Option Addr} {n c i : Nat} {T : List NodeD} {a nn : Int} {s : ByteArray} {kids : List Int} (h : RdT w A n c T) (hi : T[i]? = some ⟨3, a, s, nn, kids⟩) (hk : ∀ k ∈ kids, 0 ≤ k ∧ k < (i : Int)) (hx : ∀ x ∈ opsOf T kids, 1 ≤ x ∧ x ≤ 21) (hc : kids.length = 0) : Calls Tryd.prog 41 #[.slice A n c, .int .i64 i] w fun e w' => e = .returned (.bool true) ∧ Below w.heap.size w w' := by
  have H := Lib.hid h
  have HI := Lib.hid hi
  have HK := Lib.hid hk
  have hl : kids.length ≤ 4398046511103 := by omega
  have HL := Lib.hid hl
  have HX := Lib.hid hx
  have hbig : n ≤ 9223372036854775807 := h.le
  have hin : i < n := by have := (List.getElem?_eq_some_iff.1 hi).1; have := h.len; omega
  obtain ⟨b, o, K, d, rfl, hb, p0, p1, p2, p3, p4, -⟩ := h.nth hi
  simp only at p0 p1 p2 p3 p4
  rw [hc] at p4
  have hol : (opsOf T kids).length = 0 := (opsOf_len T kids).trans hc
  have HOL := Lib.hid hol
  clear h hi hk hx hc hl hol
  go_enter Tryd.func41, Tryd.ntmps41
  go_upto_region 4 with (go_at_call 61; go_must (refine (ops_any (H.out.stay (StayC.bel (by exact (by repeat (first | exact Below.refl _ _ | assumption | refine Below.setCell ?_ (by first | (simp; done) | (simp; omega) | omega) _ | refine below_drewN ?_ _ | refine Below.drew ?_ | refine Below.alloc ?_ (by first | (simp; done) | (simp; omega) | omega) _))))) HI.out HK.out HL.out).mono ?_); rintro e w2 ⟨v, rfl, hn⟩; have HG := Lib.hid ((Blk.at_new (w := w) (t := 51) (cs := #[.int .i64 3, .int .i64 a, .string s, .int .i64 nn, .slice K 0 d]) rfl).bel hn.bel); obtain ⟨A6, c6, e6, hr6, -⟩ := Own.rd hn.own; rw [HOL.out] at e6 hr6; subst e6; have HRR := Lib.hid hr6; have HB : Hid (Below w.heap.size w w2) := Lib.hid (Below.trans (show Below w.heap.size w _ from (by repeat (first | exact Below.refl _ _ | assumption | refine Below.setCell ?_ (by first | (simp; done) | (simp; omega) | omega) _ | refine below_drewN ?_ _ | refine Below.drew ?_ | refine Below.alloc ?_ (by first | (simp; done) | (simp; omega) | omega) _))) (below_low hn.bel (by simp))); clear hn)
  have hg := HG.out
  have g0 := hg.cell 0
  have g4 := hg.cell 4
  have gl := hg.lt
  simp only [List.getElem?_toArray, List.getElem?_cons_zero, List.getElem?_cons_succ] at g0 g4
  clear hg p0 p1 p2 p3 p4
  go_wp2_with fail
  go_ret
  exact ⟨rfl, by have := HB.out; have hs := this.size; exact (by repeat (first | exact Below.refl _ _ | assumption | refine Below.setCell ?_ (by first | (simp; done) | (simp; omega) | omega) _ | refine below_drewN ?_ _ | refine Below.drew ?_ | refine Below.alloc ?_ (by first | (simp; done) | (simp; omega) | omega) _))⟩
set_option maxRecDepth 100000 in
set_option maxHeartbeats 4000000 in
theorem node_4 {w : World} {A : Option Addr} {n c i : Nat} {T : List NodeD} {a nn : Int} {s : ByteArray} {kids : List Int} (h : RdT w A n c T) (hi : T[i]? = some ⟨4, a, s, nn, kids⟩) (hk : ∀ k ∈ kids, 0 ≤ k ∧ k < (i : Int)) (hx : ∀ x ∈ opsOf T kids, 1 ≤ x ∧ x ≤ 21) (hc : kids.length = 0) : Calls Tryd.prog 41 #[.slice A n c, .int .i64 i] w fun e w' => e = .returned (.bool true) ∧ Below w.heap.size w w' := by
  have H := Lib.hid h
  have HI := Lib.hid hi
  have HK := Lib.hid hk
  have hl : kids.length ≤ 4398046511103 := by omega
  have HL := Lib.hid hl
  have HX := Lib.hid hx
  have hbig : n ≤ 9223372036854775807 := h.le
  have hin : i < n := by have := (List.getElem?_eq_some_iff.1 hi).1; have := h.len; omega
  obtain ⟨b, o, K, d, rfl, hb, p0, p1, p2, p3, p4, -⟩ := h.nth hi
  simp only at p0 p1 p2 p3 p4
  rw [hc] at p4
  have hol : (opsOf T kids).length = 0 := (opsOf_len T kids).trans hc
  have HOL := Lib.hid hol
  clear h hi hk hx hc hl hol
  go_enter Tryd.func41, Tryd.ntmps41
  go_upto_region 4 with (go_at_call 61; go_must (refine (ops_any (H.out.stay (StayC.bel (by exact (by repeat (first | exact Below.refl _ _ | assumption | refine Below.setCell ?_ (by first | (simp; done) | (simp; omega) | omega) _ | refine below_drewN ?_ _ | refine Below.drew ?_ | refine Below.alloc ?_ (by first | (simp; done) | (simp; omega) | omega) _))))) HI.out HK.out HL.out).mono ?_); rintro e w2 ⟨v, rfl, hn⟩; have HG := Lib.hid ((Blk.at_new (w := w) (t := 51) (cs := #[.int .i64 4, .int .i64 a, .string s, .int .i64 nn, .slice K 0 d]) rfl).bel hn.bel); obtain ⟨A6, c6, e6, hr6, -⟩ := Own.rd hn.own; rw [HOL.out] at e6 hr6; subst e6; have HRR := Lib.hid hr6; have HB : Hid (Below w.heap.size w w2) := Lib.hid (Below.trans (show Below w.heap.size w _ from (by repeat (first | exact Below.refl _ _ | assumption | refine Below.setCell ?_ (by first | (simp; done) | (simp; omega) | omega) _ | refine below_drewN ?_ _ | refine Below.drew ?_ | refine Below.alloc ?_ (by first | (simp; done) | (simp; omega) | omega) _))) (below_low hn.bel (by simp))); clear hn)
  have hg := HG.out
  have g0 := hg.cell 0
  have g4 := hg.cell 4
  have gl := hg.lt
  simp only [List.getElem?_toArray, List.getElem?_cons_zero, List.getElem?_cons_succ] at g0 g4
  clear hg p0 p1 p2 p3 p4
  go_wp2_with fail
  go_ret
  exact ⟨rfl, by have := HB.out; have hs := this.size; exact (by repeat (first | exact Below.refl _ _ | assumption | refine Below.setCell ?_ (by first | (simp; done) | (simp; omega) | omega) _ | refine below_drewN ?_ _ | refine Below.drew ?_ | refine Below.alloc ?_ (by first | (simp; done) | (simp; omega) | omega) _))⟩
set_option maxRecDepth 100000 in
set_option maxHeartbeats 4000000 in
theorem node_5 {w : World} {A : Option Addr} {n c i : Nat} {T : List NodeD} {a nn : Int} {s : ByteArray} {kids : List Int} (h : RdT w A n c T) (hi : T[i]? = some ⟨5, a, s, nn, kids⟩) (hk : ∀ k ∈ kids, 0 ≤ k ∧ k < (i : Int)) (hx : ∀ x ∈ opsOf T kids, 1 ≤ x ∧ x ≤ 21) (hc : kids.length = 0) : Calls Tryd.prog 41 #[.slice A n c, .int .i64 i] w fun e w' => e = .returned (.bool true) ∧ Below w.heap.size w w' := by
  have H := Lib.hid h
  have HI := Lib.hid hi
  have HK := Lib.hid hk
  have hl : kids.length ≤ 4398046511103 := by omega
  have HL := Lib.hid hl
  have HX := Lib.hid hx
  have hbig : n ≤ 9223372036854775807 := h.le
  have hin : i < n := by have := (List.getElem?_eq_some_iff.1 hi).1; have := h.len; omega
  obtain ⟨b, o, K, d, rfl, hb, p0, p1, p2, p3, p4, -⟩ := h.nth hi
  simp only at p0 p1 p2 p3 p4
  rw [hc] at p4
  have hol : (opsOf T kids).length = 0 := (opsOf_len T kids).trans hc
  have HOL := Lib.hid hol
  clear h hi hk hx hc hl hol
  go_enter Tryd.func41, Tryd.ntmps41
  go_upto_region 4 with (go_at_call 61; go_must (refine (ops_any (H.out.stay (StayC.bel (by exact (by repeat (first | exact Below.refl _ _ | assumption | refine Below.setCell ?_ (by first | (simp; done) | (simp; omega) | omega) _ | refine below_drewN ?_ _ | refine Below.drew ?_ | refine Below.alloc ?_ (by first | (simp; done) | (simp; omega) | omega) _))))) HI.out HK.out HL.out).mono ?_); rintro e w2 ⟨v, rfl, hn⟩; have HG := Lib.hid ((Blk.at_new (w := w) (t := 51) (cs := #[.int .i64 5, .int .i64 a, .string s, .int .i64 nn, .slice K 0 d]) rfl).bel hn.bel); obtain ⟨A6, c6, e6, hr6, -⟩ := Own.rd hn.own; rw [HOL.out] at e6 hr6; subst e6; have HRR := Lib.hid hr6; have HB : Hid (Below w.heap.size w w2) := Lib.hid (Below.trans (show Below w.heap.size w _ from (by repeat (first | exact Below.refl _ _ | assumption | refine Below.setCell ?_ (by first | (simp; done) | (simp; omega) | omega) _ | refine below_drewN ?_ _ | refine Below.drew ?_ | refine Below.alloc ?_ (by first | (simp; done) | (simp; omega) | omega) _))) (below_low hn.bel (by simp))); clear hn)
  have hg := HG.out
  have g0 := hg.cell 0
  have g4 := hg.cell 4
  have gl := hg.lt
  simp only [List.getElem?_toArray, List.getElem?_cons_zero, List.getElem?_cons_succ] at g0 g4
  clear hg p0 p1 p2 p3 p4
  go_wp2_with fail
  go_ret
  exact ⟨rfl, by have := HB.out; have hs := this.size; exact (by repeat (first | exact Below.refl _ _ | assumption | refine Below.setCell ?_ (by first | (simp; done) | (simp; omega) | omega) _ | refine below_drewN ?_ _ | refine Below.drew ?_ | refine Below.alloc ?_ (by first | (simp; done) | (simp; omega) | omega) _))⟩
set_option maxRecDepth 100000 in
set_option maxHeartbeats 4000000 in
theorem node_6 {w : World} {A : Option Addr} {n c i : Nat} {T : List NodeD} {a nn : Int} {s : ByteArray} {kids : List Int} (h : RdT w A n c T) (hi : T[i]? = some ⟨6, a, s, nn, kids⟩) (hk : ∀ k ∈ kids, 0 ≤ k ∧ k < (i : Int)) (hx : ∀ x ∈ opsOf T kids, 1 ≤ x ∧ x ≤ 21) (hc : kids.length = 0) : Calls Tryd.prog 41 #[.slice A n c, .int .i64 i] w fun e w' => e = .returned (.bool true) ∧ Below w.heap.size w w' := by
  have H := Lib.hid h
  have HI := Lib.hid hi
  have HK := Lib.hid hk
  have hl : kids.length ≤ 4398046511103 := by omega
  have HL := Lib.hid hl
  have HX := Lib.hid hx
  have hbig : n ≤ 9223372036854775807 := h.le
  have hin : i < n := by have := (List.getElem?_eq_some_iff.1 hi).1; have := h.len; omega
  obtain ⟨b, o, K, d, rfl, hb, p0, p1, p2, p3, p4, -⟩ := h.nth hi
  simp only at p0 p1 p2 p3 p4
  rw [hc] at p4
  have hol : (opsOf T kids).length = 0 := (opsOf_len T kids).trans hc
  have HOL := Lib.hid hol
  clear h hi hk hx hc hl hol
  go_enter Tryd.func41, Tryd.ntmps41
  go_upto_region 4 with (go_at_call 61; go_must (refine (ops_any (H.out.stay (StayC.bel (by exact (by repeat (first | exact Below.refl _ _ | assumption | refine Below.setCell ?_ (by first | (simp; done) | (simp; omega) | omega) _ | refine below_drewN ?_ _ | refine Below.drew ?_ | refine Below.alloc ?_ (by first | (simp; done) | (simp; omega) | omega) _))))) HI.out HK.out HL.out).mono ?_); rintro e w2 ⟨v, rfl, hn⟩; have HG := Lib.hid ((Blk.at_new (w := w) (t := 51) (cs := #[.int .i64 6, .int .i64 a, .string s, .int .i64 nn, .slice K 0 d]) rfl).bel hn.bel); obtain ⟨A6, c6, e6, hr6, -⟩ := Own.rd hn.own; rw [HOL.out] at e6 hr6; subst e6; have HRR := Lib.hid hr6; have HB : Hid (Below w.heap.size w w2) := Lib.hid (Below.trans (show Below w.heap.size w _ from (by repeat (first | exact Below.refl _ _ | assumption | refine Below.setCell ?_ (by first | (simp; done) | (simp; omega) | omega) _ | refine below_drewN ?_ _ | refine Below.drew ?_ | refine Below.alloc ?_ (by first | (simp; done) | (simp; omega) | omega) _))) (below_low hn.bel (by simp))); clear hn)
  have hg := HG.out
  have g0 := hg.cell 0
  have g4 := hg.cell 4
  have gl := hg.lt
  simp only [List.getElem?_toArray, List.getElem?_cons_zero, List.getElem?_cons_succ] at g0 g4
  clear hg p0 p1 p2 p3 p4
  go_wp2_with fail
  go_ret
  exact ⟨rfl, by have := HB.out; have hs := this.size; exact (by repeat (first | exact Below.refl _ _ | assumption | refine Below.setCell ?_ (by first | (simp; done) | (simp; omega) | omega) _ | refine below_drewN ?_ _ | refine Below.drew ?_ | refine Below.alloc ?_ (by first | (simp; done) | (simp; omega) | omega) _))⟩
set_option maxRecDepth 100000 in
set_option maxHeartbeats 4000000 in
theorem node_10 {w : World} {A : Option Addr} {n c i : Nat} {T : List NodeD} {a nn : Int} {s : ByteArray} {kids : List Int} (h : RdT w A n c T) (hi : T[i]? = some ⟨10, a, s, nn, kids⟩) (hk : ∀ k ∈ kids, 0 ≤ k ∧ k < (i : Int)) (hx : ∀ x ∈ opsOf T kids, 1 ≤ x ∧ x ≤ 21) (hc : kids.length = 1) : Calls Tryd.prog 41 #[.slice A n c, .int .i64 i] w fun e w' => e = .returned (.bool true) ∧ Below w.heap.size w w' := by
  have H := Lib.hid h
  have HI := Lib.hid hi
  have HK := Lib.hid hk
  have hl : kids.length ≤ 4398046511103 := by omega
  have HL := Lib.hid hl
  have HX := Lib.hid hx
  have hbig : n ≤ 9223372036854775807 := h.le
  have hin : i < n := by have := (List.getElem?_eq_some_iff.1 hi).1; have := h.len; omega
  obtain ⟨b, o, K, d, rfl, hb, p0, p1, p2, p3, p4, -⟩ := h.nth hi
  simp only at p0 p1 p2 p3 p4
  rw [hc] at p4
  have hol : (opsOf T kids).length = 1 := (opsOf_len T kids).trans hc
  have HOL := Lib.hid hol
  clear h hi hk hx hc hl hol
  go_enter Tryd.func41, Tryd.ntmps41
  go_upto_region 4 with (go_at_call 61; go_must (refine (ops_any (H.out.stay (StayC.bel (by exact (by repeat (first | exact Below.refl _ _ | assumption | refine Below.setCell ?_ (by first | (simp; done) | (simp; omega) | omega) _ | refine below_drewN ?_ _ | refine Below.drew ?_ | refine Below.alloc ?_ (by first | (simp; done) | (simp; omega) | omega) _))))) HI.out HK.out HL.out).mono ?_); rintro e w2 ⟨v, rfl, hn⟩; have HG := Lib.hid ((Blk.at_new (w := w) (t := 51) (cs := #[.int .i64 10, .int .i64 a, .string s, .int .i64 nn, .slice K 1 d]) rfl).bel hn.bel); obtain ⟨A6, c6, e6, hr6, -⟩ := Own.rd hn.own; rw [HOL.out] at e6 hr6; subst e6; have HRR := Lib.hid hr6; have HB : Hid (Below w.heap.size w w2) := Lib.hid (Below.trans (show Below w.heap.size w _ from (by repeat (first | exact Below.refl _ _ | assumption | refine Below.setCell ?_ (by first | (simp; done) | (simp; omega) | omega) _ | refine below_drewN ?_ _ | refine Below.drew ?_ | refine Below.alloc ?_ (by first | (simp; done) | (simp; omega) | omega) _))) (below_low hn.bel (by simp))); clear hn)
  have hg := HG.out
  have g0 := hg.cell 0
  have g4 := hg.cell 4
  have gl := hg.lt
  simp only [List.getElem?_toArray, List.getElem?_cons_zero, List.getElem?_cons_succ] at g0 g4
  clear hg p0 p1 p2 p3 p4
  obtain ⟨z, hzz⟩ : ∃ z, (opsOf T kids)[0]? = some z := ⟨_, List.getElem?_eq_getElem (by have := HOL.out; omega)⟩
  obtain ⟨b6, o6, rfl, hb6, q0⟩ := HRR.out.kid hzz (by omega)
  have HZ := Lib.hid hzz
  clear hzz
  try simp only [Nat.add_zero] at q0
  go_wp2_with (go_at_call 62; go_must (refine (exprs_any (HRR.out.bel (by exact (by repeat (first | exact Below.refl _ _ | assumption | refine Below.setCell ?_ (by first | (simp; done) | (simp; omega) | omega) _ | refine below_drewN ?_ _ | refine Below.drew ?_ | refine Below.alloc ?_ (by first | (simp; done) | (simp; omega) | omega) _)))) HOL.out HX.out).mono ?_); rintro e w3 ⟨rfl, rfl⟩)
  go_ret
  exact ⟨rfl, by have := HB.out; have hs := this.size; exact (by repeat (first | exact Below.refl _ _ | assumption | refine Below.setCell ?_ (by first | (simp; done) | (simp; omega) | omega) _ | refine below_drewN ?_ _ | refine Below.drew ?_ | refine Below.alloc ?_ (by first | (simp; done) | (simp; omega) | omega) _))⟩
set_option maxRecDepth 100000 in
set_option maxHeartbeats 4000000 in
theorem node_11 {w : World} {A : Option Addr} {n c i : Nat} {T : List NodeD} {a nn : Int} {s : ByteArray} {kids : List Int} (h : RdT w A n c T) (hi : T[i]? = some ⟨11, a, s, nn, kids⟩) (hk : ∀ k ∈ kids, 0 ≤ k ∧ k < (i : Int)) (hx : ∀ x ∈ opsOf T kids, 1 ≤ x ∧ x ≤ 21) (hc : kids.length = 1) : Calls Tryd.prog 41 #[.slice A n c, .int .i64 i] w fun e w' => e = .returned (.bool true) ∧ Below w.heap.size w w' := by
  have H := Lib.hid h
  have HI := Lib.hid hi
  have HK := Lib.hid hk
  have hl : kids.length ≤ 4398046511103 := by omega
  have HL := Lib.hid hl
  have HX := Lib.hid hx
  have hbig : n ≤ 9223372036854775807 := h.le
  have hin : i < n := by have := (List.getElem?_eq_some_iff.1 hi).1; have := h.len; omega
  obtain ⟨b, o, K, d, rfl, hb, p0, p1, p2, p3, p4, -⟩ := h.nth hi
  simp only at p0 p1 p2 p3 p4
  rw [hc] at p4
  have hol : (opsOf T kids).length = 1 := (opsOf_len T kids).trans hc
  have HOL := Lib.hid hol
  clear h hi hk hx hc hl hol
  go_enter Tryd.func41, Tryd.ntmps41
  go_upto_region 4 with (go_at_call 61; go_must (refine (ops_any (H.out.stay (StayC.bel (by exact (by repeat (first | exact Below.refl _ _ | assumption | refine Below.setCell ?_ (by first | (simp; done) | (simp; omega) | omega) _ | refine below_drewN ?_ _ | refine Below.drew ?_ | refine Below.alloc ?_ (by first | (simp; done) | (simp; omega) | omega) _))))) HI.out HK.out HL.out).mono ?_); rintro e w2 ⟨v, rfl, hn⟩; have HG := Lib.hid ((Blk.at_new (w := w) (t := 51) (cs := #[.int .i64 11, .int .i64 a, .string s, .int .i64 nn, .slice K 1 d]) rfl).bel hn.bel); obtain ⟨A6, c6, e6, hr6, -⟩ := Own.rd hn.own; rw [HOL.out] at e6 hr6; subst e6; have HRR := Lib.hid hr6; have HB : Hid (Below w.heap.size w w2) := Lib.hid (Below.trans (show Below w.heap.size w _ from (by repeat (first | exact Below.refl _ _ | assumption | refine Below.setCell ?_ (by first | (simp; done) | (simp; omega) | omega) _ | refine below_drewN ?_ _ | refine Below.drew ?_ | refine Below.alloc ?_ (by first | (simp; done) | (simp; omega) | omega) _))) (below_low hn.bel (by simp))); clear hn)
  have hg := HG.out
  have g0 := hg.cell 0
  have g4 := hg.cell 4
  have gl := hg.lt
  simp only [List.getElem?_toArray, List.getElem?_cons_zero, List.getElem?_cons_succ] at g0 g4
  clear hg p0 p1 p2 p3 p4
  obtain ⟨z, hzz⟩ : ∃ z, (opsOf T kids)[0]? = some z := ⟨_, List.getElem?_eq_getElem (by have := HOL.out; omega)⟩
  obtain ⟨b6, o6, rfl, hb6, q0⟩ := HRR.out.kid hzz (by omega)
  have HZ := Lib.hid hzz
  clear hzz
  try simp only [Nat.add_zero] at q0
  go_wp2_with (go_at_call 62; go_must (refine (exprs_any (HRR.out.bel (by exact (by repeat (first | exact Below.refl _ _ | assumption | refine Below.setCell ?_ (by first | (simp; done) | (simp; omega) | omega) _ | refine below_drewN ?_ _ | refine Below.drew ?_ | refine Below.alloc ?_ (by first | (simp; done) | (simp; omega) | omega) _)))) HOL.out HX.out).mono ?_); rintro e w3 ⟨rfl, rfl⟩)
  go_ret
  exact ⟨rfl, by have := HB.out; have hs := this.size; exact (by repeat (first | exact Below.refl _ _ | assumption | refine Below.setCell ?_ (by first | (simp; done) | (simp; omega) | omega) _ | refine below_drewN ?_ _ | refine Below.drew ?_ | refine Below.alloc ?_ (by first | (simp; done) | (simp; omega) | omega) _))⟩
set_option maxRecDepth 100000 in
set_option maxHeartbeats 4000000 in
theorem node_18 {w : World} {A : Option Addr} {n c i : Nat} {T : List NodeD} {a nn : Int} {s : ByteArray} {kids : List Int} (h : RdT w A n c T) (hi : T[i]? = some ⟨18, a, s, nn, kids⟩) (hk : ∀ k ∈ kids, 0 ≤ k ∧ k < (i : Int)) (hx : ∀ x ∈ opsOf T kids, 1 ≤ x ∧ x ≤ 21) (hc : kids.length = 1) : Calls Tryd.prog 41 #[.slice A n c, .int .i64 i] w fun e w' => e = .returned (.bool true) ∧ Below w.heap.size w w' := by
  have H := Lib.hid h
  have HI := Lib.hid hi
  have HK := Lib.hid hk
  have hl : kids.length ≤ 4398046511103 := by omega
  have HL := Lib.hid hl
  have HX := Lib.hid hx
  have hbig : n ≤ 9223372036854775807 := h.le
  have hin : i < n := by have := (List.getElem?_eq_some_iff.1 hi).1; have := h.len; omega
  obtain ⟨b, o, K, d, rfl, hb, p0, p1, p2, p3, p4, -⟩ := h.nth hi
  simp only at p0 p1 p2 p3 p4
  rw [hc] at p4
  have hol : (opsOf T kids).length = 1 := (opsOf_len T kids).trans hc
  have HOL := Lib.hid hol
  clear h hi hk hx hc hl hol
  go_enter Tryd.func41, Tryd.ntmps41
  go_upto_region 4 with (go_at_call 61; go_must (refine (ops_any (H.out.stay (StayC.bel (by exact (by repeat (first | exact Below.refl _ _ | assumption | refine Below.setCell ?_ (by first | (simp; done) | (simp; omega) | omega) _ | refine below_drewN ?_ _ | refine Below.drew ?_ | refine Below.alloc ?_ (by first | (simp; done) | (simp; omega) | omega) _))))) HI.out HK.out HL.out).mono ?_); rintro e w2 ⟨v, rfl, hn⟩; have HG := Lib.hid ((Blk.at_new (w := w) (t := 51) (cs := #[.int .i64 18, .int .i64 a, .string s, .int .i64 nn, .slice K 1 d]) rfl).bel hn.bel); obtain ⟨A6, c6, e6, hr6, -⟩ := Own.rd hn.own; rw [HOL.out] at e6 hr6; subst e6; have HRR := Lib.hid hr6; have HB : Hid (Below w.heap.size w w2) := Lib.hid (Below.trans (show Below w.heap.size w _ from (by repeat (first | exact Below.refl _ _ | assumption | refine Below.setCell ?_ (by first | (simp; done) | (simp; omega) | omega) _ | refine below_drewN ?_ _ | refine Below.drew ?_ | refine Below.alloc ?_ (by first | (simp; done) | (simp; omega) | omega) _))) (below_low hn.bel (by simp))); clear hn)
  have hg := HG.out
  have g0 := hg.cell 0
  have g4 := hg.cell 4
  have gl := hg.lt
  simp only [List.getElem?_toArray, List.getElem?_cons_zero, List.getElem?_cons_succ] at g0 g4
  clear hg p0 p1 p2 p3 p4
  obtain ⟨z, hzz⟩ : ∃ z, (opsOf T kids)[0]? = some z := ⟨_, List.getElem?_eq_getElem (by have := HOL.out; omega)⟩
  obtain ⟨b6, o6, rfl, hb6, q0⟩ := HRR.out.kid hzz (by omega)
  have HZ := Lib.hid hzz
  clear hzz
  try simp only [Nat.add_zero] at q0
  go_wp2_with (go_at_call 62; go_must (refine (exprs_any (HRR.out.bel (by exact (by repeat (first | exact Below.refl _ _ | assumption | refine Below.setCell ?_ (by first | (simp; done) | (simp; omega) | omega) _ | refine below_drewN ?_ _ | refine Below.drew ?_ | refine Below.alloc ?_ (by first | (simp; done) | (simp; omega) | omega) _)))) HOL.out HX.out).mono ?_); rintro e w3 ⟨rfl, rfl⟩)
  go_ret
  exact ⟨rfl, by have := HB.out; have hs := this.size; exact (by repeat (first | exact Below.refl _ _ | assumption | refine Below.setCell ?_ (by first | (simp; done) | (simp; omega) | omega) _ | refine below_drewN ?_ _ | refine Below.drew ?_ | refine Below.alloc ?_ (by first | (simp; done) | (simp; omega) | omega) _))⟩
set_option maxRecDepth 100000 in
set_option maxHeartbeats 4000000 in
theorem node_42 {w : World} {A : Option Addr} {n c i : Nat} {T : List NodeD} {a nn : Int} {s : ByteArray} {kids : List Int} (h : RdT w A n c T) (hi : T[i]? = some ⟨42, a, s, nn, kids⟩) (hk : ∀ k ∈ kids, 0 ≤ k ∧ k < (i : Int)) (hx : ∀ x ∈ opsOf T kids, 1 ≤ x ∧ x ≤ 21) (hc : kids.length = 1) : Calls Tryd.prog 41 #[.slice A n c, .int .i64 i] w fun e w' => e = .returned (.bool true) ∧ Below w.heap.size w w' := by
  have H := Lib.hid h
  have HI := Lib.hid hi
  have HK := Lib.hid hk
  have hl : kids.length ≤ 4398046511103 := by omega
  have HL := Lib.hid hl
  have HX := Lib.hid hx
  have hbig : n ≤ 9223372036854775807 := h.le
  have hin : i < n := by have := (List.getElem?_eq_some_iff.1 hi).1; have := h.len; omega
  obtain ⟨b, o, K, d, rfl, hb, p0, p1, p2, p3, p4, -⟩ := h.nth hi
  simp only at p0 p1 p2 p3 p4
  rw [hc] at p4
  have hol : (opsOf T kids).length = 1 := (opsOf_len T kids).trans hc
  have HOL := Lib.hid hol
  clear h hi hk hx hc hl hol
  go_enter Tryd.func41, Tryd.ntmps41
  go_upto_region 4 with (go_at_call 61; go_must (refine (ops_any (H.out.stay (StayC.bel (by exact (by repeat (first | exact Below.refl _ _ | assumption | refine Below.setCell ?_ (by first | (simp; done) | (simp; omega) | omega) _ | refine below_drewN ?_ _ | refine Below.drew ?_ | refine Below.alloc ?_ (by first | (simp; done) | (simp; omega) | omega) _))))) HI.out HK.out HL.out).mono ?_); rintro e w2 ⟨v, rfl, hn⟩; have HG := Lib.hid ((Blk.at_new (w := w) (t := 51) (cs := #[.int .i64 42, .int .i64 a, .string s, .int .i64 nn, .slice K 1 d]) rfl).bel hn.bel); obtain ⟨A6, c6, e6, hr6, -⟩ := Own.rd hn.own; rw [HOL.out] at e6 hr6; subst e6; have HRR := Lib.hid hr6; have HB : Hid (Below w.heap.size w w2) := Lib.hid (Below.trans (show Below w.heap.size w _ from (by repeat (first | exact Below.refl _ _ | assumption | refine Below.setCell ?_ (by first | (simp; done) | (simp; omega) | omega) _ | refine below_drewN ?_ _ | refine Below.drew ?_ | refine Below.alloc ?_ (by first | (simp; done) | (simp; omega) | omega) _))) (below_low hn.bel (by simp))); clear hn)
  have hg := HG.out
  have g0 := hg.cell 0
  have g4 := hg.cell 4
  have gl := hg.lt
  simp only [List.getElem?_toArray, List.getElem?_cons_zero, List.getElem?_cons_succ] at g0 g4
  clear hg p0 p1 p2 p3 p4
  obtain ⟨z, hzz⟩ : ∃ z, (opsOf T kids)[0]? = some z := ⟨_, List.getElem?_eq_getElem (by have := HOL.out; omega)⟩
  obtain ⟨b6, o6, rfl, hb6, q0⟩ := HRR.out.kid hzz (by omega)
  have HZ := Lib.hid hzz
  clear hzz
  try simp only [Nat.add_zero] at q0
  go_wp2_with (go_at_call 62; go_must (refine (exprs_any (HRR.out.bel (by exact (by repeat (first | exact Below.refl _ _ | assumption | refine Below.setCell ?_ (by first | (simp; done) | (simp; omega) | omega) _ | refine below_drewN ?_ _ | refine Below.drew ?_ | refine Below.alloc ?_ (by first | (simp; done) | (simp; omega) | omega) _)))) HOL.out HX.out).mono ?_); rintro e w3 ⟨rfl, rfl⟩)
  go_ret
  exact ⟨rfl, by have := HB.out; have hs := this.size; exact (by repeat (first | exact Below.refl _ _ | assumption | refine Below.setCell ?_ (by first | (simp; done) | (simp; omega) | omega) _ | refine below_drewN ?_ _ | refine Below.drew ?_ | refine Below.alloc ?_ (by first | (simp; done) | (simp; omega) | omega) _))⟩
set_option maxRecDepth 100000 in
set_option maxHeartbeats 4000000 in
theorem node_12 {w : World} {A : Option Addr} {n c i : Nat} {T : List NodeD} {a nn : Int} {s : ByteArray} {kids : List Int} (h : RdT w A n c T) (hi : T[i]? = some ⟨12, a, s, nn, kids⟩) (hk : ∀ k ∈ kids, 0 ≤ k ∧ k < (i : Int)) (hx : ∀ x ∈ opsOf T kids, 1 ≤ x ∧ x ≤ 21) (hc : kids.length = 2) : Calls Tryd.prog 41 #[.slice A n c, .int .i64 i] w fun e w' => e = .returned (.bool true) ∧ Below w.heap.size w w' := by
  have H := Lib.hid h
  have HI := Lib.hid hi
  have HK := Lib.hid hk
  have hl : kids.length ≤ 4398046511103 := by omega
  have HL := Lib.hid hl
  have HX := Lib.hid hx
  have hbig : n ≤ 9223372036854775807 := h.le
  have hin : i < n := by have := (List.getElem?_eq_some_iff.1 hi).1; have := h.len; omega
  obtain ⟨b, o, K, d, rfl, hb, p0, p1, p2, p3, p4, -⟩ := h.nth hi
  simp only at p0 p1 p2 p3 p4
  rw [hc] at p4
  have hol : (opsOf T kids).length = 2 := (opsOf_len T kids).trans hc
  have HOL := Lib.hid hol
  clear h hi hk hx hc hl hol
  go_enter Tryd.func41, Tryd.ntmps41
  go_upto_region 4 with (go_at_call 61; go_must (refine (ops_any (H.out.stay (StayC.bel (by exact (by repeat (first | exact Below.refl _ _ | assumption | refine Below.setCell ?_ (by first | (simp; done) | (simp; omega) | omega) _ | refine below_drewN ?_ _ | refine Below.drew ?_ | refine Below.alloc ?_ (by first | (simp; done) | (simp; omega) | omega) _))))) HI.out HK.out HL.out).mono ?_); rintro e w2 ⟨v, rfl, hn⟩; have HG := Lib.hid ((Blk.at_new (w := w) (t := 51) (cs := #[.int .i64 12, .int .i64 a, .string s, .int .i64 nn, .slice K 2 d]) rfl).bel hn.bel); obtain ⟨A6, c6, e6, hr6, -⟩ := Own.rd hn.own; rw [HOL.out] at e6 hr6; subst e6; have HRR := Lib.hid hr6; have HB : Hid (Below w.heap.size w w2) := Lib.hid (Below.trans (show Below w.heap.size w _ from (by repeat (first | exact Below.refl _ _ | assumption | refine Below.setCell ?_ (by first | (simp; done) | (simp; omega) | omega) _ | refine below_drewN ?_ _ | refine Below.drew ?_ | refine Below.alloc ?_ (by first | (simp; done) | (simp; omega) | omega) _))) (below_low hn.bel (by simp))); clear hn)
  have hg := HG.out
  have g0 := hg.cell 0
  have g4 := hg.cell 4
  have gl := hg.lt
  simp only [List.getElem?_toArray, List.getElem?_cons_zero, List.getElem?_cons_succ] at g0 g4
  clear hg p0 p1 p2 p3 p4
  obtain ⟨z, hzz⟩ : ∃ z, (opsOf T kids)[1]? = some z := ⟨_, List.getElem?_eq_getElem (by have := HOL.out; omega)⟩
  obtain ⟨b6, o6, rfl, hb6, q0⟩ := HRR.out.kid hzz (by omega)
  have HZ := Lib.hid hzz
  clear hzz
  try simp only [Nat.add_zero] at q0
  go_wp2_with (go_at_call 62; go_must (refine (exprs_any (HRR.out.bel (by exact (by repeat (first | exact Below.refl _ _ | assumption | refine Below.setCell ?_ (by first | (simp; done) | (simp; omega) | omega) _ | refine below_drewN ?_ _ | refine Below.drew ?_ | refine Below.alloc ?_ (by first | (simp; done) | (simp; omega) | omega) _)))) HOL.out HX.out).mono ?_); rintro e w3 ⟨rfl, rfl⟩)
  go_ret
  exact ⟨rfl, by have := HB.out; have hs := this.size; exact (by repeat (first | exact Below.refl _ _ | assumption | refine Below.setCell ?_ (by first | (simp; done) | (simp; omega) | omega) _ | refine below_drewN ?_ _ | refine Below.drew ?_ | refine Below.alloc ?_ (by first | (simp; done) | (simp; omega) | omega) _))⟩
set_option maxRecDepth 100000 in
set_option maxHeartbeats 4000000 in
theorem node_13 {w : World} {A : Option Addr} {n c i : Nat} {T : List NodeD} {a nn : Int} {s : ByteArray} {kids : List Int} (h : RdT w A n c T) (hi : T[i]? = some ⟨13, a, s, nn, kids⟩) (hk : ∀ k ∈ kids, 0 ≤ k ∧ k < (i : Int)) (hx : ∀ x ∈ opsOf T kids, 1 ≤ x ∧ x ≤ 21) (hc : kids.length = 2) : Calls Tryd.prog 41 #[.slice A n c, .int .i64 i] w fun e w' => e = .returned (.bool true) ∧ Below w.heap.size w w' := by
  have H := Lib.hid h
  have HI := Lib.hid hi
  have HK := Lib.hid hk
  have hl : kids.length ≤ 4398046511103 := by omega
  have HL := Lib.hid hl
  have HX := Lib.hid hx
  have hbig : n ≤ 9223372036854775807 := h.le
  have hin : i < n := by have := (List.getElem?_eq_some_iff.1 hi).1; have := h.len; omega
  obtain ⟨b, o, K, d, rfl, hb, p0, p1, p2, p3, p4, -⟩ := h.nth hi
  simp only at p0 p1 p2 p3 p4
  rw [hc] at p4
  have hol : (opsOf T kids).length = 2 := (opsOf_len T kids).trans hc
  have HOL := Lib.hid hol
  clear h hi hk hx hc hl hol
  go_enter Tryd.func41, Tryd.ntmps41
  go_upto_region 4 with (go_at_call 61; go_must (refine (ops_any (H.out.stay (StayC.bel (by exact (by repeat (first | exact Below.refl _ _ | assumption | refine Below.setCell ?_ (by first | (simp; done) | (simp; omega) | omega) _ | refine below_drewN ?_ _ | refine Below.drew ?_ | refine Below.alloc ?_ (by first | (simp; done) | (simp; omega) | omega) _))))) HI.out HK.out HL.out).mono ?_); rintro e w2 ⟨v, rfl, hn⟩; have HG := Lib.hid ((Blk.at_new (w := w) (t := 51) (cs := #[.int .i64 13, .int .i64 a, .string s, .int .i64 nn, .slice K 2 d]) rfl).bel hn.bel); obtain ⟨A6, c6, e6, hr6, -⟩ := Own.rd hn.own; rw [HOL.out] at e6 hr6; subst e6; have HRR := Lib.hid hr6; have HB : Hid (Below w.heap.size w w2) := Lib.hid (Below.trans (show Below w.heap.size w _ from (by repeat (first | exact Below.refl _ _ | assumption | refine Below.setCell ?_ (by first | (simp; done) | (simp; omega) | omega) _ | refine below_drewN ?_ _ | refine Below.drew ?_ | refine Below.alloc ?_ (by first | (simp; done) | (simp; omega) | omega) _))) (below_low hn.bel (by simp))); clear hn)
  have hg := HG.out
  have g0 := hg.cell 0
  have g4 := hg.cell 4
  have gl := hg.lt
  simp only [List.getElem?_toArray, List.getElem?_cons_zero, List.getElem?_cons_succ] at g0 g4
  clear hg p0 p1 p2 p3 p4
  obtain ⟨z, hzz⟩ : ∃ z, (opsOf T kids)[1]? = some z := ⟨_, List.getElem?_eq_getElem (by have := HOL.out; omega)⟩
  obtain ⟨b6, o6, rfl, hb6, q0⟩ := HRR.out.kid hzz (by omega)
  have HZ := Lib.hid hzz
  clear hzz
  try simp only [Nat.add_zero] at q0
  go_wp2_with (go_at_call 62; go_must (refine (exprs_any (HRR.out.bel (by exact (by repeat (first | exact Below.refl _ _ | assumption | refine Below.setCell ?_ (by first | (simp; done) | (simp; omega) | omega) _ | refine below_drewN ?_ _ | refine Below.drew ?_ | refine Below.alloc ?_ (by first | (simp; done) | (simp; omega) | omega) _)))) HOL.out HX.out).mono ?_); rintro e w3 ⟨rfl, rfl⟩)
  go_ret
  exact ⟨rfl, by have := HB.out; have hs := this.size; exact (by repeat (first | exact Below.refl _ _ | assumption | refine Below.setCell ?_ (by first | (simp; done) | (simp; omega) | omega) _ | refine below_drewN ?_ _ | refine Below.drew ?_ | refine Below.alloc ?_ (by first | (simp; done) | (simp; omega) | omega) _))⟩
set_option maxRecDepth 100000 in
set_option maxHeartbeats 4000000 in
theorem node_14 {w : World} {A : Option Addr} {n c i : Nat} {T : List NodeD} {a nn : Int} {s : ByteArray} {kids : List Int} (h : RdT w A n c T) (hi : T[i]? = some ⟨14, a, s, nn, kids⟩) (hk : ∀ k ∈ kids, 0 ≤ k ∧ k < (i : Int)) (hx : ∀ x ∈ opsOf T kids, 1 ≤ x ∧ x ≤ 21) (hc : kids.length = 2) : Calls Tryd.prog 41 #[.slice A n c, .int .i64 i] w fun e w' => e = .returned (.bool true) ∧ Below w.heap.size w w' := by
  have H := Lib.hid h
  have HI := Lib.hid hi
  have HK := Lib.hid hk
  have hl : kids.length ≤ 4398046511103 := by omega
  have HL := Lib.hid hl
  have HX := Lib.hid hx
  have hbig : n ≤ 9223372036854775807 := h.le
  have hin : i < n := by have := (List.getElem?_eq_some_iff.1 hi).1; have := h.len; omega
  obtain ⟨b, o, K, d, rfl, hb, p0, p1, p2, p3, p4, -⟩ := h.nth hi
  simp only at p0 p1 p2 p3 p4
  rw [hc] at p4
  have hol : (opsOf T kids).length = 2 := (opsOf_len T kids).trans hc
  have HOL := Lib.hid hol
  clear h hi hk hx hc hl hol
  go_enter Tryd.func41, Tryd.ntmps41
  go_upto_region 4 with (go_at_call 61; go_must (refine (ops_any (H.out.stay (StayC.bel (by exact (by repeat (first | exact Below.refl _ _ | assumption | refine Below.setCell ?_ (by first | (simp; done) | (simp; omega) | omega) _ | refine below_drewN ?_ _ | refine Below.drew ?_ | refine Below.alloc ?_ (by first | (simp; done) | (simp; omega) | omega) _))))) HI.out HK.out HL.out).mono ?_); rintro e w2 ⟨v, rfl, hn⟩; have HG := Lib.hid ((Blk.at_new (w := w) (t := 51) (cs := #[.int .i64 14, .int .i64 a, .string s, .int .i64 nn, .slice K 2 d]) rfl).bel hn.bel); obtain ⟨A6, c6, e6, hr6, -⟩ := Own.rd hn.own; rw [HOL.out] at e6 hr6; subst e6; have HRR := Lib.hid hr6; have HB : Hid (Below w.heap.size w w2) := Lib.hid (Below.trans (show Below w.heap.size w _ from (by repeat (first | exact Below.refl _ _ | assumption | refine Below.setCell ?_ (by first | (simp; done) | (simp; omega) | omega) _ | refine below_drewN ?_ _ | refine Below.drew ?_ | refine Below.alloc ?_ (by first | (simp; done) | (simp; omega) | omega) _))) (below_low hn.bel (by simp))); clear hn)
  have hg := HG.out
  have g0 := hg.cell 0
  have g4 := hg.cell 4
  have gl := hg.lt
  simp only [List.getElem?_toArray, List.getElem?_cons_zero, List.getElem?_cons_succ] at g0 g4
  clear hg p0 p1 p2 p3 p4
  obtain ⟨z, hzz⟩ : ∃ z, (opsOf T kids)[1]? = some z := ⟨_, List.getElem?_eq_getElem (by have := HOL.out; omega)⟩
  obtain ⟨b6, o6, rfl, hb6, q0⟩ := HRR.out.kid hzz (by omega)
  have HZ := Lib.hid hzz
  clear hzz
  try simp only [Nat.add_zero] at q0
  go_wp2_with (go_at_call 62; go_must (refine (exprs_any (HRR.out.bel (by exact (by repeat (first | exact Below.refl _ _ | assumption | refine Below.setCell ?_ (by first | (simp; done) | (simp; omega) | omega) _ | refine below_drewN ?_ _ | refine Below.drew ?_ | refine Below.alloc ?_ (by first | (simp; done) | (simp; omega) | omega) _)))) HOL.out HX.out).mono ?_); rintro e w3 ⟨rfl, rfl⟩)
  go_ret
  exact ⟨rfl, by have := HB.out; have hs := this.size; exact (by repeat (first | exact Below.refl _ _ | assumption | refine Below.setCell ?_ (by first | (simp; done) | (simp; omega) | omega) _ | refine below_drewN ?_ _ | refine Below.drew ?_ | refine Below.alloc ?_ (by first | (simp; done) | (simp; omega) | omega) _))⟩
set_option maxRecDepth 100000 in
set_option maxHeartbeats 4000000 in
theorem node_15 {w : World} {A : Option Addr} {n c i : Nat} {T : List NodeD} {a nn : Int} {s : ByteArray} {kids : List Int} (h : RdT w A n c T) (hi : T[i]? = some ⟨15, a, s, nn, kids⟩) (hk : ∀ k ∈ kids, 0 ≤ k ∧ k < (i : Int)) (hx : ∀ x ∈ opsOf T kids, 1 ≤ x ∧ x ≤ 21) (hc : kids.length = 2) : Calls Tryd.prog 41 #[.slice A n c, .int .i64 i] w fun e w' => e = .returned (.bool true) ∧ Below w.heap.size w w' := by
  have H := Lib.hid h
  have HI := Lib.hid hi
  have HK := Lib.hid hk
  have hl : kids.length ≤ 4398046511103 := by omega
  have HL := Lib.hid hl
  have HX := Lib.hid hx
  have hbig : n ≤ 9223372036854775807 := h.le
  have hin : i < n := by have := (List.getElem?_eq_some_iff.1 hi).1; have := h.len; omega
  obtain ⟨b, o, K, d, rfl, hb, p0, p1, p2, p3, p4, -⟩ := h.nth hi
  simp only at p0 p1 p2 p3 p4
  rw [hc] at p4
  have hol : (opsOf T kids).length = 2 := (opsOf_len T kids).trans hc
  have HOL := Lib.hid hol
  clear h hi hk hx hc hl hol
  go_enter Tryd.func41, Tryd.ntmps41
  go_upto_region 4 with (go_at_call 61; go_must (refine (ops_any (H.out.stay (StayC.bel (by exact (by repeat (first | exact Below.refl _ _ | assumption | refine Below.setCell ?_ (by first | (simp; done) | (simp; omega) | omega) _ | refine below_drewN ?_ _ | refine Below.drew ?_ | refine Below.alloc ?_ (by first | (simp; done) | (simp; omega) | omega) _))))) HI.out HK.out HL.out).mono ?_); rintro e w2 ⟨v, rfl, hn⟩; have HG := Lib.hid ((Blk.at_new (w := w) (t := 51) (cs := #[.int .i64 15, .int .i64 a, .string s, .int .i64 nn, .slice K 2 d]) rfl).bel hn.bel); obtain ⟨A6, c6, e6, hr6, -⟩ := Own.rd hn.own; rw [HOL.out] at e6 hr6; subst e6; have HRR := Lib.hid hr6; have HB : Hid (Below w.heap.size w w2) := Lib.hid (Below.trans (show Below w.heap.size w _ from (by repeat (first | exact Below.refl _ _ | assumption | refine Below.setCell ?_ (by first | (simp; done) | (simp; omega) | omega) _ | refine below_drewN ?_ _ | refine Below.drew ?_ | refine Below.alloc ?_ (by first | (simp; done) | (simp; omega) | omega) _))) (below_low hn.bel (by simp))); clear hn)
  have hg := HG.out
  have g0 := hg.cell 0
  have g4 := hg.cell 4
  have gl := hg.lt
  simp only [List.getElem?_toArray, List.getElem?_cons_zero, List.getElem?_cons_succ] at g0 g4
  clear hg p0 p1 p2 p3 p4
  obtain ⟨z, hzz⟩ : ∃ z, (opsOf T kids)[1]? = some z := ⟨_, List.getElem?_eq_getElem (by have := HOL.out; omega)⟩
  obtain ⟨b6, o6, rfl, hb6, q0⟩ := HRR.out.kid hzz (by omega)
  have HZ := Lib.hid hzz
  clear hzz
  try simp only [Nat.add_zero] at q0
  go_wp2_with (go_at_call 62; go_must (refine (exprs_any (HRR.out.bel (by exact (by repeat (first | exact Below.refl _ _ | assumption | refine Below.setCell ?_ (by first | (simp; done) | (simp; omega) | omega) _ | refine below_drewN ?_ _ | refine Below.drew ?_ | refine Below.alloc ?_ (by first | (simp; done) | (simp; omega) | omega) _)))) HOL.out HX.out).mono ?_); rintro e w3 ⟨rfl, rfl⟩)
  go_ret
  exact ⟨rfl, by have := HB.out; have hs := this.size; exact (by repeat (first | exact Below.refl _ _ | assumption | refine Below.setCell ?_ (by first | (simp; done) | (simp; omega) | omega) _ | refine below_drewN ?_ _ | refine Below.drew ?_ | refine Below.alloc ?_ (by first | (simp; done) | (simp; omega) | omega) _))⟩
set_option maxRecDepth 100000 in
set_option maxHeartbeats 4000000 in
theorem node_19 {w : World} {A : Option Addr} {n c i : Nat} {T : List NodeD} {a nn : Int} {s : ByteArray} {kids : List Int} (h : RdT w A n c T) (hi : T[i]? = some ⟨19, a, s, nn, kids⟩) (hk : ∀ k ∈ kids, 0 ≤ k ∧ k < (i : Int)) (hx : ∀ x ∈ opsOf T kids, 1 ≤ x ∧ x ≤ 21) (hc : kids.length = 2) : Calls Tryd.prog 41 #[.slice A n c, .int .i64 i] w fun e w' => e = .returned (.bool true) ∧ Below w.heap.size w w' := by
  have H := Lib.hid h
  have HI := Lib.hid hi
  have HK := Lib.hid hk
  have hl : kids.length ≤ 4398046511103 := by omega
  have HL := Lib.hid hl
  have HX := Lib.hid hx
  have hbig : n ≤ 9223372036854775807 := h.le
  have hin : i < n := by have := (List.getElem?_eq_some_iff.1 hi).1; have := h.len; omega
  obtain ⟨b, o, K, d, rfl, hb, p0, p1, p2, p3, p4, -⟩ := h.nth hi
  simp only at p0 p1 p2 p3 p4
  rw [hc] at p4
  have hol : (opsOf T kids).length = 2 := (opsOf_len T kids).trans hc
  have HOL := Lib.hid hol
  clear h hi hk hx hc hl hol
  go_enter Tryd.func41, Tryd.ntmps41
  go_upto_region 4 with (go_at_call 61; go_must (refine (ops_any (H.out.stay (StayC.bel (by exact (by repeat (first | exact Below.refl _ _ | assumption | refine Below.setCell ?_ (by first | (simp; done) | (simp; omega) | omega) _ | refine below_drewN ?_ _ | refine Below.drew ?_ | refine Below.alloc ?_ (by first | (simp; done) | (simp; omega) | omega) _))))) HI.out HK.out HL.out).mono ?_); rintro e w2 ⟨v, rfl, hn⟩; have HG := Lib.hid ((Blk.at_new (w := w) (t := 51) (cs := #[.int .i64 19, .int .i64 a, .string s, .int .i64 nn, .slice K 2 d]) rfl).bel hn.bel); obtain ⟨A6, c6, e6, hr6, -⟩ := Own.rd hn.own; rw [HOL.out] at e6 hr6; subst e6; have HRR := Lib.hid hr6; have HB : Hid (Below w.heap.size w w2) := Lib.hid (Below.trans (show Below w.heap.size w _ from (by repeat (first | exact Below.refl _ _ | assumption | refine Below.setCell ?_ (by first | (simp; done) | (simp; omega) | omega) _ | refine below_drewN ?_ _ | refine Below.drew ?_ | refine Below.alloc ?_ (by first | (simp; done) | (simp; omega) | omega) _))) (below_low hn.bel (by simp))); clear hn)
  have hg := HG.out
  have g0 := hg.cell 0
  have g4 := hg.cell 4
  have gl := hg.lt
  simp only [List.getElem?_toArray, List.getElem?_cons_zero, List.getElem?_cons_succ] at g0 g4
  clear hg p0 p1 p2 p3 p4
  obtain ⟨z, hzz⟩ : ∃ z, (opsOf T kids)[1]? = some z := ⟨_, List.getElem?_eq_getElem (by have := HOL.out; omega)⟩
  obtain ⟨b6, o6, rfl, hb6, q0⟩ := HRR.out.kid hzz (by omega)
  have HZ := Lib.hid hzz
  clear hzz
  try simp only [Nat.add_zero] at q0
  go_wp2_with (go_at_call 62; go_must (refine (exprs_any (HRR.out.bel (by exact (by repeat (first | exact Below.refl _ _ | assumption | refine Below.setCell ?_ (by first | (simp; done) | (simp; omega) | omega) _ | refine below_drewN ?_ _ | refine Below.drew ?_ | refine Below.alloc ?_ (by first | (simp; done) | (simp; omega) | omega) _)))) HOL.out HX.out).mono ?_); rintro e w3 ⟨rfl, rfl⟩)
  go_ret
  exact ⟨rfl, by have := HB.out; have hs := this.size; exact (by repeat (first | exact Below.refl _ _ | assumption | refine Below.setCell ?_ (by first | (simp; done) | (simp; omega) | omega) _ | refine below_drewN ?_ _ | refine Below.drew ?_ | refine Below.alloc ?_ (by first | (simp; done) | (simp; omega) | omega) _))⟩
set_option maxRecDepth 100000 in
set_option maxHeartbeats 4000000 in
theorem node_16 {w : World} {A : Option Addr} {n c i : Nat} {T : List NodeD} {a nn : Int} {s : ByteArray} {kids : List Int} (h : RdT w A n c T) (hi : T[i]? = some ⟨16, a, s, nn, kids⟩) (hk : ∀ k ∈ kids, 0 ≤ k ∧ k < (i : Int)) (hx : ∀ x ∈ opsOf T kids, 1 ≤ x ∧ x ≤ 21) (hc : kids.length = 3) : Calls Tryd.prog 41 #[.slice A n c, .int .i64 i] w fun e w' => e = .returned (.bool true) ∧ Below w.heap.size w w' := by
  have H := Lib.hid h
  have HI := Lib.hid hi
  have HK := Lib.hid hk
  have hl : kids.length ≤ 4398046511103 := by omega
  have HL := Lib.hid hl
  have HX := Lib.hid hx
  have hbig : n ≤ 9223372036854775807 := h.le
  have hin : i < n := by have := (List.getElem?_eq_some_iff.1 hi).1; have := h.len; omega
  obtain ⟨b, o, K, d, rfl, hb, p0, p1, p2, p3, p4, -⟩ := h.nth hi
  simp only at p0 p1 p2 p3 p4
  rw [hc] at p4
  have hol : (opsOf T kids).length = 3 := (opsOf_len T kids).trans hc
  have HOL := Lib.hid hol
  clear h hi hk hx hc hl hol
  go_enter Tryd.func41, Tryd.ntmps41
  go_upto_region 4 with (go_at_call 61; go_must (refine (ops_any (H.out.stay (StayC.bel (by exact (by repeat (first | exact Below.refl _ _ | assumption | refine Below.setCell ?_ (by first | (simp; done) | (simp; omega) | omega) _ | refine below_drewN ?_ _ | refine Below.drew ?_ | refine Below.alloc ?_ (by first | (simp; done) | (simp; omega) | omega) _))))) HI.out HK.out HL.out).mono ?_); rintro e w2 ⟨v, rfl, hn⟩; have HG := Lib.hid ((Blk.at_new (w := w) (t := 51) (cs := #[.int .i64 16, .int .i64 a, .string s, .int .i64 nn, .slice K 3 d]) rfl).bel hn.bel); obtain ⟨A6, c6, e6, hr6, -⟩ := Own.rd hn.own; rw [HOL.out] at e6 hr6; subst e6; have HRR := Lib.hid hr6; have HB : Hid (Below w.heap.size w w2) := Lib.hid (Below.trans (show Below w.heap.size w _ from (by repeat (first | exact Below.refl _ _ | assumption | refine Below.setCell ?_ (by first | (simp; done) | (simp; omega) | omega) _ | refine below_drewN ?_ _ | refine Below.drew ?_ | refine Below.alloc ?_ (by first | (simp; done) | (simp; omega) | omega) _))) (below_low hn.bel (by simp))); clear hn)
  have hg := HG.out
  have g0 := hg.cell 0
  have g4 := hg.cell 4
  have gl := hg.lt
  simp only [List.getElem?_toArray, List.getElem?_cons_zero, List.getElem?_cons_succ] at g0 g4
  clear hg p0 p1 p2 p3 p4
  obtain ⟨z, hzz⟩ : ∃ z, (opsOf T kids)[2]? = some z := ⟨_, List.getElem?_eq_getElem (by have := HOL.out; omega)⟩
  obtain ⟨b6, o6, rfl, hb6, q0⟩ := HRR.out.kid hzz (by omega)
  have HZ := Lib.hid hzz
  clear hzz
  try simp only [Nat.add_zero] at q0
  go_wp2_with (go_at_call 62; go_must (refine (exprs_any (HRR.out.bel (by exact (by repeat (first | exact Below.refl _ _ | assumption | refine Below.setCell ?_ (by first | (simp; done) | (simp; omega) | omega) _ | refine below_drewN ?_ _ | refine Below.drew ?_ | refine Below.alloc ?_ (by first | (simp; done) | (simp; omega) | omega) _)))) HOL.out HX.out).mono ?_); rintro e w3 ⟨rfl, rfl⟩)
  go_ret
  exact ⟨rfl, by have := HB.out; have hs := this.size; exact (by repeat (first | exact Below.refl _ _ | assumption | refine Below.setCell ?_ (by first | (simp; done) | (simp; omega) | omega) _ | refine below_drewN ?_ _ | refine Below.drew ?_ | refine Below.alloc ?_ (by first | (simp; done) | (simp; omega) | omega) _))⟩
set_option maxRecDepth 100000 in
set_option maxHeartbeats 4000000 in
theorem node_20 {w : World} {A : Option Addr} {n c i : Nat} {T : List NodeD} {a nn : Int} {s : ByteArray} {kids : List Int} (h : RdT w A n c T) (hi : T[i]? = some ⟨20, a, s, nn, kids⟩) (hk : ∀ k ∈ kids, 0 ≤ k ∧ k < (i : Int)) (hx : ∀ x ∈ opsOf T kids, 1 ≤ x ∧ x ≤ 21) (hc : kids.length = 3) : Calls Tryd.prog 41 #[.slice A n c, .int .i64 i] w fun e w' => e = .returned (.bool true) ∧ Below w.heap.size w w' := by
  have H := Lib.hid h
  have HI := Lib.hid hi
  have HK := Lib.hid hk
  have hl : kids.length ≤ 4398046511103 := by omega
  have HL := Lib.hid hl
  have HX := Lib.hid hx
  have hbig : n ≤ 9223372036854775807 := h.le
  have hin : i < n := by have := (List.getElem?_eq_some_iff.1 hi).1; have := h.len; omega
  obtain ⟨b, o, K, d, rfl, hb, p0, p1, p2, p3, p4, -⟩ := h.nth hi
  simp only at p0 p1 p2 p3 p4
  rw [hc] at p4
  have hol : (opsOf T kids).length = 3 := (opsOf_len T kids).trans hc
  have HOL := Lib.hid hol
  clear h hi hk hx hc hl hol
  go_enter Tryd.func41, Tryd.ntmps41
  go_upto_region 4 with (go_at_call 61; go_must (refine (ops_any (H.out.stay (StayC.bel (by exact (by repeat (first | exact Below.refl _ _ | assumption | refine Below.setCell ?_ (by first | (simp; done) | (simp; omega) | omega) _ | refine below_drewN ?_ _ | refine Below.drew ?_ | refine Below.alloc ?_ (by first | (simp; done) | (simp; omega) | omega) _))))) HI.out HK.out HL.out).mono ?_); rintro e w2 ⟨v, rfl, hn⟩; have HG := Lib.hid ((Blk.at_new (w := w) (t := 51) (cs := #[.int .i64 20, .int .i64 a, .string s, .int .i64 nn, .slice K 3 d]) rfl).bel hn.bel); obtain ⟨A6, c6, e6, hr6, -⟩ := Own.rd hn.own; rw [HOL.out] at e6 hr6; subst e6; have HRR := Lib.hid hr6; have HB : Hid (Below w.heap.size w w2) := Lib.hid (Below.trans (show Below w.heap.size w _ from (by repeat (first | exact Below.refl _ _ | assumption | refine Below.setCell ?_ (by first | (simp; done) | (simp; omega) | omega) _ | refine below_drewN ?_ _ | refine Below.drew ?_ | refine Below.alloc ?_ (by first | (simp; done) | (simp; omega) | omega) _))) (below_low hn.bel (by simp))); clear hn)
  have hg := HG.out
  have g0 := hg.cell 0
  have g4 := hg.cell 4
  have gl := hg.lt
  simp only [List.getElem?_toArray, List.getElem?_cons_zero, List.getElem?_cons_succ] at g0 g4
  clear hg p0 p1 p2 p3 p4
  obtain ⟨z, hzz⟩ : ∃ z, (opsOf T kids)[2]? = some z := ⟨_, List.getElem?_eq_getElem (by have := HOL.out; omega)⟩
  obtain ⟨b6, o6, rfl, hb6, q0⟩ := HRR.out.kid hzz (by omega)
  have HZ := Lib.hid hzz
  clear hzz
  try simp only [Nat.add_zero] at q0
  go_wp2_with (go_at_call 62; go_must (refine (exprs_any (HRR.out.bel (by exact (by repeat (first | exact Below.refl _ _ | assumption | refine Below.setCell ?_ (by first | (simp; done) | (simp; omega) | omega) _ | refine below_drewN ?_ _ | refine Below.drew ?_ | refine Below.alloc ?_ (by first | (simp; done) | (simp; omega) | omega) _)))) HOL.out HX.out).mono ?_); rintro e w3 ⟨rfl, rfl⟩)
  go_ret
  exact ⟨rfl, by have := HB.out; have hs := this.size; exact (by repeat (first | exact Below.refl _ _ | assumption | refine Below.setCell ?_ (by first | (simp; done) | (simp; omega) | omega) _ | refine below_drewN ?_ _ | refine Below.drew ?_ | refine Below.alloc ?_ (by first | (simp; done) | (simp; omega) | omega) _))⟩
set_option maxRecDepth 100000 in
set_option maxHeartbeats 4000000 in
theorem node_22a {w : World} {A : Option Addr} {n c i : Nat} {T : List NodeD} {a nn : Int} {s : ByteArray} {kids : List Int} (h : RdT w A n c T) (hi : T[i]? = some ⟨22, a, s, nn, kids⟩) (hk : ∀ k ∈ kids, 0 ≤ k ∧ k < (i : Int)) (hx : ∀ x ∈ opsOf T kids, 1 ≤ x ∧ x ≤ 21) (hc : kids.length = 0) : Calls Tryd.prog 41 #[.slice A n c, .int .i64 i] w fun e w' => e = .returned (.bool true) ∧ Below w.heap.size w w' := by
  have H := Lib.hid h
  have HI := Lib.hid hi
  have HK := Lib.hid hk
  have hl : kids.length ≤ 4398046511103 := by omega
  have HL := Lib.hid hl
  have HX := Lib.hid hx
  have hbig : n ≤ 9223372036854775807 := h.le
  have hin : i < n := by have := (List.getElem?_eq_some_iff.1 hi).1; have := h.len; omega
  obtain ⟨b, o, K, d, rfl, hb, p0, p1, p2, p3, p4, -⟩ := h.nth hi
  simp only at p0 p1 p2 p3 p4
  rw [hc] at p4
  have hol : (opsOf T kids).length = 0 := (opsOf_len T kids).trans hc
  have HOL := Lib.hid hol
  clear h hi hk hx hc hl hol
  go_enter Tryd.func41, Tryd.ntmps41
  go_upto_region 4 with (go_at_call 61; go_must (refine (ops_any (H.out.stay (StayC.bel (by exact (by repeat (first | exact Below.refl _ _ | assumption | refine Below.setCell ?_ (by first | (simp; done) | (simp; omega) | omega) _ | refine below_drewN ?_ _ | refine Below.drew ?_ | refine Below.alloc ?_ (by first | (simp; done) | (simp; omega) | omega) _))))) HI.out HK.out HL.out).mono ?_); rintro e w2 ⟨v, rfl, hn⟩; have HG := Lib.hid ((Blk.at_new (w := w) (t := 51) (cs := #[.int .i64 22, .int .i64 a, .string s, .int .i64 nn, .slice K 0 d]) rfl).bel hn.bel); obtain ⟨A6, c6, e6, hr6, -⟩ := Own.rd hn.own; rw [HOL.out] at e6 hr6; subst e6; have HRR := Lib.hid hr6; have HB : Hid (Below w.heap.size w w2) := Lib.hid (Below.trans (show Below w.heap.size w _ from (by repeat (first | exact Below.refl _ _ | assumption | refine Below.setCell ?_ (by first | (simp; done) | (simp; omega) | omega) _ | refine below_drewN ?_ _ | refine Below.drew ?_ | refine Below.alloc ?_ (by first | (simp; done) | (simp; omega) | omega) _))) (below_low hn.bel (by simp))); clear hn)
  have hg := HG.out
  have g0 := hg.cell 0
  have g4 := hg.cell 4
  have gl := hg.lt
  simp only [List.getElem?_toArray, List.getElem?_cons_zero, List.getElem?_cons_succ] at g0 g4
  clear hg p0 p1 p2 p3 p4
  go_wp2_with (go_at_call 62; go_must (refine (exprs_any (HRR.out.bel (by exact (by repeat (first | exact Below.refl _ _ | assumption | refine Below.setCell ?_ (by first | (simp; done) | (simp; omega) | omega) _ | refine below_drewN ?_ _ | refine Below.drew ?_ | refine Below.alloc ?_ (by first | (simp; done) | (simp; omega) | omega) _)))) HOL.out HX.out).mono ?_); rintro e w3 ⟨rfl, rfl⟩)
  go_ret
  exact ⟨rfl, by have := HB.out; have hs := this.size; exact (by repeat (first | exact Below.refl _ _ | assumption | refine Below.setCell ?_ (by first | (simp; done) | (simp; omega) | omega) _ | refine below_drewN ?_ _ | refine Below.drew ?_ | refine Below.alloc ?_ (by first | (simp; done) | (simp; omega) | omega) _))⟩
set_option maxRecDepth 100000 in
set_option maxHeartbeats 4000000 in
theorem node_22b {w : World} {A : Option Addr} {n c i : Nat} {T : List NodeD} {a nn : Int} {s : ByteArray} {kids : List Int} (h : RdT w A n c T) (hi : T[i]? = some ⟨22, a, s, nn, kids⟩) (hk : ∀ k ∈ kids, 0 ≤ k ∧ k < (i : Int)) (hx : ∀ x ∈ opsOf T kids, 1 ≤ x ∧ x ≤ 21) (hc : kids.length = 1) : Calls Tryd.prog 41 #[.slice A n c, .int .i64 i] w fun e w' => e = .returned (.bool true) ∧ Below w.heap.size w w' := by
  have H := Lib.hid h
  have HI := Lib.hid hi
  have HK := Lib.hid hk
  have hl : kids.length ≤ 4398046511103 := by omega
  have HL := Lib.hid hl
  have HX := Lib.hid hx
  have hbig : n ≤ 9223372036854775807 := h.le
  have hin : i < n := by have := (List.getElem?_eq_some_iff.1 hi).1; have := h.len; omega
  obtain ⟨b, o, K, d, rfl, hb, p0, p1, p2, p3, p4, -⟩ := h.nth hi
  simp only at p0 p1 p2 p3 p4
  rw [hc] at p4
  have hol : (opsOf T kids).length = 1 := (opsOf_len T kids).trans hc
  have HOL := Lib.hid hol
  clear h hi hk hx hc hl hol
  go_enter Tryd.func41, Tryd.ntmps41
  go_upto_region 4 with (go_at_call 61; go_must (refine (ops_any (H.out.stay (StayC.bel (by exact (by repeat (first | exact Below.refl _ _ | assumption | refine Below.setCell ?_ (by first | (simp; done) | (simp; omega) | omega) _ | refine below_drewN ?_ _ | refine Below.drew ?_ | refine Below.alloc ?_ (by first | (simp; done) | (simp; omega) | omega) _))))) HI.out HK.out HL.out).mono ?_); rintro e w2 ⟨v, rfl, hn⟩; have HG := Lib.hid ((Blk.at_new (w := w) (t := 51) (cs := #[.int .i64 22, .int .i64 a, .string s, .int .i64 nn, .slice K 1 d]) rfl).bel hn.bel); obtain ⟨A6, c6, e6, hr6, -⟩ := Own.rd hn.own; rw [HOL.out] at e6 hr6; subst e6; have HRR := Lib.hid hr6; have HB : Hid (Below w.heap.size w w2) := Lib.hid (Below.trans (show Below w.heap.size w _ from (by repeat (first | exact Below.refl _ _ | assumption | refine Below.setCell ?_ (by first | (simp; done) | (simp; omega) | omega) _ | refine below_drewN ?_ _ | refine Below.drew ?_ | refine Below.alloc ?_ (by first | (simp; done) | (simp; omega) | omega) _))) (below_low hn.bel (by simp))); clear hn)
  have hg := HG.out
  have g0 := hg.cell 0
  have g4 := hg.cell 4
  have gl := hg.lt
  simp only [List.getElem?_toArray, List.getElem?_cons_zero, List.getElem?_cons_succ] at g0 g4
  clear hg p0 p1 p2 p3 p4
  obtain ⟨z, hzz⟩ : ∃ z, (opsOf T kids)[0]? = some z := ⟨_, List.getElem?_eq_getElem (by have := HOL.out; omega)⟩
  obtain ⟨b6, o6, rfl, hb6, q0⟩ := HRR.out.kid hzz (by omega)
  have HZ := Lib.hid hzz
  clear hzz
  try simp only [Nat.add_zero] at q0
  go_wp2_with (go_at_call 62; go_must (refine (exprs_any (HRR.out.bel (by exact (by repeat (first | exact Below.refl _ _ | assumption | refine Below.setCell ?_ (by first | (simp; done) | (simp; omega) | omega) _ | refine below_drewN ?_ _ | refine Below.drew ?_ | refine Below.alloc ?_ (by first | (simp; done) | (simp; omega) | omega) _)))) HOL.out HX.out).mono ?_); rintro e w3 ⟨rfl, rfl⟩)
  go_ret
  exact ⟨rfl, by have := HB.out; have hs := this.size; exact (by repeat (first | exact Below.refl _ _ | assumption | refine Below.setCell ?_ (by first | (simp; done) | (simp; omega) | omega) _ | refine below_drewN ?_ _ | refine Below.drew ?_ | refine Below.alloc ?_ (by first | (simp; done) | (simp; omega) | omega) _))⟩
set_option maxRecDepth 100000 in
set_option maxHeartbeats 4000000 in
theorem node_7z {w : World} {A : Option Addr} {n c i : Nat} {T : List NodeD} {a nn : Int} {s : ByteArray} {kids : List Int} (h : RdT w A n c T) (hi : T[i]? = some ⟨7, a, s, nn, kids⟩) (hk : ∀ k ∈ kids, 0 ≤ k ∧ k < (i : Int)) (hx : ∀ x ∈ opsOf T kids, 1 ≤ x ∧ x ≤ 21) (hc : kids.length = 0) : Calls Tryd.prog 41 #[.slice A n c, .int .i64 i] w fun e w' => e = .returned (.bool true) ∧ Below w.heap.size w w' := by
  have H := Lib.hid h
  have HI := Lib.hid hi
  have HK := Lib.hid hk
  have hl : kids.length ≤ 4398046511103 := by omega
  have HL := Lib.hid hl
  have HX := Lib.hid hx
  have hbig : n ≤ 9223372036854775807 := h.le
  have hin : i < n := by have := (List.getElem?_eq_some_iff.1 hi).1; have := h.len; omega
  obtain ⟨b, o, K, d, rfl, hb, p0, p1, p2, p3, p4, -⟩ := h.nth hi
  simp only at p0 p1 p2 p3 p4
  rw [hc] at p4
  have hol : (opsOf T kids).length = 0 := (opsOf_len T kids).trans hc
  have HOL := Lib.hid hol
  clear h hi hk hx hc hl hol
  go_enter Tryd.func41, Tryd.ntmps41
  go_upto_region 4 with (go_at_call 61; go_must (refine (ops_any (H.out.stay (StayC.bel (by exact (by repeat (first | exact Below.refl _ _ | assumption | refine Below.setCell ?_ (by first | (simp; done) | (simp; omega) | omega) _ | refine below_drewN ?_ _ | refine Below.drew ?_ | refine Below.alloc ?_ (by first | (simp; done) | (simp; omega) | omega) _))))) HI.out HK.out HL.out).mono ?_); rintro e w2 ⟨v, rfl, hn⟩; have HG := Lib.hid ((Blk.at_new (w := w) (t := 51) (cs := #[.int .i64 7, .int .i64 a, .string s, .int .i64 nn, .slice K 0 d]) rfl).bel hn.bel); obtain ⟨A6, c6, e6, hr6, -⟩ := Own.rd hn.own; rw [HOL.out] at e6 hr6; subst e6; have HRR := Lib.hid hr6; have HB : Hid (Below w.heap.size w w2) := Lib.hid (Below.trans (show Below w.heap.size w _ from (by repeat (first | exact Below.refl _ _ | assumption | refine Below.setCell ?_ (by first | (simp; done) | (simp; omega) | omega) _ | refine below_drewN ?_ _ | refine Below.drew ?_ | refine Below.alloc ?_ (by first | (simp; done) | (simp; omega) | omega) _))) (below_low hn.bel (by simp))); clear hn)
  have hg := HG.out
  have g0 := hg.cell 0
  have g4 := hg.cell 4
  have gl := hg.lt
  simp only [List.getElem?_toArray, List.getElem?_cons_zero, List.getElem?_cons_succ] at g0 g4
  clear hg p0 p1 p2 p3 p4
  go_wp2_with (go_at_call 62; go_must (refine (exprs_any (HRR.out.bel (by exact (by repeat (first | exact Below.refl _ _ | assumption | refine Below.setCell ?_ (by first | (simp; done) | (simp; omega) | omega) _ | refine below_drewN ?_ _ | refine Below.drew ?_ | refine Below.alloc ?_ (by first | (simp; done) | (simp; omega) | omega) _)))) HOL.out HX.out).mono ?_); rintro e w3 ⟨rfl, rfl⟩)
  go_ret
  exact ⟨rfl, by have := HB.out; have hs := this.size; exact (by repeat (first | exact Below.refl _ _ | assumption | refine Below.setCell ?_ (by first | (simp; done) | (simp; omega) | omega) _ | refine below_drewN ?_ _ | refine Below.drew ?_ | refine Below.alloc ?_ (by first | (simp; done) | (simp; omega) | omega) _))⟩
set_option maxRecDepth 100000 in
set_option maxHeartbeats 4000000 in
theorem node_8z {w : World} {A : Option Addr} {n c i : Nat} {T : List NodeD} {a nn : Int} {s : ByteArray} {kids : List Int} (h : RdT w A n c T) (hi : T[i]? = some ⟨8, a, s, nn, kids⟩) (hk : ∀ k ∈ kids, 0 ≤ k ∧ k < (i : Int)) (hx : ∀ x ∈ opsOf T kids, 1 ≤ x ∧ x ≤ 21) (hc : kids.length = 0) : Calls Tryd.prog 41 #[.slice A n c, .int .i64 i] w fun e w' => e = .returned (.bool true) ∧ Below w.heap.size w w' := by
  have H := Lib.hid h
  have HI := Lib.hid hi
  have HK := Lib.hid hk
  have hl : kids.length ≤ 4398046511103 := by omega
  have HL := Lib.hid hl
  have HX := Lib.hid hx
  have hbig : n ≤ 9223372036854775807 := h.le
  have hin : i < n := by have := (List.getElem?_eq_some_iff.1 hi).1; have := h.len; omega
  obtain ⟨b, o, K, d, rfl, hb, p0, p1, p2, p3, p4, -⟩ := h.nth hi
  simp only at p0 p1 p2 p3 p4
  rw [hc] at p4
  have hol : (opsOf T kids).length = 0 := (opsOf_len T kids).trans hc
  have HOL := Lib.hid hol
  clear h hi hk hx hc hl hol
  go_enter Tryd.func41, Tryd.ntmps41
  go_upto_region 4 with (go_at_call 61; go_must (refine (ops_any (H.out.stay (StayC.bel (by exact (by repeat (first | exact Below.refl _ _ | assumption | refine Below.setCell ?_ (by first | (simp; done) | (simp; omega) | omega) _ | refine below_drewN ?_ _ | refine Below.drew ?_ | refine Below.alloc ?_ (by first | (simp; done) | (simp; omega) | omega) _))))) HI.out HK.out HL.out).mono ?_); rintro e w2 ⟨v, rfl, hn⟩; have HG := Lib.hid ((Blk.at_new (w := w) (t := 51) (cs := #[.int .i64 8, .int .i64 a, .string s, .int .i64 nn, .slice K 0 d]) rfl).bel hn.bel); obtain ⟨A6, c6, e6, hr6, -⟩ := Own.rd hn.own; rw [HOL.out] at e6 hr6; subst e6; have HRR := Lib.hid hr6; have HB : Hid (Below w.heap.size w w2) := Lib.hid (Below.trans (show Below w.heap.size w _ from (by repeat (first | exact Below.refl _ _ | assumption | refine Below.setCell ?_ (by first | (simp; done) | (simp; omega) | omega) _ | refine below_drewN ?_ _ | refine Below.drew ?_ | refine Below.alloc ?_ (by first | (simp; done) | (simp; omega) | omega) _))) (below_low hn.bel (by simp))); clear hn)
  have hg := HG.out
  have g0 := hg.cell 0
  have g4 := hg.cell 4
  have gl := hg.lt
  simp only [List.getElem?_toArray, List.getElem?_cons_zero, List.getElem?_cons_succ] at g0 g4
  clear hg p0 p1 p2 p3 p4
  go_wp2_with (go_at_call 62; go_must (refine (exprs_any (HRR.out.bel (by exact (by repeat (first | exact Below.refl _ _ | assumption | refine Below.setCell ?_ (by first | (simp; done) | (simp; omega) | omega) _ | refine below_drewN ?_ _ | refine Below.drew ?_ | refine Below.alloc ?_ (by first | (simp; done) | (simp; omega) | omega) _)))) HOL.out HX.out).mono ?_); rintro e w3 ⟨rfl, rfl⟩)
  go_ret
  exact ⟨rfl, by have := HB.out; have hs := this.size; exact (by repeat (first | exact Below.refl _ _ | assumption | refine Below.setCell ?_ (by first | (simp; done) | (simp; omega) | omega) _ | refine below_drewN ?_ _ | refine Below.drew ?_ | refine Below.alloc ?_ (by first | (simp; done) | (simp; omega) | omega) _))⟩
set_option maxRecDepth 100000 in
set_option maxHeartbeats 4000000 in
theorem node_9z {w : World} {A : Option Addr} {n c i : Nat} {T : List NodeD} {a nn : Int} {s : ByteArray} {kids : List Int} (h : RdT w A n c T) (hi : T[i]? = some ⟨9, a, s, nn, kids⟩) (hk : ∀ k ∈ kids, 0 ≤ k ∧ k < (i : Int)) (hx : ∀ x ∈ opsOf T kids, 1 ≤ x ∧ x ≤ 21) (hc : kids.length = 0) : Calls Tryd.prog 41 #[.slice A n c, .int .i64 i] w fun e w' => e = .returned (.bool true) ∧ Below w.heap.size w w' := by
  have H := Lib.hid h
  have HI := Lib.hid hi
  have HK := Lib.hid hk
  have hl : kids.length ≤ 4398046511103 := by omega
  have HL := Lib.hid hl
  have HX := Lib.hid hx
  have hbig : n ≤ 9223372036854775807 := h.le
  have hin : i < n := by have := (List.getElem?_eq_some_iff.1 hi).1; have := h.len; omega
  obtain ⟨b, o, K, d, rfl, hb, p0, p1, p2, p3, p4, -⟩ := h.nth hi
  simp only at p0 p1 p2 p3 p4
  rw [hc] at p4
  have hol : (opsOf T kids).length = 0 := (opsOf_len T kids).trans hc
  have HOL := Lib.hid hol
  clear h hi hk hx hc hl hol
  go_enter Tryd.func41, Tryd.ntmps41
  go_upto_region 4 with (go_at_call 61; go_must (refine (ops_any (H.out.stay (StayC.bel (by exact (by repeat (first | exact Below.refl _ _ | assumption | refine Below.setCell ?_ (by first | (simp; done) | (simp; omega) | omega) _ | refine below_drewN ?_ _ | refine Below.drew ?_ | refine Below.alloc ?_ (by first | (simp; done) | (simp; omega) | omega) _))))) HI.out HK.out HL.out).mono ?_); rintro e w2 ⟨v, rfl, hn⟩; have HG := Lib.hid ((Blk.at_new (w := w) (t := 51) (cs := #[.int .i64 9, .int .i64 a, .string s, .int .i64 nn, .slice K 0 d]) rfl).bel hn.bel); obtain ⟨A6, c6, e6, hr6, -⟩ := Own.rd hn.own; rw [HOL.out] at e6 hr6; subst e6; have HRR := Lib.hid hr6; have HB : Hid (Below w.heap.size w w2) := Lib.hid (Below.trans (show Below w.heap.size w _ from (by repeat (first | exact Below.refl _ _ | assumption | refine Below.setCell ?_ (by first | (simp; done) | (simp; omega) | omega) _ | refine below_drewN ?_ _ | refine Below.drew ?_ | refine Below.alloc ?_ (by first | (simp; done) | (simp; omega) | omega) _))) (below_low hn.bel (by simp))); clear hn)
  have hg := HG.out
  have g0 := hg.cell 0
  have g4 := hg.cell 4
  have gl := hg.lt
  simp only [List.getElem?_toArray, List.getElem?_cons_zero, List.getElem?_cons_succ] at g0 g4
  clear hg p0 p1 p2 p3 p4
  go_wp2_with (go_at_call 62; go_must (refine (exprs_any (HRR.out.bel (by exact (by repeat (first | exact Below.refl _ _ | assumption | refine Below.setCell ?_ (by first | (simp; done) | (simp; omega) | omega) _ | refine below_drewN ?_ _ | refine Below.drew ?_ | refine Below.alloc ?_ (by first | (simp; done) | (simp; omega) | omega) _)))) HOL.out HX.out).mono ?_); rintro e w3 ⟨rfl, rfl⟩)
  go_ret
  exact ⟨rfl, by have := HB.out; have hs := this.size; exact (by repeat (first | exact Below.refl _ _ | assumption | refine Below.setCell ?_ (by first | (simp; done) | (simp; omega) | omega) _ | refine below_drewN ?_ _ | refine Below.drew ?_ | refine Below.alloc ?_ (by first | (simp; done) | (simp; omega) | omega) _))⟩
set_option maxRecDepth 100000 in
set_option maxHeartbeats 4000000 in
theorem node_7p {w : World} {A : Option Addr} {n c i km : Nat} {T : List NodeD} {a nn : Int} {s : ByteArray} {kids : List Int} (h : RdT w A n c T) (hi : T[i]? = some ⟨7, a, s, nn, kids⟩) (hk : ∀ k ∈ kids, 0 ≤ k ∧ k < (i : Int)) (hl : km ≤ 4398046511103) (hx : ∀ x ∈ opsOf T kids, 1 ≤ x ∧ x ≤ 21) (hkm : kids.length = km) (hpos : 0 < km) : Calls Tryd.prog 41 #[.slice A n c, .int .i64 i] w fun e w' => e = .returned (.bool true) ∧ Below w.heap.size w w' := by
  have H := Lib.hid h
  have HI := Lib.hid hi
  have HK := Lib.hid hk
  have HL : Hid (kids.length ≤ 4398046511103) := Lib.hid (by omega)
  have HX := Lib.hid hx
  have hbig : n ≤ 9223372036854775807 := h.le
  have hin : i < n := by have := (List.getElem?_eq_some_iff.1 hi).1; have := h.len; omega
  obtain ⟨b, o, K, d, rfl, hb, p0, p1, p2, p3, p4, -⟩ := h.nth hi
  simp only at p0 p1 p2 p3 p4
  rw [hkm] at p4
  have hol : (opsOf T kids).length = km := (opsOf_len T kids).trans hkm
  have HOL := Lib.hid hol
  have z0 : decide (0 < km) = true := decide_eq_true hpos
  have z1 : decide ((0 : Int) < (km : Int)) = true := decide_eq_true (by omega)
  have z2 : ((km : Int) == 0) = false := by rw [beq_eq_false_iff_ne]; omega
  have hw : IntKind.i64.wrap ((km : Int) - 1) = ((km - 1 : Nat) : Int) := by rw [IntWalk.i64_in _ (by omega)]; omega
  have hlt : km - 1 < km := by omega
  have HP := Lib.hid hpos
  clear h hi hk hx hkm hol hpos
  go_enter Tryd.func41, Tryd.ntmps41
  go_upto_region 4 with (go_at_call 61; go_must (refine (ops_any (H.out.stay (StayC.bel (by exact (by repeat (first | exact Below.refl _ _ | assumption | refine Below.setCell ?_ (by first | (simp; done) | (simp; omega) | omega) _ | refine below_drewN ?_ _ | refine Below.drew ?_ | refine Below.alloc ?_ (by first | (simp; done) | (simp; omega) | omega) _))))) HI.out HK.out HL.out).mono ?_); rintro e w2 ⟨v, rfl, hn⟩; have HG := Lib.hid ((Blk.at_new (w := w) (t := 51) (cs := #[.int .i64 7, .int .i64 a, .string s, .int .i64 nn, .slice K km d]) rfl).bel hn.bel); obtain ⟨A6, c6, e6, hr6, -⟩ := Own.rd hn.own; rw [HOL.out] at e6 hr6; subst e6; have HRR := Lib.hid hr6; have HB : Hid (Below w.heap.size w w2) := Lib.hid (Below.trans (show Below w.heap.size w _ from (by repeat (first | exact Below.refl _ _ | assumption | refine Below.setCell ?_ (by first | (simp; done) | (simp; omega) | omega) _ | refine below_drewN ?_ _ | refine Below.drew ?_ | refine Below.alloc ?_ (by first | (simp; done) | (simp; omega) | omega) _))) (below_low hn.bel (by simp))); clear hn)
  have hg := HG.out
  have g0 := hg.cell 0
  have g4 := hg.cell 4
  have gl := hg.lt
  simp only [List.getElem?_toArray, List.getElem?_cons_zero, List.getElem?_cons_succ] at g0 g4
  clear hg p0 p1 p2 p3 p4
  obtain ⟨z, hzz⟩ : ∃ z, (opsOf T kids)[km - 1]? = some z := ⟨_, List.getElem?_eq_getElem (by have := HOL.out; have := HP.out; omega)⟩
  obtain ⟨b6, o6, rfl, hb6, q0⟩ := HRR.out.kid hzz (by omega)
  have HZ := Lib.hid hzz
  clear hzz
  go_wp2_with (go_at_call 62; go_must (refine (exprs_any (HRR.out.bel (by exact (by repeat (first | exact Below.refl _ _ | assumption | refine Below.setCell ?_ (by first | (simp; done) | (simp; omega) | omega) _ | refine below_drewN ?_ _ | refine Below.drew ?_ | refine Below.alloc ?_ (by first | (simp; done) | (simp; omega) | omega) _)))) HOL.out HX.out).mono ?_); rintro e w3 ⟨rfl, rfl⟩)
  go_ret
  exact ⟨rfl, by have := HB.out; have hs := this.size; exact (by repeat (first | exact Below.refl _ _ | assumption | refine Below.setCell ?_ (by first | (simp; done) | (simp; omega) | omega) _ | refine below_drewN ?_ _ | refine Below.drew ?_ | refine Below.alloc ?_ (by first | (simp; done) | (simp; omega) | omega) _))⟩
set_option maxRecDepth 100000 in
set_option maxHeartbeats 4000000 in
theorem node_8p {w : World} {A : Option Addr} {n c i km : Nat} {T : List NodeD} {a nn : Int} {s : ByteArray} {kids : List Int} (h : RdT w A n c T) (hi : T[i]? = some ⟨8, a, s, nn, kids⟩) (hk : ∀ k ∈ kids, 0 ≤ k ∧ k < (i : Int)) (hl : km ≤ 4398046511103) (hx : ∀ x ∈ opsOf T kids, 1 ≤ x ∧ x ≤ 21) (hkm : kids.length = km) (hpos : 0 < km) : Calls Tryd.prog 41 #[.slice A n c, .int .i64 i] w fun e w' => e = .returned (.bool true) ∧ Below w.heap.size w w' := by
  have H := Lib.hid h
  have HI := Lib.hid hi
  have HK := Lib.hid hk
  have HL : Hid (kids.length ≤ 4398046511103) := Lib.hid (by omega)
  have HX := Lib.hid hx
  have hbig : n ≤ 9223372036854775807 := h.le
  have hin : i < n := by have := (List.getElem?_eq_some_iff.1 hi).1; have := h.len; omega
  obtain ⟨b, o, K, d, rfl, hb, p0, p1, p2, p3, p4, -⟩ := h.nth hi
  simp only at p0 p1 p2 p3 p4
  rw [hkm] at p4
  have hol : (opsOf T kids).length = km := (opsOf_len T kids).trans hkm
  have HOL := Lib.hid hol
  have z0 : decide (0 < km) = true := decide_eq_true hpos
  have z1 : decide ((0 : Int) < (km : Int)) = true := decide_eq_true (by omega)
  have z2 : ((km : Int) == 0) = false := by rw [beq_eq_false_iff_ne]; omega
  have hw : IntKind.i64.wrap ((km : Int) - 1) = ((km - 1 : Nat) : Int) := by rw [IntWalk.i64_in _ (by omega)]; omega
  have hlt : km - 1 < km := by omega
  have HP := Lib.hid hpos
  clear h hi hk hx hkm hol hpos
  go_enter Tryd.func41, Tryd.ntmps41
  go_upto_region 4 with (go_at_call 61; go_must (refine (ops_any (H.out.stay (StayC.bel (by exact (by repeat (first | exact Below.refl _ _ | assumption | refine Below.setCell ?_ (by first | (simp; done) | (simp; omega) | omega) _ | refine below_drewN ?_ _ | refine Below.drew ?_ | refine Below.alloc ?_ (by first | (simp; done) | (simp; omega) | omega) _))))) HI.out HK.out HL.out).mono ?_); rintro e w2 ⟨v, rfl, hn⟩; have HG := Lib.hid ((Blk.at_new (w := w) (t := 51) (cs := #[.int .i64 8, .int .i64 a, .string s, .int .i64 nn, .slice K km d]) rfl).bel hn.bel); obtain ⟨A6, c6, e6, hr6, -⟩ := Own.rd hn.own; rw [HOL.out] at e6 hr6; subst e6; have HRR := Lib.hid hr6; have HB : Hid (Below w.heap.size w w2) := Lib.hid (Below.trans (show Below w.heap.size w _ from (by repeat (first | exact Below.refl _ _ | assumption | refine Below.setCell ?_ (by first | (simp; done) | (simp; omega) | omega) _ | refine below_drewN ?_ _ | refine Below.drew ?_ | refine Below.alloc ?_ (by first | (simp; done) | (simp; omega) | omega) _))) (below_low hn.bel (by simp))); clear hn)
  have hg := HG.out
  have g0 := hg.cell 0
  have g4 := hg.cell 4
  have gl := hg.lt
  simp only [List.getElem?_toArray, List.getElem?_cons_zero, List.getElem?_cons_succ] at g0 g4
  clear hg p0 p1 p2 p3 p4
  obtain ⟨z, hzz⟩ : ∃ z, (opsOf T kids)[km - 1]? = some z := ⟨_, List.getElem?_eq_getElem (by have := HOL.out; have := HP.out; omega)⟩
  obtain ⟨b6, o6, rfl, hb6, q0⟩ := HRR.out.kid hzz (by omega)
  have HZ := Lib.hid hzz
  clear hzz
  go_wp2_with (go_at_call 62; go_must (refine (exprs_any (HRR.out.bel (by exact (by repeat (first | exact Below.refl _ _ | assumption | refine Below.setCell ?_ (by first | (simp; done) | (simp; omega) | omega) _ | refine below_drewN ?_ _ | refine Below.drew ?_ | refine Below.alloc ?_ (by first | (simp; done) | (simp; omega) | omega) _)))) HOL.out HX.out).mono ?_); rintro e w3 ⟨rfl, rfl⟩)
  go_ret
  exact ⟨rfl, by have := HB.out; have hs := this.size; exact (by repeat (first | exact Below.refl _ _ | assumption | refine Below.setCell ?_ (by first | (simp; done) | (simp; omega) | omega) _ | refine below_drewN ?_ _ | refine Below.drew ?_ | refine Below.alloc ?_ (by first | (simp; done) | (simp; omega) | omega) _))⟩
set_option maxRecDepth 100000 in
set_option maxHeartbeats 4000000 in
theorem node_9p {w : World} {A : Option Addr} {n c i km : Nat} {T : List NodeD} {a nn : Int} {s : ByteArray} {kids : List Int} (h : RdT w A n c T) (hi : T[i]? = some ⟨9, a, s, nn, kids⟩) (hk : ∀ k ∈ kids, 0 ≤ k ∧ k < (i : Int)) (hl : km ≤ 4398046511103) (hx : ∀ x ∈ opsOf T kids, 1 ≤ x ∧ x ≤ 21) (hkm : kids.length = km) (hpos : 0 < km) (hc : km % 2 = 0) : Calls Tryd.prog 41 #[.slice A n c, .int .i64 i] w fun e w' => e = .returned (.bool true) ∧ Below w.heap.size w w' := by
  have H := Lib.hid h
  have HI := Lib.hid hi
  have HK := Lib.hid hk
  have HL : Hid (kids.length ≤ 4398046511103) := Lib.hid (by omega)
  have HX := Lib.hid hx
  have hbig : n ≤ 9223372036854775807 := h.le
  have hin : i < n := by have := (List.getElem?_eq_some_iff.1 hi).1; have := h.len; omega
  obtain ⟨b, o, K, d, rfl, hb, p0, p1, p2, p3, p4, -⟩ := h.nth hi
  simp only at p0 p1 p2 p3 p4
  rw [hkm] at p4
  have hol : (opsOf T kids).length = km := (opsOf_len T kids).trans hkm
  have HOL := Lib.hid hol
  have z0 : decide (0 < km) = true := decide_eq_true hpos
  have z1 : decide ((0 : Int) < (km : Int)) = true := decide_eq_true (by omega)
  have z2 : ((km : Int) == 0) = false := by rw [beq_eq_false_iff_ne]; omega
  have hw : IntKind.i64.wrap ((km : Int) - 1) = ((km - 1 : Nat) : Int) := by rw [IntWalk.i64_in _ (by omega)]; omega
  have hlt : km - 1 < km := by omega
  have h0 : ((km : Int).tmod 2 == 0) = true := by rw [beq_iff_eq, Int.tmod_eq_emod_of_nonneg (by omega)]; omega
  have h1 : ((km : Int) % 2) = 0 := by omega
  have HC := Lib.hid hc
  clear hc
  have HP := Lib.hid hpos
  clear h hi hk hx hkm hol hpos
  go_enter Tryd.func41, Tryd.ntmps41
  go_upto_region 4 with (go_at_call 61; go_must (refine (ops_any (H.out.stay (StayC.bel (by exact (by repeat (first | exact Below.refl _ _ | assumption | refine Below.setCell ?_ (by first | (simp; done) | (simp; omega) | omega) _ | refine below_drewN ?_ _ | refine Below.drew ?_ | refine Below.alloc ?_ (by first | (simp; done) | (simp; omega) | omega) _))))) HI.out HK.out HL.out).mono ?_); rintro e w2 ⟨v, rfl, hn⟩; have HG := Lib.hid ((Blk.at_new (w := w) (t := 51) (cs := #[.int .i64 9, .int .i64 a, .string s, .int .i64 nn, .slice K km d]) rfl).bel hn.bel); obtain ⟨A6, c6, e6, hr6, -⟩ := Own.rd hn.own; rw [HOL.out] at e6 hr6; subst e6; have HRR := Lib.hid hr6; have HB : Hid (Below w.heap.size w w2) := Lib.hid (Below.trans (show Below w.heap.size w _ from (by repeat (first | exact Below.refl _ _ | assumption | refine Below.setCell ?_ (by first | (simp; done) | (simp; omega) | omega) _ | refine below_drewN ?_ _ | refine Below.drew ?_ | refine Below.alloc ?_ (by first | (simp; done) | (simp; omega) | omega) _))) (below_low hn.bel (by simp))); clear hn)
  have hg := HG.out
  have g0 := hg.cell 0
  have g4 := hg.cell 4
  have gl := hg.lt
  simp only [List.getElem?_toArray, List.getElem?_cons_zero, List.getElem?_cons_succ] at g0 g4
  clear hg p0 p1 p2 p3 p4
  obtain ⟨z, hzz⟩ : ∃ z, (opsOf T kids)[km - 1]? = some z := ⟨_, List.getElem?_eq_getElem (by have := HOL.out; have := HP.out; omega)⟩
  obtain ⟨b6, o6, rfl, hb6, q0⟩ := HRR.out.kid hzz (by omega)
  have HZ := Lib.hid hzz
  clear hzz
  go_wp2_with (go_at_call 62; go_must (refine (exprs_any (HRR.out.bel (by exact (by repeat (first | exact Below.refl _ _ | assumption | refine Below.setCell ?_ (by first | (simp; done) | (simp; omega) | omega) _ | refine below_drewN ?_ _ | refine Below.drew ?_ | refine Below.alloc ?_ (by first | (simp; done) | (simp; omega) | omega) _)))) HOL.out HX.out).mono ?_); rintro e w3 ⟨rfl, rfl⟩)
  go_ret
  exact ⟨rfl, by have := HB.out; have hs := this.size; exact (by repeat (first | exact Below.refl _ _ | assumption | refine Below.setCell ?_ (by first | (simp; done) | (simp; omega) | omega) _ | refine below_drewN ?_ _ | refine Below.drew ?_ | refine Below.alloc ?_ (by first | (simp; done) | (simp; omega) | omega) _))⟩
set_option maxRecDepth 100000 in
set_option maxHeartbeats 4000000 in
theorem node_17p {w : World} {A : Option Addr} {n c i km : Nat} {T : List NodeD} {a nn : Int} {s : ByteArray} {kids : List Int} (h : RdT w A n c T) (hi : T[i]? = some ⟨17, a, s, nn, kids⟩) (hk : ∀ k ∈ kids, 0 ≤ k ∧ k < (i : Int)) (hl : km ≤ 4398046511103) (hx : ∀ x ∈ opsOf T kids, 1 ≤ x ∧ x ≤ 21) (hkm : kids.length = km) (hpos : 0 < km) : Calls Tryd.prog 41 #[.slice A n c, .int .i64 i] w fun e w' => e = .returned (.bool true) ∧ Below w.heap.size w w' := by
  have H := Lib.hid h
  have HI := Lib.hid hi
  have HK := Lib.hid hk
  have HL : Hid (kids.length ≤ 4398046511103) := Lib.hid (by omega)
  have HX := Lib.hid hx
  have hbig : n ≤ 9223372036854775807 := h.le
  have hin : i < n := by have := (List.getElem?_eq_some_iff.1 hi).1; have := h.len; omega
  obtain ⟨b, o, K, d, rfl, hb, p0, p1, p2, p3, p4, -⟩ := h.nth hi
  simp only at p0 p1 p2 p3 p4
  rw [hkm] at p4
  have hol : (opsOf T kids).length = km := (opsOf_len T kids).trans hkm
  have HOL := Lib.hid hol
  have z0 : decide (0 < km) = true := decide_eq_true hpos
  have z1 : decide ((0 : Int) < (km : Int)) = true := decide_eq_true (by omega)
  have z2 : ((km : Int) == 0) = false := by rw [beq_eq_false_iff_ne]; omega
  have hw : IntKind.i64.wrap ((km : Int) - 1) = ((km - 1 : Nat) : Int) := by rw [IntWalk.i64_in _ (by omega)]; omega
  have hlt : km - 1 < km := by omega
  have h2 : decide (1 ≤ km) = true := decide_eq_true (by omega)
  have h1 : decide ((1 : Int) ≤ (km : Int)) = true := decide_eq_true (by omega)
  have HP := Lib.hid hpos
  clear h hi hk hx hkm hol hpos
  go_enter Tryd.func41, Tryd.ntmps41
  go_upto_region 4 with (go_at_call 61; go_must (refine (ops_any (H.out.stay (StayC.bel (by exact (by repeat (first | exact Below.refl _ _ | assumption | refine Below.setCell ?_ (by first | (simp; done) | (simp; omega) | omega) _ | refine below_drewN ?_ _ | refine Below.drew ?_ | refine Below.alloc ?_ (by first | (simp; done) | (simp; omega) | omega) _))))) HI.out HK.out HL.out).mono ?_); rintro e w2 ⟨v, rfl, hn⟩; have HG := Lib.hid ((Blk.at_new (w := w) (t := 51) (cs := #[.int .i64 17, .int .i64 a, .string s, .int .i64 nn, .slice K km d]) rfl).bel hn.bel); obtain ⟨A6, c6, e6, hr6, -⟩ := Own.rd hn.own; rw [HOL.out] at e6 hr6; subst e6; have HRR := Lib.hid hr6; have HB : Hid (Below w.heap.size w w2) := Lib.hid (Below.trans (show Below w.heap.size w _ from (by repeat (first | exact Below.refl _ _ | assumption | refine Below.setCell ?_ (by first | (simp; done) | (simp; omega) | omega) _ | refine below_drewN ?_ _ | refine Below.drew ?_ | refine Below.alloc ?_ (by first | (simp; done) | (simp; omega) | omega) _))) (below_low hn.bel (by simp))); clear hn)
  have hg := HG.out
  have g0 := hg.cell 0
  have g4 := hg.cell 4
  have gl := hg.lt
  simp only [List.getElem?_toArray, List.getElem?_cons_zero, List.getElem?_cons_succ] at g0 g4
  clear hg p0 p1 p2 p3 p4
  obtain ⟨z, hzz⟩ : ∃ z, (opsOf T kids)[km - 1]? = some z := ⟨_, List.getElem?_eq_getElem (by have := HOL.out; have := HP.out; omega)⟩
  obtain ⟨b6, o6, rfl, hb6, q0⟩ := HRR.out.kid hzz (by omega)
  have HZ := Lib.hid hzz
  clear hzz
  go_wp2_with (go_at_call 62; go_must (refine (exprs_any (HRR.out.bel (by exact (by repeat (first | exact Below.refl _ _ | assumption | refine Below.setCell ?_ (by first | (simp; done) | (simp; omega) | omega) _ | refine below_drewN ?_ _ | refine Below.drew ?_ | refine Below.alloc ?_ (by first | (simp; done) | (simp; omega) | omega) _)))) HOL.out HX.out).mono ?_); rintro e w3 ⟨rfl, rfl⟩)
  go_ret
  exact ⟨rfl, by have := HB.out; have hs := this.size; exact (by repeat (first | exact Below.refl _ _ | assumption | refine Below.setCell ?_ (by first | (simp; done) | (simp; omega) | omega) _ | refine below_drewN ?_ _ | refine Below.drew ?_ | refine Below.alloc ?_ (by first | (simp; done) | (simp; omega) | omega) _))⟩

theorem stmt42_any (w : World) : Calls Tryd.prog 87 #[.int .i64 42] w fun e w' => e = .returned (.bool true) ∧ w' = w := by
  go_enter Tryd.func87, Tryd.ntmps87
  go_wp2_with fail
  go_ret
  exact ⟨rfl, rfl⟩
theorem stmts42_any {w : World} {A : Option Addr} {c : Nat} (h : Rd w A 1 c 1 (ics [42])) : Calls Tryd.prog 64 #[.slice A 1 c] w fun e w' => e = .returned (.bool true) ∧ w' = w := by
  have H := Lib.hid h
  clear h
  go_enter Tryd.func64, Tryd.ntmps64
  go_wp2_with fail
  go_loopw [3, 4] (fun v3 v4 wr => ∃ i : Nat, i ≤ 1 ∧ v3 = .int .i64 i ∧ wr = w) (fun v3 _ _ => 1 - (intOf v3).toNat)
  case atStart => exact ⟨0, Nat.zero_le _, rfl, rfl⟩
  case round =>
    obtain ⟨i, hi, rfl, rfl⟩ := hrel
    by_cases hlt : i < 1
    · have h42 : ([42] : List Int)[i]? = some 42 := by
        have : i = 0 := by omega
        subst this
        rfl
      obtain ⟨b, o, rfl, hb, p0⟩ := H.out.kid h42 (by omega)
      go_wp2_with (go_at_call 87; go_must (refine (stmt42_any _).mono ?_); rintro e w2 ⟨rfl, rfl⟩)
      go_round
      case rel => exact ⟨i + 1, by omega, by go_num, by first | trivial | rfl⟩
      case measure => simp [intOf]; omega
    · go_wp2_with fail
      go_ret
      exact ⟨rfl, rfl⟩
set_option maxRecDepth 100000 in
set_option maxHeartbeats 4000000 in
theorem node_40 {w : World} {A : Option Addr} {n c i km : Nat} {T : List NodeD} {a nn : Int} {s : ByteArray} {kids : List Int} (h : RdT w A n c T) (hi : T[i]? = some ⟨40, a, s, nn, kids⟩) (hk : ∀ k ∈ kids, 0 ≤ k ∧ k < (i : Int)) (hx : opsOf T kids = [42]) : Calls Tryd.prog 41 #[.slice A n c, .int .i64 i] w fun e w' => e = .returned (.bool true) ∧ Below w.heap.size w w' := by
  have H := Lib.hid h
  have HI := Lib.hid hi
  have HK := Lib.hid hk
  have hl : kids.length ≤ 4398046511103 := by have := congrArg List.length hx; simp [opsOf] at this; omega
  have HL := Lib.hid hl
  have HX := Lib.hid hx
  have hc : kids.length = 1 := by have := congrArg List.length hx; simpa [opsOf] using this
  have hbig : n ≤ 9223372036854775807 := h.le
  have hin : i < n := by have := (List.getElem?_eq_some_iff.1 hi).1; have := h.len; omega
  obtain ⟨b, o, K, d, rfl, hb, p0, p1, p2, p3, p4, -⟩ := h.nth hi
  simp only at p0 p1 p2 p3 p4
  rw [hc] at p4
  clear h hi hk hx hc hl
  go_enter Tryd.func41, Tryd.ntmps41
  go_upto_region 4 with (go_at_call 61; go_must (refine (ops_any (H.out.stay (StayC.bel (by exact (by repeat (first | exact Below.refl _ _ | assumption | refine Below.setCell ?_ (by first | (simp; done) | (simp; omega) | omega) _ | refine below_drewN ?_ _ | refine Below.drew ?_ | refine Below.alloc ?_ (by first | (simp; done) | (simp; omega) | omega) _))))) HI.out HK.out HL.out).mono ?_); rintro e w2 ⟨v, rfl, hn⟩; have HG := Lib.hid ((Blk.at_new (w := w) (t := 51) (cs := #[.int .i64 40, .int .i64 a, .string s, .int .i64 nn, .slice K 1 d]) rfl).bel hn.bel); obtain ⟨A6, c6, e6, hr6, -⟩ := Own.rd hn.own; rw [HX.out] at e6 hr6; simp only [List.length_cons, List.length_nil, Nat.zero_add] at e6 hr6; subst e6; have HRR := Lib.hid hr6; have HB : Hid (Below w.heap.size w w2) := Lib.hid (Below.trans (show Below w.heap.size w _ from (by repeat (first | exact Below.refl _ _ | assumption | refine Below.setCell ?_ (by first | (simp; done) | (simp; omega) | omega) _ | refine below_drewN ?_ _ | refine Below.drew ?_ | refine Below.alloc ?_ (by first | (simp; done) | (simp; omega) | omega) _))) (below_low hn.bel (by simp))); clear hn)
  have hg := HG.out
  have g0 := hg.cell 0
  have g4 := hg.cell 4
  have gl := hg.lt
  simp only [List.getElem?_toArray, List.getElem?_cons_zero, List.getElem?_cons_succ] at g0 g4
  clear hg p0 p1 p2 p3 p4
  obtain ⟨b6, o6, rfl, hb6, q0⟩ := HRR.out.kid (show ([42] : List Int)[0]? = some 42 from rfl) (by omega)
  simp only [Nat.add_zero] at q0
  go_wp2_with (go_at_call 64; go_must (refine (stmts42_any (HRR.out.bel (by exact (by repeat (first | exact Below.refl _ _ | assumption | refine Below.setCell ?_ (by first | (simp; done) | (simp; omega) | omega) _ | refine below_drewN ?_ _ | refine Below.drew ?_ | refine Below.alloc ?_ (by first | (simp; done) | (simp; omega) | omega) _))))).mono ?_); rintro e w3 ⟨rfl, rfl⟩)
  go_ret
  exact ⟨rfl, by have := HB.out; have hs := this.size; exact (by repeat (first | exact Below.refl _ _ | assumption | refine Below.setCell ?_ (by first | (simp; done) | (simp; omega) | omega) _ | refine below_drewN ?_ _ | refine Below.drew ?_ | refine Below.alloc ?_ (by first | (simp; done) | (simp; omega) | omega) _))⟩
set_option maxRecDepth 100000 in
set_option maxHeartbeats 4000000 in
theorem node_21 {w : World} {A : Option Addr} {n c i km : Nat} {T : List NodeD} {a nn : Int} {s : ByteArray} {kids : List Int} (h : RdT w A n c T) (hi : T[i]? = some ⟨21, a, s, nn, kids⟩) (hk : ∀ k ∈ kids, 0 ≤ k ∧ k < (i : Int)) (hl : km ≤ 4398046511103) (hkm : kids.length = km) {ps : List Int} {k9 z : Int} {late : Bool} (hc : kids = ps ++ [k9]) (hp : ParOk T ps late) (hz : (opsOf T kids)[km - 1]? = some z) (hz1 : 1 ≤ z ∧ z ≤ 21) : Calls Tryd.prog 41 #[.slice A n c, .int .i64 i] w fun e w' => e = .returned (.bool true) ∧ Below w.heap.size w w' := by
  have H := Lib.hid h
  have HI := Lib.hid hi
  have HK := Lib.hid hk
  have HL : Hid (kids.length ≤ 4398046511103) := Lib.hid (by omega)
  have HC := Lib.hid hc
  have HPO := Lib.hid hp
  have hbig : n ≤ 9223372036854775807 := h.le
  have hin : i < n := by have := (List.getElem?_eq_some_iff.1 hi).1; have := h.len; omega
  have hpos : 0 < km := by have := congrArg List.length hc; simp at this; omega
  obtain ⟨b, o, K, d, rfl, hb, p0, p1, p2, p3, p4, hrk⟩ := h.nth hi
  simp only at p0 p1 p2 p3 p4
  rw [hkm] at p4
  have hol : (opsOf T kids).length = km := by simpa [opsOf] using hkm
  have HOL := Lib.hid hol
  have hrk2 : Rd w K km d 1 (ics (ps ++ [k9])) := by rw [← hc, ← hkm]; exact hrk
  have hkm2 : (ps ++ [k9]).length = km := by rw [← hc]; exact hkm
  have HRK := Lib.hid hrk2
  have HKM := Lib.hid hkm2
  have z0 : decide (0 < km) = true := decide_eq_true hpos
  have z1 : decide ((0 : Int) < (km : Int)) = true := decide_eq_true (by omega)
  have z2 : ((km : Int) == 0) = false := by rw [beq_eq_false_iff_ne]; omega
  have hw : IntKind.i64.wrap ((km : Int) - 1) = ((km - 1 : Nat) : Int) := by rw [IntWalk.i64_in _ (by omega)]; omega
  have hlt : km - 1 < km := by omega
  have HP := Lib.hid hpos
  have hz9 : exprB3 z = true := by unfold exprB3; simp; omega
  have HZB := Lib.hid hz9
  have hzz : (opsOf T kids)[km - 1]? = some z := hz
  have HZ := Lib.hid hzz
  clear h hi hk hkm hkm2 hrk2 hol hpos hc hp hz hz1 hz9 hzz hrk
  go_enter Tryd.func41, Tryd.ntmps41
  go_upto_region 4 with (go_at_call 61; go_must (refine (ops_any (H.out.stay (StayC.bel (by exact (by repeat (first | exact Below.refl _ _ | assumption | refine Below.setCell ?_ (by first | (simp; done) | (simp; omega) | omega) _ | refine below_drewN ?_ _ | refine Below.drew ?_ | refine Below.alloc ?_ (by first | (simp; done) | (simp; omega) | omega) _))))) HI.out HK.out HL.out).mono ?_); rintro e w2 ⟨v, rfl, hn⟩; have HG := Lib.hid ((Blk.at_new (w := w) (t := 51) (cs := #[.int .i64 21, .int .i64 a, .string s, .int .i64 nn, .slice K km d]) rfl).bel hn.bel); obtain ⟨A6, c6, e6, hr6, -⟩ := Own.rd hn.own; rw [HOL.out] at e6 hr6; subst e6; have HRR := Lib.hid hr6; have HB : Hid (Below w.heap.size w w2) := Lib.hid (Below.trans (show Below w.heap.size w _ from (by repeat (first | exact Below.refl _ _ | assumption | refine Below.setCell ?_ (by first | (simp; done) | (simp; omega) | omega) _ | refine below_drewN ?_ _ | refine Below.drew ?_ | refine Below.alloc ?_ (by first | (simp; done) | (simp; omega) | omega) _))) (below_low hn.bel (by simp))); clear hn)
  have hg := HG.out
  have g0 := hg.cell 0
  have g4 := hg.cell 4
  have gl := hg.lt
  simp only [List.getElem?_toArray, List.getElem?_cons_zero, List.getElem?_cons_succ] at g0 g4
  clear hg p0 p1 p2 p3 p4
  obtain ⟨b6, o6, rfl, hb6, q0⟩ := HRR.out.kid HZ.out (by omega)
  go_wp2_with first | (go_at_call 63; go_must (refine (params3_any (H.out.stay (StayC.bel (Below.trans (show Below w.heap.size w w2 from HB.out) (by exact (by repeat (first | exact Below.refl _ _ | assumption | refine Below.setCell ?_ (by first | (simp; done) | (simp; omega) | omega) _ | refine below_drewN ?_ _ | refine Below.drew ?_ | refine Below.alloc ?_ (by first | (simp; done) | (simp; omega) | omega) _)))))) (HRK.out.bel (Below.trans (show Below w.heap.size w w2 from HB.out) (by exact (by repeat (first | exact Below.refl _ _ | assumption | refine Below.setCell ?_ (by first | (simp; done) | (simp; omega) | omega) _ | refine below_drewN ?_ _ | refine Below.drew ?_ | refine Below.alloc ?_ (by first | (simp; done) | (simp; omega) | omega) _))))) HKM.out HPO.out).mono ?_); rintro e w3 ⟨rfl, hb3⟩) | (go_at_call 39; go_must (refine (expr3_any z _).mono ?_); rintro e w4 ⟨rfl, rfl⟩; rw [HZB.out])
  go_ret
  exact ⟨rfl, Below.trans HB.out (below_low hb3 HB.out.size)⟩

/-- texts of a right node -/
def TxtOk (x : NodeD) : Prop := x.s.size ≤ 65536 ∧ (x.n = 0 ∨ x.op = 4 ∧ 0 ≤ x.n) ∧
  (x.op = 5 ∨ ((x.op = 6 ∨ x.op = 18 ∨ x.op = 22) ∧ nameB x.s = true) ∨ (x.op = 12 ∧ x.s ∈ binaries) ∨ (x.op = 13 ∧ x.s ∈ comparers) ∨
    (x.op ≠ 5 ∧ x.op ≠ 6 ∧ x.op ≠ 18 ∧ x.op ≠ 22 ∧ x.op ≠ 12 ∧ x.op ≠ 13 ∧ x.s = ⟨#[]⟩))
/-- a node of a parse, or one of the two behind it -/
def ShapeR (T : List NodeD) (op : Int) (kids : List Int) : Prop := ShapeOk T op kids ∨ (op = 42 ∧ kids.length = 1 ∧ ∀ k ∈ kids, XAt T k) ∨ (op = 40 ∧ opsOf T kids = [42])
theorem opsOf_x {T : List NodeD} {kids : List Int} (h : ∀ k ∈ kids, XAt T k) : ∀ x ∈ opsOf T kids, 1 ≤ x ∧ x ≤ 21 := by
  intro x hx
  obtain ⟨k, hk, rfl⟩ := List.mem_map.1 hx
  obtain ⟨kn, nd, rfl, h1, h2⟩ := h k hk
  rw [Int.toNat_natCast, h1]
  exact h2
theorem opsOf_lastx {T : List NodeD} {ps : List Int} {k : Int} {km : Nat} (h : XAt T k) (hl : (ps ++ [k]).length = km) : ∃ z, (opsOf T (ps ++ [k]))[km - 1]? = some z ∧ 1 ≤ z ∧ z ≤ 21 := by
  obtain ⟨kn, nd, rfl, h1, h2⟩ := h
  refine ⟨nd.op, ?_, h2⟩
  have : km - 1 = ps.length := by simp at hl; omega
  rw [this]
  simp [opsOf, h1]
theorem node_any {w : World} {A : Option Addr} {n c i : Nat} {T : List NodeD} {x : NodeD} (h : RdT w A n c T) (hi : T[i]? = some x) (hk : ∀ k ∈ x.kids, 0 ≤ k ∧ k < (i : Int)) (hl : x.kids.length ≤ 4398046511103) (hs : ShapeR T x.op x.kids) : Calls Tryd.prog 41 #[.slice A n c, .int .i64 i] w fun e w' => e = .returned (.bool true) ∧ Below w.heap.size w w' := by
  obtain ⟨op, a, s, nn, kids⟩ := x
  simp only at hk hl hs
  rcases hs with (⟨h1, h2, h3⟩ | ⟨h1, h2⟩ | ⟨h1, h2, h3⟩ | ⟨h1, h2, h3⟩ | ⟨h1, h2, h3⟩ | ⟨h1, h2, h3⟩ | ⟨h1, h2, h3⟩ | ⟨h1, ps, k, late, h2, h3, h4⟩ | ⟨h1, h2, h3⟩) | ⟨h1, h2, h3⟩ | ⟨h1, h2⟩
  · have hx : ∀ y ∈ opsOf T kids, 1 ≤ y ∧ y ≤ 21 := by subst h3; intro y hy; cases hy
    have h0 : kids.length = 0 := by rw [h3]; rfl
    have : op = 1 ∨ op = 2 ∨ op = 3 ∨ op = 4 ∨ op = 5 ∨ op = 6 := by omega
    rcases this with rfl | rfl | rfl | rfl | rfl | rfl
    · exact node_1 h hi hk hx h0
    · exact node_2 h hi hk hx h0
    · exact node_3 h hi hk hx h0
    · exact node_4 h hi hk hx h0
    · exact node_5 h hi hk hx h0
    · exact node_6 h hi hk hx h0
  · have hx := opsOf_x h2
    by_cases h0 : kids.length = 0
    · rcases h1 with rfl | rfl
      · exact node_7z h hi hk hx h0
      · exact node_8z h hi hk hx h0
    · rcases h1 with rfl | rfl
      · exact node_7p h hi hk hl hx rfl (by omega)
      · exact node_8p h hi hk hl hx rfl (by omega)
  · have hx := opsOf_x h3
    subst h1
    by_cases h0 : kids.length = 0
    · exact node_9z h hi hk hx h0
    · exact node_9p h hi hk hl hx rfl (by omega) h2
  · have hx := opsOf_x h3
    rcases h1 with rfl | rfl | rfl
    · exact node_10 h hi hk hx h2
    · exact node_11 h hi hk hx h2
    · exact node_18 h hi hk hx h2
  · have hx := opsOf_x h3
    rcases h1 with rfl | rfl | rfl | rfl | rfl
    · exact node_12 h hi hk hx h2
    · exact node_13 h hi hk hx h2
    · exact node_14 h hi hk hx h2
    · exact node_15 h hi hk hx h2
    · exact node_19 h hi hk hx h2
  · have hx := opsOf_x h3
    rcases h1 with rfl | rfl
    · exact node_16 h hi hk hx h2
    · exact node_20 h hi hk hx h2
  · have hx := opsOf_x h3
    subst h1
    exact node_17p h hi hk hl hx rfl (by omega)
  · subst h1
    obtain ⟨z, hz, hz1⟩ := opsOf_lastx (km := kids.length) h4 (by rw [h2])
    exact node_21 h hi hk hl rfl h2 h3 (h2 ▸ hz) hz1
  · have hx := opsOf_x h3
    subst h1
    have : kids.length = 0 ∨ kids.length = 1 := by omega
    rcases this with h0 | h0
    · exact node_22a h hi hk hx h0
    · exact node_22b h hi hk hx h0
  · subst h1
    exact node_42 h hi hk (opsOf_x h3) h2
  · subst h1
    exact node_40 (km := 0) h hi hk h2
theorem shape_ops {T : List NodeD} {op : Int} {kids : List Int} (h : ShapeR T op kids) : (1 ≤ op ∧ op ≤ 22) ∨ op = 40 ∨ op = 42 := by
  rcases h with (⟨h1, h2, _⟩ | ⟨h1, _⟩ | ⟨h1, _⟩ | ⟨h1, _⟩ | ⟨h1, _⟩ | ⟨h1, _⟩ | ⟨h1, _⟩ | ⟨h1, _⟩ | ⟨h1, _⟩) | ⟨h1, _⟩ | ⟨h1, _⟩ <;> omega
theorem texts_any {x : NodeD} (A : Option Addr) (m c : Nat) (ho : (1 ≤ x.op ∧ x.op ≤ 22) ∨ x.op = 40 ∨ x.op = 42) (h : TxtOk x) (w : World) : Calls Tryd.prog 40 #[.agg #[.int .i64 x.op, .int .i64 x.at_, .string x.s, .int .i64 x.n, .slice A m c]] w fun e w' => e = .returned (.bool true) ∧ Below w.heap.size w w' := by
  obtain ⟨op, a, s, nn, kids⟩ := x
  obtain ⟨h1, h2, h3⟩ := h
  simp only at h1 h2 h3 ho ⊢
  have hn : op ≠ 4 → nn = 0 := fun h => by rcases h2 with h2 | h2; exact h2; exact absurd h2.1 h
  rcases h3 with rfl | ⟨rfl | rfl | rfl, h3⟩ | ⟨rfl, h3⟩ | ⟨rfl, h3⟩ | ⟨e5, e6, e18, e22, e12, e13, rfl⟩
  · cases hn (by decide); exact texts_5 a A m c s h1 w
  · cases hn (by decide); exact texts_6 a A m c s h1 h3 w
  · cases hn (by decide); exact texts_18 a A m c s h1 h3 w
  · cases hn (by decide); exact texts_22 a A m c s h1 h3 w
  · cases hn (by decide); exact texts_12 a A m c s h3 w
  · cases hn (by decide); exact texts_13 a A m c s h3 w
  · by_cases h4 : op = 4
    · subst h4
      exact texts_4 a A m c nn (by rcases h2 with h2 | h2 <;> omega) w
    · cases hn h4
      have : op = 1 ∨ op = 2 ∨ op = 3 ∨ op = 7 ∨ op = 8 ∨ op = 9 ∨ op = 10 ∨ op = 11 ∨ op = 14 ∨ op = 15 ∨ op = 16 ∨ op = 17 ∨ op = 19 ∨ op = 20 ∨ op = 21 ∨ op = 40 ∨ op = 42 := by omega
      rcases this with rfl | rfl | rfl | rfl | rfl | rfl | rfl | rfl | rfl | rfl | rfl | rfl | rfl | rfl | rfl | rfl | rfl
      · exact texts_1 a A m c w
      · exact texts_2 a A m c w
      · exact texts_3 a A m c w
      · exact texts_7 a A m c w
      · exact texts_8 a A m c w
      · exact texts_9 a A m c w
      · exact texts_10 a A m c w
      · exact texts_11 a A m c w
      · exact texts_14 a A m c w
      · exact texts_15 a A m c w
      · exact texts_16 a A m c w
      · exact texts_17 a A m c w
      · exact texts_19 a A m c w
      · exact texts_20 a A m c w
      · exact texts_21 a A m c w
      · exact texts_40 a A m c w
      · exact texts_42 a A m c w

def cntL (n : Nat) (ks : List Int) : List Int := (List.range n).map fun (j : Nat) => ((ks.count (j : Int) : Nat) : Int)
theorem cntL_len (n : Nat) (ks : List Int) : (cntL n ks).length = n := by simp [cntL]
theorem cntL_at {n j : Nat} (ks : List Int) (h : j < n) : (cntL n ks)[j]? = some ((ks.count (j : Int) : Nat) : Int) := by
  unfold cntL
  rw [List.getElem?_map, List.getElem?_range h]
  rfl
theorem cntL_nil (n : Nat) : cntL n [] = List.replicate n 0 := by
  apply List.ext_getElem?
  intro j
  by_cases h : j < n
  · rw [cntL_at [] h, List.getElem?_replicate_of_lt h]
    rfl
  · rw [List.getElem?_eq_none (by simp [cntL]; omega), List.getElem?_eq_none (by simp; omega)]
theorem cntL_snoc {n j : Nat} (ks : List Int) (h : j < n) : (cntL n ks).set j (((ks.count (j : Int) : Nat) : Int) + 1) = cntL n (ks ++ [(j : Int)]) := by
  apply List.ext_getElem?
  intro i
  by_cases hi : i < n
  · rw [cntL_at _ hi]
    by_cases e : j = i
    · subst e
      rw [List.getElem?_set_self (by rw [cntL_len]; exact h), List.count_append]
      simp
    · rw [List.getElem?_set_ne e, cntL_at _ hi, List.count_append, List.count_singleton]
      have : ((j : Int) == (i : Int)) = false := by rw [beq_eq_false_iff_ne]; omega
      simp [this]
  · rw [List.getElem?_eq_none (by rw [List.length_set, cntL_len]; omega), List.getElem?_eq_none (by rw [cntL_len]; omega)]

/-- a right tree -/
structure RightT (T : List NodeD) : Prop where
  kids : KidsOk T
  len : ∀ (i : Nat) (x : NodeD), T[i]? = some x → x.kids.length ≤ 4398046511103
  shape : ∀ (i : Nat) (x : NodeD), T[i]? = some x → ShapeR T x.op x.kids
  text : ∀ (i : Nat) (x : NodeD), T[i]? = some x → TxtOk x
  top : ∀ (i : Nat) (x : NodeD), T[i]? = some x → (x.op = 40 ↔ i + 1 = T.length)
  deep : ∀ (i : Nat) (x : NodeD) (d : Int), T[i]? = some x → 1 ≤ x.op → x.op ≤ 21 → (dpL T)[i]? = some d → d ≤ 40
  use : ∀ i : Nat, (kidsAll T).count (i : Int) = if i + 1 < T.length then 1 else 0
  pos : 0 < T.length
theorem RightT.no41 {T : List NodeD} (h : RightT T) : ∀ x ∈ T, x.op ≠ 41 := by
  intro x hx e
  obtain ⟨i, hi⟩ := List.mem_iff_getElem?.1 hx
  have := shape_ops (h.shape i x hi)
  omega
/-- no count is ever more than 1 -/
theorem RightT.most {T : List NodeD} (h : RightT T) {i : Nat} {x : NodeD} (hi : T[i]? = some x) {k : Nat} {j : Nat} (hk : x.kids[k]? = some (j : Int)) : (kidsAll (T.take i) ++ x.kids.take k).count (j : Int) = 0 := by
  have h1 := h.use j
  have h2 : (kidsAll T).count (j : Int) ≤ 1 := by rw [h1]; split <;> omega
  have e : T = T.take i ++ x :: T.drop (i + 1) := by
    obtain ⟨hl, he⟩ := List.getElem?_eq_some_iff.1 hi
    rw [← he, List.getElem_cons_drop, List.take_append_drop]
  have e2 : x.kids = x.kids.take k ++ (j : Int) :: x.kids.drop (k + 1) := by
    obtain ⟨hl, he⟩ := List.getElem?_eq_some_iff.1 hk
    rw [← he, List.getElem_cons_drop, List.take_append_drop]
  have h3 : (kidsAll T).count (j : Int) = (kidsAll (T.take i) ++ x.kids.take k).count (j : Int) + ((j : Int) :: x.kids.drop (k + 1)).count (j : Int) + (kidsAll (T.drop (i + 1))).count (j : Int) := by
    rw [e]
    unfold kidsAll
    rw [List.flatMap_append, List.flatMap_cons, List.count_append, List.count_append]
    rw [← e]
    conv => lhs; rw [e2]
    rw [List.count_append, List.count_append]
    omega
  rw [List.count_cons_self] at h3
  omega

end Go.Proofs.YtjdcicopjipmnaaDoor
