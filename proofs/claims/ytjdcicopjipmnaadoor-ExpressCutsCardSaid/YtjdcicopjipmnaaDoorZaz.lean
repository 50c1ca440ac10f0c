/- The row's end for a law that answers true and leaves all that there was as it was, whatever its arguments: they need not be opened for that. Over any program. What the row lists of Go's library, and a start that fits. Arguments opened: arrays of two and of three numbers. Arguments opened: a row of numbers. -/
import Derived.ProofKit
import Derived.OpenVars
import Derived.Lib.SmallJoins
import Derived.Deep.Slices
import Derived.Deep.Fields
import Derived.OpenShut
import Derived.Test.YtjdcicopjipmnaaDoorRows
import Derived.LaidMore
import Derived.Stop.Joined
import Derived.Stop.LaidErr
import Derived.Lib.LaidTab
import Derived.Test.YtjdcicopjipmnaaDoorZab
import Derived.Test.YtjdcicopjipmnaaDoorZag
namespace Go.Proofs.YtjdcicopjipmnaaDoor
set_option maxRecDepth 100000
section
open Go.ChangeShapes Go.WideShapes Go.ChangeAt Go.RowKit Go.WideElems Go.Deep
section
variable {H : Type} {enc : TypeId × Value → H} {P : Program}
theorem trodAll_stays (hl : laidOutB P = true) {W W' : World} (hb : Below W.heap.size W W') {sp : Nat → Bool} :
  ∀ {ts : List TypeId} {vs : List Value} {ds : List (DataW H)} {ps : List MemPlace}, (∀ t ∈ ts, P.readableRec t = true ∧ t < P.types.size) → (∀ p ∈ ps, p.block < W.heap.size) → (∀ p ∈ ps, sp p.block = true) →
   DataW.TrodAll enc P W 0 (fun _ => true) true ts vs ds ps → DataW.TrodAll enc P W' 0 sp true ts vs ds ps
 | [], [], [], _, _, _, _, h => h
 | [], [], _ :: _, _, _, _, _, h => h.elim
 | [], _ :: _, _, _, _, _, _, h => h.elim
 | _ :: _, [], _, _, _, _, _, h => h.elim
 | _ :: _, _ :: _, [], _, _, _, _, h => h.elim
 | t :: ts, v :: vs, d :: ds, ps, ht, hp, hs, h => by
  obtain ⟨p, q, ⟨fuel, h1⟩, h2, rfl⟩ := h
  have ht0 := ht t (by simp)
  refine ⟨p, q, ⟨fuel, DataW.trod_stays (kids_book hl ht0.1) (book_sized ht0.1) (fun h => by cases h) ⟨ht0.2, book_self t⟩ h1 (fun x hx => hb.same (hp x (by simp [hx]))) (fun x hx => hs x (by simp [hx]))⟩,
   trodAll_stays hl hb (fun t' h' => ht t' (by simp [h'])) (fun x hx => hp x (by simp [hx])) (fun x hx => hs x (by simp [hx])) h2, rfl⟩
theorem law_post {f : Func} {s : ChangeSpec} {apart fresh handsOn again : Bool} {W W' : World} {args : Array Value} {ds gs : List (DataW H)} {before : List MemPlace} {tb : TypeId}
  (hl : laidOutB P = true) (hts : ∀ t ∈ f.params.toList, P.readableRec t = true ∧ t < P.types.size) (hres : f.resultTypes = #[tb]) (htb : P.underlying tb = some .bool)
  (hvars : s.vars = []) (hfn : ∀ l : List (DataW H), l.length = f.params.size → s.fn H l = { results := [.lit (.bool true)], args := l })
  (hW : DataW.Whole enc P f.params.toList s.vars apart W args.toList ds gs before) (hb : Below W.heap.size W W') :
  s.post enc P f apart fresh handsOn again W args (.bool true) W' := by
 have hlt : ∀ p ∈ before, p.block < W.heap.size := fun p hp => hW.lt p hp
 have hold : ∀ p ∈ before, (fun b => decide (b < W.heap.size)) p.block = true := fun p hp => by simpa using hlt p hp
 have hW' := hW
 obtain ⟨p, q, hA, hV, rfl, hz, hn⟩ := hW'
 rw [hvars] at hV
 obtain ⟨rfl, rfl⟩ := trodVars_none hV
 have hlen : ∀ {ts : List TypeId} {vs : List Value} {ds : List (DataW H)} {ps : List MemPlace}, DataW.TrodAll enc P W 0 (fun _ => true) true ts vs ds ps → ds.length = ts.length := by
  intro ts
  induction ts with
  | nil => intro vs ds ps h; cases vs <;> cases ds <;> first | rfl | exact h.elim
  | cons t ts ih =>
   intro vs ds ps h
   cases vs with
   | nil => exact h.elim
   | cons v vs =>
    cases ds with
    | nil => exact h.elim
    | cons d ds =>
     obtain ⟨_, _, _, h2, _⟩ := h
     simp [ih h2]
 have hfn' := hfn (ds ++ []) (by rw [List.append_nil, hlen hA]; simp)
 have hres' : ∀ (b : Nat) (sp : Nat → Bool) (hd : Bool), DataW.TrodAll enc P W' b sp hd f.resultTypes.toList ((Value.bool true).resultList f.resultTypes.size) (s.fn H (ds ++ [])).results [] := by
  intro b sp hd
  rw [hfn', hres]
  exact trodAll_mk1 (shut_bool htb _)
 have hargs : ∀ sp : Nat → Bool, (∀ x ∈ p ++ [], sp x.block = true) → DataW.TrodAll enc P W' 0 sp true f.params.toList args.toList (s.fn H (ds ++ [])).args p := by
  intro sp hs
  rw [hfn', List.append_nil]
  exact trodAll_stays hl hb hts (fun x hx => hlt x (by simp [hx])) (fun x hx => hs x (by simp [hx])) hA
 have hvars' : ∀ sp : Nat → Bool, DataW.TrodVars enc P W' sp s.vars (s.fn H (ds ++ [])).vars [] := by
  intro sp
  rw [hfn', hvars]
  rfl
 refine ⟨ds, [], p ++ [], [], p, [], hW, hres' _ _ _, hargs _ hold, hvars' _, World.keptBut_mono (fun x hx => ⟨hx, ?_⟩) (hb.frame (· ∈ p ++ [])), fun _ => ?_⟩
 ·exact Or.inr (by simpa using hx)
 ·refine ⟨?_, _, _, ([] ++ p) ++ [], ⟨[] ++ p, [], trodAll_append (hargs _ (fun _ _ => rfl)) (hres' _ _ _), hvars' _, rfl, ?_, ?_⟩, ?_⟩
  ·exact ok_one hres rfl (okWide_bool_mk htb _)
  ·intro b off hp
   have hin : MemPlace.cell b off ∈ p ++ [] := by simpa using hp
   rw [hb.frozen (hlt _ hin)]
   exact hz b off hin
  ·intro ha
   have := hn ha
   simpa using this
  ·intro x hx _
   simpa using hx
end
end
section
open Go.ChangeShapes Go.WideShapes Go.ChangeAt Go.RowKit Go.WideElems Go.Deep
set_option linter.unusedVariables false
set_option linter.unusedSimpArgs false
theorem Tryd.laidOut : laidOutB Tryd.prog = true := by kernel_rfl
theorem Tryd.own : ownKnob Tryd.prog.godebug = none := by kernel_rfl
abbrev laid2 : List (String × DataW Unit) := [("unicode.White_Space", Rows.laid_unicode_White_Space), ("strings.asciiSpace", Rows.laid_strings_asciiSpace)]
theorem gA : Tryd.prog.globalNamed "strings.asciiSpace" = some 0 := by kernel_rfl
theorem gAt : (Tryd.prog.globals[0]?).map (·.type) = some 118 := by kernel_rfl
theorem space_data : (Rows.laid_strings_asciiSpace : DataW Unit) = Lib.tabData .u8 Lib.asciiSpaceTab := by kernel_rfl
theorem asp_of_laid {W : World} (h : laidMetH Tryd.prog laid2 W) : Asp W := by
 rw [MakeChecks.laidMetH_plain _ _ _ (by kernel_rfl)] at h
 have h2 := laidMet.tail h
 rw [space_data] at h2
 exact Lib.tabIs_of_head gA gAt Tryd.underlying118 Tryd.underlying5 (by kernel_rfl) (by kernel_rfl) h2
theorem door_met (os : Os) (args : Array Value) : laidMetH Tryd.prog laid2 ((World.doorLaid Tryd.prog 48 os).forCall (fun _ _ => 0) ⟨#[], args, []⟩).memory :=
 laidMetH_of_parts3 (fuel := 8) (laidMet_of_run' 8 (by kernel_rfl) (by kernel_rfl)) (by kernel_rfl) (by kernel_rfl)
end
section
open Go.ChangeShapes Go.WideShapes Go.ChangeAt Go.RowKit Go.WideElems Go.Deep
section
variable {H : Type} {enc : TypeId × Value → H} {w : World} {base : Nat} {spare : Nat → Bool} {held : Bool} {r : Reach} {b0 : Nat} {v : Value} {d : DataW H} {p : List MemPlace} {t e : TypeId} {k : IntKind}
theorem open_arr2 (ht : Tryd.prog.underlying t = some (.array 2 e)) (he : Tryd.prog.underlying e = some (.int k)) (hct : Tryd.prog.cellsOf t = 2) (hce : Tryd.prog.cellsOf e = 1)
  (hv : Value.okWide Tryd.prog w r b0 t v) (h : DataW.Trod enc Tryd.prog w base spare held t v d p) : ∃ a b : Int, v = .agg #[.int k a, .int k b] ∧ (Lit.int k a).wf = true ∧ (Lit.int k b).wf = true := by
 simp only [Value.okWide, ht] at hv
 obtain ⟨cs, rfl, hs, _⟩ := hv
 obtain ⟨fuel, h⟩ := h
 obtain ⟨xs, m, _, _, _, hl, hi⟩ := DataW.trod_array ht h
 obtain ⟨l⟩ := cs
 have h0 := hi 0 (by omega)
 have h1 := hi 1 (by omega)
 rw [hce] at h0 h1
 match xs, hl with
 | [y0, y1], _ =>
  have hs2 : l.length = _ := hs.trans hct
  match l, hs2 with
  | [c0, c1], _ =>
   obtain ⟨a, e0, _, k0⟩ := DataW.trod_int he h0
   obtain ⟨b, e1, _, k1⟩ := DataW.trod_int he h1
   simp [Value.cells] at e0 e1
   exact ⟨a, b, by simp [e0, e1], k0, k1⟩
theorem und36 : Tryd.prog.underlying 36 = some (.array 2 5) := by kernel_rfl
theorem cell_ltT {w : World} {b o : Nat} {v : Value} (h : w.cell? ⟨b, o, none⟩ = some v) : b < w.heap.size := by
 unfold World.cell? at h
 split at h
 ·rename_i hh
  exact (Array.getElem?_eq_some_iff.1 hh).1
 ·cases h
theorem trod_rowT {e t : TypeId} {sz : Nat} {α : Type} {f : α → List Value} (ht : Tryd.prog.underlying t = some (.slice e)) (hsz : Tryd.prog.cellsOf e = sz) (hpos : 0 < sz)
  (hrd : ∀ {fuel : Nat} {cs : List Value} {x : DataW H × List MemPlace}, DataW.trod enc Tryd.prog w base spare held fuel e cs = some x → ∃ v : α, cs = f v)
  {fuel : Nat} {v : Value} {x : DataW H × List MemPlace} (h : DataW.trod enc Tryd.prog w base spare held fuel t [v] = some x) :
  ∃ (A : Option Addr) (n c : Nat) (xs : List α), v = .slice A n c ∧ xs.length = n ∧ Rd w A n c sz (xs.flatMap f) := by
 rcases open_slice ht h with ⟨e1, _⟩ | ⟨a, len, cap, m, n, D, Pl, e1, _, hl, hm, hmm, _, hi⟩
 ·injection e1 with e1
  exact ⟨none, 0, 0, [], e1, rfl, Rd.nil_.2 (by omega)⟩
 ·injection e1 with e1
  have hlm : len ≤ m := by rw [hmm]; split <;> omega
  have hex : ∀ i, i < len → ∃ u : α, (f u).length = sz ∧ ∀ j, j < sz → w.cell? (a.add (i * sz + j)) = (f u)[j]? := by
   intro i hi'
   obtain ⟨cs', hc, hy⟩ := hi i (by omega)
   rw [hsz] at hc
   obtain ⟨_, hcl, hat⟩ := World.cells?_some hc
   obtain ⟨u, rfl⟩ := hrd hy
   refine ⟨u, hcl, fun j hj => ?_⟩
   rw [← Go.Deep.add_add, hat j hj]
  have hxs : ∀ k, k ≤ len → ∃ xs : List α, xs.length = k ∧ (xs.flatMap f).length = k * sz ∧ ∀ j, j < k * sz → w.cell? (a.add j) = (xs.flatMap f)[j]? := by
   intro k
   induction k with
   | zero => exact fun _ => ⟨[], rfl, by simp, fun j hj => by simp at hj⟩
   | succ k ih =>
    intro hk
    obtain ⟨xs, h1, h2, h3⟩ := ih (by omega)
    obtain ⟨u, h4, h5⟩ := hex k (by omega)
    refine ⟨xs ++ [u], by simp [h1], by simp [h2, h4, Nat.succ_mul], fun j hj => ?_⟩
    rw [List.flatMap_append]
    by_cases hjk : j < k * sz
    ·rw [h3 j hjk, List.getElem?_append_left (by omega)]
    ·have h6 := h5 (j - k * sz) (by rw [Nat.succ_mul] at hj; omega)
     rw [show k * sz + (j - k * sz) = j from by omega] at h6
     rw [h6, List.getElem?_append_right (by omega), h2]
     simp
  obtain ⟨xs, h1, h2, h3⟩ := hxs len (Nat.le_refl _)
  refine ⟨some a, len, cap, xs, e1, h1, hl, by simpa [maxLen] using hm, h2, fun hn => ?_⟩
  have hall : ∀ j u, (xs.flatMap f)[j]? = some u → w.cell? (a.add j) = some u := by
   intro j u hu
   have hj : j < len * sz := by rw [← h2]; exact (List.getElem?_eq_some_iff.1 hu).1
   rw [h3 j hj, hu]
  have h0 : (xs.flatMap f)[0]? = some ((xs.flatMap f)[0]'(by rw [h2]; exact Nat.mul_pos hn hpos)) := List.getElem?_eq_getElem _
  have hc0 := hall 0 _ h0
  obtain ⟨b, o, sp⟩ := a
  cases sp with
  | some q =>
   exfalso
   revert hc0
   unfold World.cell? Addr.add
   split <;> (try split) <;> simp_all
  | none =>
   have hadd : ∀ j, (⟨b, o, none⟩ : Addr).add j = ⟨b, o + j, none⟩ := fun j => by unfold Addr.add; split <;> simp_all
   rw [hadd] at hc0
   exact ⟨b, o, rfl, cell_ltT hc0, fun j u hu => by rw [← hadd]; exact hall j u hu⟩
theorem cells39 : Tryd.prog.cellsOf 39 = 4 := by kernel_rfl
theorem cellsI4 : Tryd.prog.cellsOf 3 = 1 := by kernel_rfl
theorem cellsI64_4 : Tryd.prog.cellsOf 2 = 1 := by kernel_rfl
theorem cellsS4 : Tryd.prog.cellsOf 9 = 1 := by kernel_rfl
structure TokD.Ok (t : TokD) : Prop where
 k : (Lit.int .i64 t.k).wf = true
 at_ : (Lit.int .i64 t.at_).wf = true
 s : t.s.size ≤ maxLen
 n : (Lit.int .i64 t.n).wf = true
theorem trod_T {fuel : Nat} {cs : List Value} {x : DataW H × List MemPlace} (h : DataW.trod enc Tryd.prog w base spare held fuel 39 cs = some x) : ∃ v : { t : TokD // t.Ok }, cs = tcs v.1 := by
 obtain ⟨xs, n, _, _, hl, _, hf⟩ := DataW.trod_struct Tryd.underlying39 h
 rw [cells39] at hl
 match cs, hl with
 | [c0, c1, c2, c3], _ =>
  have h0 : DataW.trod enc Tryd.prog w base spare held n 3 (([c0, c1, c2, c3].drop 0).take (Tryd.prog.cellsOf 3)) = xs[0]? := hf 0 _ rfl
  have h1 : DataW.trod enc Tryd.prog w base spare held n 3 (([c0, c1, c2, c3].drop 1).take (Tryd.prog.cellsOf 3)) = xs[1]? := hf 1 _ rfl
  have h2 : DataW.trod enc Tryd.prog w base spare held n 9 (([c0, c1, c2, c3].drop 2).take (Tryd.prog.cellsOf 9)) = xs[2]? := hf 2 _ rfl
  have h3 : DataW.trod enc Tryd.prog w base spare held n 2 (([c0, c1, c2, c3].drop 3).take (Tryd.prog.cellsOf 2)) = xs[3]? := hf 3 _ rfl
  rw [cellsI4] at h0 h1
  rw [cellsS4] at h2
  rw [cellsI64_4] at h3
  have e : xs.length = 4 := by assumption
  match xs, e with
  | [y0, y1, y2, y3], _ =>
   obtain ⟨a, e0, _, k0⟩ := DataW.trod_int Tryd.underlying3 h0
   obtain ⟨b, e1, _, k1⟩ := DataW.trod_int Tryd.underlying3 h1
   obtain ⟨c, e2, _, k2⟩ := DataW.trod_string Tryd.underlying9 h2
   obtain ⟨d, e3, _, k3⟩ := DataW.trod_int Tryd.underlying2 h3
   simp at e0 e1 e2 e3
   refine ⟨⟨⟨a, b, c, d⟩, ⟨k0, k1, ?_, k3⟩⟩, by rw [e0, e1, e2, e3]; rfl⟩
   first | exact k2 | (simpa [Lit.wf] using k2)
theorem open_toks {r : Reach} {b0 : Nat} {v : Value} {d : DataW H} {p : List MemPlace} (hv : Value.okWide Tryd.prog w r b0 26 v) (h : DataW.Trod enc Tryd.prog w base spare held 26 v d p) : ∃ (A : Option Addr) (n c : Nat) (L : List TokD), v = .slice A n c ∧ Rd w A n c 4 (L.flatMap tcs) ∧ L.length = n ∧ ∀ t ∈ L, TokD.Ok t := by
 obtain ⟨fuel, h⟩ := h
 obtain ⟨A, n, c, rfl⟩ := okWide_slice Tryd.underlying26 hv
 obtain ⟨A', n', c', xs, e, hl, hr⟩ := trod_rowT (α := { t : TokD // t.Ok }) (f := fun v => tcs v.1) Tryd.underlying26 cells39 (by omega) trod_T h
 cases e
 refine ⟨A, n, c, xs.map Subtype.val, rfl, ?_, by simpa using hl, fun x hx => ?_⟩
 ·rw [List.flatMap_map]
  exact hr
 ·obtain ⟨y, _, rfl⟩ := List.mem_map.1 hx
  exact y.2
end
end
section
open Go.ChangeShapes Go.WideShapes Go.ChangeAt Go.RowKit Go.WideElems Go.Deep
section
variable {H : Type} {enc : TypeId × Value → H} {w : World} {base : Nat} {spare : Nat → Bool} {held : Bool}
theorem trod_I {fuel : Nat} {cs : List Value} {x : DataW H × List MemPlace} (h : DataW.trod enc Tryd.prog w base spare held fuel 3 cs = some x) : ∃ v : { n : Int // (Lit.int .i64 n).wf = true }, cs = [Value.int .i64 v.1] := by
 obtain ⟨a, e0, _, k0⟩ := DataW.trod_int Tryd.underlying3 h
 exact ⟨⟨a, k0⟩, e0⟩
theorem shape_lt {b : Nat} {x : TypeId × Nat} (h : w.shape? b = some x) : b < w.heap.size := by
 unfold World.shape? at h
 split at h
 ·rename_i hh
  exact (Array.getElem?_eq_some_iff.1 hh).1
 ·cases h
theorem open_ints {r : Reach} {b0 : Nat} {v : Value} {d : DataW H} {p : List MemPlace} (hv : Value.okWide Tryd.prog w r b0 22 v) (h : DataW.Trod enc Tryd.prog w base spare held 22 v d p) : ∃ (A : Option Addr) (n c : Nat) (S : List Int), v = .slice A n c ∧ Rd w A n c 1 (ics S) ∧ S.length = n ∧ (∀ x ∈ S, -9223372036854775808 ≤ x ∧ x ≤ 9223372036854775807) ∧ ∀ b o, A = some ⟨b, o, none⟩ → b < w.heap.size := by
 obtain ⟨fuel, h⟩ := h
 have hv0 := hv
 obtain ⟨A, n, c, rfl⟩ := okWide_slice Tryd.underlying22 hv
 obtain ⟨A', n', c', xs, e, hl, hr⟩ := trod_rowT (α := { n : Int // (Lit.int .i64 n).wf = true }) (f := fun v => [Value.int .i64 v.1]) Tryd.underlying22 cellsI4 (by omega) trod_I h
 cases e
 refine ⟨A, n, c, xs.map Subtype.val, rfl, ?_, by simpa using hl, fun x hx => ?_, fun b o e => ?_⟩
 ·have e2 : ics (xs.map Subtype.val) = xs.flatMap fun v => [Value.int .i64 v.1] := by
   clear hr hl h
   induction xs with
   | nil => rfl
   | cons x xs ih => simp only [List.map_cons, ics, List.flatMap_cons] at ih ⊢; rw [← ih]; rfl
  rw [e2]
  exact hr
 ·obtain ⟨y, _, rfl⟩ := List.mem_map.1 hx
  have h2 : (decide (-9223372036854775808 ≤ y.1) && decide (y.1 ≤ 9223372036854775807)) = true := y.2
  simpa using h2
 ·subst e
  simp only [Value.okWide, Tryd.underlying22, Cell.okWide, Cell.ok] at hv0
  obtain ⟨_, _, _, _, row, cells, hs, _⟩ := hv0
  exact shape_lt hs
end
end
end Go.Proofs.YtjdcicopjipmnaaDoor
