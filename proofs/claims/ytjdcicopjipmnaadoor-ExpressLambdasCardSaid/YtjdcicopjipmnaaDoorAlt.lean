/- All: an iterator over what is below a node. -/
import Derived.Test.YtjdcicopjipmnaaDoorOvr
namespace Go.Proofs.YtjdcicopjipmnaaDoor
open Go.RowKit Go.Shelf
set_option linter.unusedVariables false
set_option linter.unusedSimpArgs false
attribute [local go_sem] Oper.semAt_some
set_option maxRecDepth 100000 in
set_option maxHeartbeats 4000000 in
theorem all_any (A : Option Addr) (n c i : Nat) (w : World) : Calls Tryd.prog 56 #[.slice A n c, .int .i64 i] w fun e w' => e = .returned (.func (.func 82) #[] #[.pointer (some ⟨w.heap.size, 0, none⟩), .pointer (some ⟨w.heap.size + 1, 0, none⟩)]) ∧ w' = (w.alloc (.cells #[.slice A n c] 25)).alloc (.cells #[.int .i64 i] 3) := by
  go_enter Tryd.func56, Tryd.ntmps56
  go_wp2_with fail
  go_ret
  exact ⟨rfl, rfl⟩
/-- a node's number -/
abbrev Num (N : Nat) := { x : Int // 0 ≤ x ∧ x < (N : Int) }
set_option maxRecDepth 100000 in
set_option maxHeartbeats 4000000 in
theorem all_stops {ns : List NodeD} {A : Option Addr} {n c e0 p2 p3 i : Nat} {w : World} (m : Nat) (hi : i < ns.length) (hks : ∀ (i : Nat) x, ns[i]? = some x → x.kids.length ≤ 4398046511103) (hbig : ns.length ≤ 4398046511103)
    (h2 : Blk w p2 25 #[.slice A n c]) (h3 : Blk w p3 3 #[.int .i64 i]) (hT : RdT w A n c ns) (hE : ∃ es c, w.heap[e0]? = some (.map es c)) :
    SeqStopsK Fence.wide m Tryd.prog 82 #[.pointer (some ⟨p2, 0, none⟩), .pointer (some ⟨p3, 0, none⟩)] (fun x : Num ns.length => #[Value.int .i64 x.1]) (KeepsCW e0) (fun xs => xs.map (·.1) = ovE ns (i + 1) i []) (fun _ => True) ns.length w := by
  intro l J Jx W hW hJ hJx hY h0
  have hY' : YieldOk (fun l W => ∃ la : List (Num ns.length), la.map (·.1) = l ∧ J la W) (fun l W => ∃ la : List (Num ns.length), la.map (·.1) = l ∧ Jx la W) e0 ns.length l := by
    rintro pre x W1 ⟨la, hla, hj⟩ hl h0 h1 k
    obtain ⟨fn, tmps, assign, body, hy, hR⟩ := hY la ⟨x, h0, h1⟩ W1 hj (by rw [← hla, List.length_map] at hl; exact hl)
    refine ⟨fn, tmps, assign, body, hy, RoundIn.mono ⟨hR.1, fun c cs _ => hR.2 c cs (room_wide _)⟩ ?_⟩
    rintro e W' (⟨rfl, h2, h3⟩ | ⟨rfl, h2⟩)
    · exact .inl ⟨rfl, ⟨_, by rw [List.map_append, hla]; rfl, h2⟩, h3⟩
    · exact .inr ⟨rfl, ⟨_, by rw [List.map_append, hla]; rfl, h2⟩⟩
  have hJ' : AbidesFrom W.heap.size (fun l W => ∃ la : List (Num ns.length), la.map (·.1) = l ∧ J la W) := by
    rintro l A B row ⟨la, e, hj⟩ hg hr
    exact ⟨la, e, hJ la A B row hj hg hr⟩
  replace h0 : ∃ la : List (Num ns.length), la.map (·.1) = ([] : List Int) ∧ J la W := ⟨[], rfl, h0⟩
  have hnl := hT.len
  have c2 : W.cell? ⟨p2, 0, none⟩ = some (.slice A n c) := (hW.cell (p := ⟨p2, 0, none⟩) h2.lt).trans (h2.cell 0)
  have c3 : W.cell? ⟨p3, 0, none⟩ = some (.int .i64 i) := (hW.cell (p := ⟨p3, 0, none⟩) h3.lt).trans (h3.cell 0)
  have hl2 : p2 < W.heap.size := Nat.lt_of_lt_of_le h2.lt hW.size
  have hl3 : p3 < W.heap.size := Nat.lt_of_lt_of_le h3.lt hW.size
  have hmk := run_makeMap (P := Tryd.prog) 100 W
  have hbW : Below W.heap.size W (W.alloc (.map #[] 0)) := (by repeat (first | exact Below.refl _ _ | assumption | refine Below.setCell ?_ (by first | (simp; done) | (simp; omega) | omega) _ | refine below_drewN ?_ _ | refine Below.drew ?_ | refine Below.alloc ?_ (by first | (simp; done) | (simp; omega) | omega) _))
  obtain ⟨es0, cl0, hE0⟩ := hE
  have hElt := (Array.getElem?_eq_some_iff.1 hE0).1
  have hs := hW.size
  have K := Lib.hid (over_in (B := W.heap.size) (tb := W.heap.size) hJ' (Nat.le_refl _) (by omega) hY' hks hbig (i + 1) i (by omega) hi [] (W.alloc (.map #[] 0)) 8 ⟨by simp, fun x hx => by cases hx⟩
    ((hT.stay (StayC.bel hW)).stay (StayC.bel hbW)) (by have := BSet.made W; simpa [SeenAt] using this) ⟨es0, cl0, (hbW.block e0 (by omega)).trans ((hW.block e0 hElt).trans hE0)⟩ (abides_bel hJ' h0 hbW))
  have d0 : decide (0 ≤ (i : Int)) = true := decide_eq_true (by omega)
  have d1 : decide ((i : Int) < (n : Int)) = true := decide_eq_true (by omega)
  clear h2 h3 hT hW hJ hJx hY hY' hJ' h0 hks hbig hbW hE0
  refine callsIn_any (m := 9) ?_
  have h82 : (Fence.wide).fn 82 := trivial
  have h83 : (Fence.wide).fn 83 := trivial
  have h84 : (Fence.wide).fn 84 := trivial
  refine callsIn_of_wp Tryd.func82 rfl h82 ?_ rfl
  simp only [Tryd.ntmps82, List.size_toArray, List.length_cons, List.length_nil, Nat.reduceAdd, Nat.reduceSub, Array.replicate_succ, Array.replicate_zero, List.push_toArray, List.append_toArray, List.nil_append, List.cons_append]
  gi_wp2_with fail
  refine (callsIn_wide.2 (isT_any A n c i W (by omega))).mono ?_
  rintro e W1 ⟨rfl, rfl⟩
  gi_wp2_with fail
  refine (callsIn_any K.out).mono ?_
  rintro e W4 (⟨rfl, ⟨la, hla, hJ4⟩, -, -, -⟩ | ⟨rfl, pre, la, hla, hJx⟩)
  · have HJ := Lib.hid hJ4
    clear hJ4
    gi_wp2
    go_end0
    exact ⟨⟨_, rfl⟩, .inl ⟨_, hla, HJ.out⟩⟩
  · have HJ := Lib.hid hJx
    clear hJx
    gi_wp2
    go_end0
    exact ⟨⟨_, rfl⟩, .inr ⟨_, trivial, HJ.out⟩⟩
end Go.Proofs.YtjdcicopjipmnaaDoor
