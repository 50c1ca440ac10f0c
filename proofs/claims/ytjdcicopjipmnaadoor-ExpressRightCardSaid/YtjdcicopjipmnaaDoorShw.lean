/- Tokens, and the document's example. -/
import Derived.Test.YtjdcicopjipmnaaDoorTld
namespace Go.Proofs.YtjdcicopjipmnaaDoor
open Go.RowKit
set_option linter.unusedVariables false
set_option linter.unusedSimpArgs false
def signT (t : ByteArray) : TokD := ⟨4, 0, t, 0⟩
def wordT (t : ByteArray) : TokD := ⟨1, 0, t, 0⟩
def numT (n : Int) : TokD := ⟨2, 0, ⟨#[]⟩, n⟩
set_option maxRecDepth 100000 in
set_option maxHeartbeats 1000000 in
theorem sign_any (t : ByteArray) (w : World) : Calls Tryd.prog 21 #[.string t] w fun e w' => e = .returned (.agg #[.int .i64 4, .int .i64 0, .string t, .int .i64 0]) ∧ Below w.heap.size w w' := by
  go_enter Tryd.func21, Tryd.ntmps21
  go_wp2_with fail
  exact bodyPost_ret (v := .agg #[.int .i64 4, .int .i64 0, .string t, .int .i64 0]) (by first | (simp [results, Tryd.results21, go_sem]; done) | (simp [results, Tryd.results21, go_sem]; rfl)) rfl ⟨rfl, (by repeat (first | exact Below.refl _ _ | assumption | refine Below.setCell ?_ (by first | (simp; done) | (simp; omega) | omega) _ | refine below_drewN ?_ _ | refine Below.drew ?_ | refine Below.alloc ?_ (by first | (simp; done) | (simp; omega) | omega) _))⟩
set_option maxRecDepth 100000 in
set_option maxHeartbeats 1000000 in
theorem word4_any (t : ByteArray) (w : World) : Calls Tryd.prog 26 #[.string t] w fun e w' => e = .returned (.agg #[.int .i64 1, .int .i64 0, .string t, .int .i64 0]) ∧ Below w.heap.size w w' := by
  go_enter Tryd.func26, Tryd.ntmps26
  go_wp2_with fail
  exact bodyPost_ret (v := .agg #[.int .i64 1, .int .i64 0, .string t, .int .i64 0]) (by first | (simp [results, Tryd.results26, go_sem]; done) | (simp [results, Tryd.results26, go_sem]; rfl)) rfl ⟨rfl, (by repeat (first | exact Below.refl _ _ | assumption | refine Below.setCell ?_ (by first | (simp; done) | (simp; omega) | omega) _ | refine below_drewN ?_ _ | refine Below.drew ?_ | refine Below.alloc ?_ (by first | (simp; done) | (simp; omega) | omega) _))⟩
set_option maxRecDepth 100000 in
set_option maxHeartbeats 1000000 in
theorem num_any (n : Int) (w : World) : Calls Tryd.prog 23 #[.int .i64 n] w fun e w' => e = .returned (.agg #[.int .i64 2, .int .i64 0, .string ⟨#[]⟩, .int .i64 n]) ∧ Below w.heap.size w w' := by
  go_enter Tryd.func23, Tryd.ntmps23
  go_wp2_with fail
  exact bodyPost_ret (v := .agg #[.int .i64 2, .int .i64 0, .string ⟨#[]⟩, .int .i64 n]) (by first | (simp [results, Tryd.results23, go_sem]; done) | (simp [results, Tryd.results23, go_sem]; rfl)) rfl ⟨rfl, (by repeat (first | exact Below.refl _ _ | assumption | refine Below.setCell ?_ (by first | (simp; done) | (simp; omega) | omega) _ | refine below_drewN ?_ _ | refine Below.drew ?_ | refine Below.alloc ?_ (by first | (simp; done) | (simp; omega) | omega) _))⟩
/-- a new row of tokens -/
theorem Rd.toks (w : World) (L : List TokD) (cs : Array Value) (n : Nat) (hn : L.length = n) (hc : cs = (L.flatMap tcs).toArray) (hm : n ≤ 9223372036854775807) : Rd (w.alloc (.cells cs 39)) (some ⟨w.heap.size, 0, none⟩) n n 4 (L.flatMap tcs) := by
  subst hc
  refine ⟨Nat.le_refl _, hm, ?_, fun _ => ⟨w.heap.size, 0, rfl, by simp, fun j u hj => ?_⟩⟩
  · subst hn
    induction L with
    | nil => rfl
    | cons t L ih => rw [List.flatMap_cons, List.length_append, ih (by simp at hm; omega), List.length_cons]; show 4 + _ = _; omega
  · rw [Nat.zero_add, (Blk.new w 39 _).cell]
    simpa using hj
/-- one node of a tree that is handed back -/
theorem RowN.node {F : Nat → Prop} {w : World} {v : Value} {ns : List NodeD} (h : RowN F w v ns) : ∃ A c, v = .slice A ns.length c ∧ ∀ (i : Nat) (x : NodeD), ns[i]? = some x → ∃ b o A1 c1, A = some ⟨b, o, none⟩ ∧ b < w.heap.size ∧ w.cell? ⟨b, o + i * 5, none⟩ = some (.int .i64 x.op) ∧ w.cell? ⟨b, o + i * 5 + 1, none⟩ = some (.int .i64 x.at_) ∧ w.cell? ⟨b, o + i * 5 + 2, none⟩ = some (.string x.s) ∧ w.cell? ⟨b, o + i * 5 + 3, none⟩ = some (.int .i64 x.n) ∧ w.cell? ⟨b, o + i * 5 + 4, none⟩ = some (.slice A1 x.kids.length c1) ∧ Rd w A1 x.kids.length c1 1 (ics x.kids) := by
  obtain ⟨A, c, e, hr⟩ := h.rdT
  refine ⟨A, c, e, fun i x hx => ?_⟩
  obtain ⟨b, o, A1, c1, e2, hb, hc, hk⟩ := hr.at_ hx
  exact ⟨b, o, A1, c1, e2, hb, hc 0 _ rfl, hc 1 _ rfl, hc 2 _ rfl, hc 3 _ rfl, hc 4 _ rfl, hk⟩
def shownL : List TokD := [numT 1, signT gPlus, numT 2, signT gStar, numT 3]
def shownNs : List NodeD := [⟨4, 0, ⟨#[]⟩, 1, []⟩, ⟨4, 0, ⟨#[]⟩, 2, []⟩, ⟨4, 0, ⟨#[]⟩, 3, []⟩, ⟨12, 0, gStar, 0, [1, 2]⟩, ⟨12, 0, gPlus, 0, [0, 3]⟩]
def shownR : PS × Int := (⟨5, 0, 0, shownNs, [1, 1, 1, 2, 3]⟩, 4)
set_option maxRecDepth 100000 in
theorem shown_run : parsed shownL = some shownR := by kernel_rfl
set_option maxRecDepth 100000 in
theorem shown_tree : treeOf shownNs = shownNs := by kernel_rfl
theorem level_star : levelB ⟨#[42]⟩ = 7 := by kernel_rfl
set_option maxRecDepth 100000 in
set_option maxHeartbeats 4000000 in
theorem shown_any (w : World) (htab : Asp w) : Calls Tryd.prog 14 #[] w fun e w' => e = .returned (.bool true) ∧ Below w.heap.size w w' := by
  have HT := Lib.hid htab
  have HB := Lib.hid (Below.refl w.heap.size w)
  have hlv : levelB ⟨#[42]⟩ = 7 := level_star
  clear htab
  go_enter Tryd.func14, Tryd.ntmps14
  go_wp2_with (first | (go_at_call 23; go_must (refine (num_any _ _).mono ?_); rintro e w1 ⟨rfl, hb⟩; replace HB := Lib.hid (HB.out.trans (hb.mono HB.out.size)); (try clear hsz); have hsz := HB.out.size; clear hb) | (go_at_call 21; go_must (refine (sign_any _ _).mono ?_); rintro e w1 ⟨rfl, hb⟩; replace HB := Lib.hid (HB.out.trans (hb.mono HB.out.size)); (try clear hsz); have hsz := HB.out.size; clear hb)  | (go_at_call 16; have hb9 := HB.out; go_must (refine (told_any (L := shownL) (Rd.toks _ shownL _ 5 rfl rfl (by omega)) (fun b o e => by cases e; simp) rfl (by omega) (by intro t ht; simp only [shownL, List.mem_cons, List.not_mem_nil, or_false] at ht; rcases ht with rfl | rfl | rfl | rfl | rfl <;> exact sml (by decide)) (HT.out.below (by repeat (first | exact Below.refl _ _ | assumption | refine Below.setCell ?_ (by first | (simp; done) | (simp; omega) | omega) _ | refine below_drewN ?_ _ | refine Below.drew ?_ | refine Below.alloc ?_ (by first | (simp; done) | (simp; omega) | omega) _))) shown_run).mono ?_); rintro e w2 ⟨v, rfl, hr, hb⟩; rw [show treeOf shownR.1.ns = shownNs from shown_tree] at hr; obtain ⟨A, c, rfl, hn⟩ := hr.node; obtain ⟨b, o, A4, c4, rfl, hlt, p0, p1, p2, -, -, -⟩ := hn 4 _ rfl; obtain ⟨b', o', A3, c3, e3, -, q0, q1, q2, -, -, -⟩ := hn 3 _ rfl; injection e3 with e3; injection e3 with e3 e4; subst e3 e4; simp only [Nat.reduceMul] at p0 p1 p2 q0 q1 q2; have hbw : Below w.heap.size w w2 := Below.trans (by have := hb9; exact (by repeat (first | exact Below.refl _ _ | assumption | refine Below.setCell ?_ (by first | (simp; done) | (simp; omega) | omega) _ | refine below_drewN ?_ _ | refine Below.drew ?_ | refine Below.alloc ?_ (by first | (simp; done) | (simp; omega) | omega) _))) (hb.mono (by have := hb9.size; simp; omega)); replace HB := Lib.hid hbw; clear hsz; have hsz := HB.out.size; clear hr hb hn hb9 hbw)  | (go_at_call 24; go_must (refine (level_any ⟨#[42]⟩ (sml (by decide)) _).mono ?_); rintro e w3 ⟨rfl, hb⟩; rw [hlv]; have hb9 := HB.out; have hbw : Below w.heap.size w w3 := Below.trans (by have := hb9; exact (by repeat (first | exact Below.refl _ _ | assumption | refine Below.setCell ?_ (by first | (simp; done) | (simp; omega) | omega) _ | refine below_drewN ?_ _ | refine Below.drew ?_ | refine Below.alloc ?_ (by first | (simp; done) | (simp; omega) | omega) _))) (hb.mono (by have := hb9.size; simp; omega)); replace HB := Lib.hid hbw; clear hb hb9 hbw))
  go_ret
  exact ⟨rfl, HB.out⟩
end Go.Proofs.YtjdcicopjipmnaaDoor
