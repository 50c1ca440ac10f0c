/- Tokens, and the document's example. Rows of tokens that are appended to. A drawn region by items: what each operation leaves, and in which blocks it lies; whatever the order. Items: the steps of drawn regions that make rows of tokens. few: 40 tokens at most, of texts of 12 bytes. ends: tokens with which no expression goes on. Steps of drawn regions: rows that lie there from before, a number's kind, a remainder, few. ExpressStops: the walk. -/
import Derived.RegionTactic
import Derived.Test.YtjdcicopjipmnaaDoorZag
import Derived.Test.YtjdcicopjipmnaaDoorZai
import Derived.Test.YtjdcicopjipmnaaDoorZav
import Derived.Test.YtjdcicopjipmnaaDoorZax
import Derived.Test.YtjdcicopjipmnaaDoorZay
namespace Go.Proofs.YtjdcicopjipmnaaDoor
set_option maxRecDepth 100000
set_option maxHeartbeats 40000000
section
open Go.RowKit
set_option linter.unusedVariables false
set_option linter.unusedSimpArgs false
theorem word4_any (t : ByteArray) (w : World) : Calls Tryd.prog 26 #[.string t] w fun e w' => e = .returned (.agg #[.int .i64 1, .int .i64 0, .string t, .int .i64 0]) ∧ Below w.heap.size w w' := by
 go_enter Tryd.func26, Tryd.ntmps26
 go_wp2_with fail
 exact bodyPost_ret (v := .agg #[.int .i64 1, .int .i64 0, .string t, .int .i64 0]) (by first | (simp [results, Tryd.results26, go_sem]; done) | (simp [results, Tryd.results26, go_sem]; rfl)) rfl ⟨rfl, bl1⟩
end
section
open Go.RowKit
set_option linter.unusedVariables false
set_option linter.unusedSimpArgs false
structure NewT (w wr : World) (v : Value) (L : List TokD) : Prop where
 own : OwnT wr v L
 new : ∀ b, v.ownBlock = some b → w.heap.size ≤ b
 bel : Below w.heap.size w wr
end
section
open Go.RowKit
set_option linter.unusedVariables false
set_option linter.unusedSimpArgs false
section
variable {B : Nat} {w w' : World} {l : List (Value × Item)} {v : Value} {it : Item}
theorem Hold.bel (h : Hold B w l) (hb : Below w.heap.size w w') : Hold B w' l := by
 obtain ⟨f, h⟩ := h
 exact ⟨f, fun i p hp => (h i p hp).kept (D := fun _ => False) ⟨hb.size, fun g hg _ => hb.block g hg⟩ (fun _ _ _ h => h) fun g _ hg => hg⟩
theorem Hold.new (h : Hold B w l) (hb : Below w.heap.size w w') (hB : B ≤ w.heap.size) (hi : it.Is (fun g => w.heap.size ≤ g) v w') : Hold B w' ((v, it) :: l) := by
 obtain ⟨f, h⟩ := h
 refine ⟨fun g => if w.heap.size ≤ g then 0 else f g + 1, fun i p hp => ?_⟩
 cases i with
 | zero =>
  obtain rfl := Option.some.inj hp
  exact hi.mono fun g hg => ⟨by omega, if_pos hg⟩
 | succ i =>
  exact (h i p hp).kept (D := fun _ => False) ⟨hb.size, fun g hg _ => hb.block g hg⟩ (fun _ _ _ h => h) fun g hlt hg => ⟨hg.1, by
   show (if w.heap.size ≤ g then 0 else f g + 1) = i + 1
   rw [if_neg (by omega), hg.2]⟩
theorem Hold.turn {p : Value × Item} (h : Hold B w (p :: l)) (hB : B ≤ w.heap.size) (hs : w.heap.size ≤ w'.heap.size)
  (hk : ∀ S : Nat → Prop, p.2.Is S p.1 w → (∀ g, S g → B ≤ g) → Kept S w w' ∧ it.Is (fun g => B ≤ g ∧ (w.heap.size ≤ g ∨ S g)) v w') : Hold B w' ((v, it) :: l) := by
 obtain ⟨f, h⟩ := h
 obtain ⟨k, hv⟩ := hk _ (h 0 p rfl) fun g hg => hg.1
 refine ⟨fun g => if w.heap.size ≤ g then 0 else f g, fun i q hq => ?_⟩
 cases i with
 | zero =>
  obtain rfl := Option.some.inj hq
  refine hv.mono fun g hg => ⟨hg.1, ?_⟩
  show (if w.heap.size ≤ g then 0 else f g) = 0
  split
  ·rfl
  ·rcases hg.2 with h1 | h1
   ·omega
   ·exact h1.2
 | succ i =>
  refine (h (i + 1) q hq).kept k (fun g _ hg hd => ?_) fun g hlt hg => ⟨hg.1, ?_⟩
  ·rw [hg.2] at hd
   exact absurd hd.2 (by omega)
  ·show (if w.heap.size ≤ g then 0 else f g) = i + 1
   rw [if_neg (by omega), hg.2]
end
end
section
open Go.RowKit
set_option linter.unusedVariables false
set_option linter.unusedSimpArgs false
theorem Hold.app {B : Nat} {w w6 : World} {v v6 : Value} {L L6 : List TokD} {l : List (Value × Item)} (h : Hold B w ((v, .row L) :: l)) (hB : B ≤ w.heap.size) (ho : OwnT w6 v6 L6) (hg : w.grownBy w6 v.ownBlock) (hn : v6.ownBlock = v.ownBlock ∨ v6.ownBlock = some w.heap.size) : Hold B w6 ((v6, .row L6) :: l) :=
 h.turn hB hg.size fun S hi hS => ⟨grown_kept hi.1 hi.2 hg, ho, fun b e => by
  rcases hn with e' | e' <;> rw [e'] at e
  ·exact ⟨hS b (hi.2 b e), .inr (hi.2 b e)⟩
  ·injection e with e
   exact ⟨by omega, .inl (by omega)⟩⟩
section
variable {gs : List Got} {ops : Array Oper} {B : Nat} {w0 : World} {a0 : Act} {i : Nat} {o : Oper}
theorem run_made0 (w : World) : (Instr.buildSlice 26 0 #[]).run Tryd.prog w = .ok (.slice (some ⟨w.heap.size, 0, none⟩) 0 0) (w.alloc (.cells #[] 39)) := by go_simp
theorem step_made0 (hop : o.op = .buildSlice 26 0 #[]) (hit : itOf gs i = .row []) (hd : o.dst ≠ none) : StepOk Tryd.prog gs ops B w0 a0 i o :=
 step_made (M := []) (fun a w S hA => by unfold execOp; simp only [hop, List.map_toArray, List.map_nil, Sem.run_bind, run_made0, Result.andThen_ok, Sem.run_pure]; rfl) (by simp) hit hd
end
theorem smallA {a b : List TokD} (ha : ∀ t ∈ a, t.s.size ≤ maxLen) (hb : ∀ t ∈ b, t.s.size ≤ maxLen) : ∀ t ∈ a ++ b, t.s.size ≤ maxLen := fun t ht => (List.mem_append.1 ht).elim (ha t) (hb t)
section
variable {B : Nat} {w w' : World} {l : List (Value × Item)}
theorem Hold.alloc (h : Hold B w l) (o : Obj) : Hold B (w.alloc o) l := h.bel (Below.alloc (Below.refl _ _) (Nat.le_refl _) _)
theorem Hold.made0 (h : Hold B w l) (hB : B ≤ w.heap.size) : Hold B (w.alloc (.cells #[] 39)) ((.slice (some ⟨w.heap.size, 0, none⟩) 0 0, .row []) :: l) :=
 h.new (it := .row []) (Below.alloc (Below.refl _ _) (Nat.le_refl _) _) hB ⟨OwnT.made w [] #[] 0 rfl rfl (by omega), fun b e => by have e2 : w.heap.size = b := (by simpa [Value.ownBlock] using e); omega⟩
end
theorem Hold.grow0 {w W w6 : World} {v v6 : Value} {L G : List TokD} {l : List (Value × Item)} (h : Hold w.heap.size W ((v, .row L) :: l)) (hb : Below w.heap.size w W) (ho : OwnT w6 v6 G) (hg : W.grownBy w6 v.ownBlock) (hn : v6.ownBlock = v.ownBlock ∨ v6.ownBlock = some W.heap.size) : Hold w.heap.size w6 ((v6, .row G) :: l) ∧ Below w.heap.size w w6 :=
 ⟨h.app hb.size ho hg hn, hb.trans (grown_below hg hb.size fun b e => h.head.2 b e)⟩
theorem Hold.grow {w W w6 : World} {o : Obj} {v v6 : Value} {L G : List TokD} {l : List (Value × Item)} (h : Hold w.heap.size W ((v, .row L) :: l)) (hb : Below w.heap.size w W) (ho : OwnT w6 v6 G) (hg : (W.alloc o).grownBy w6 v.ownBlock) (hn : v6.ownBlock = v.ownBlock ∨ v6.ownBlock = some (W.alloc o).heap.size) : Hold w.heap.size w6 ((v6, .row G) :: l) ∧ Below w.heap.size w w6 :=
 (h.alloc o).grow0 (Below.alloc hb hb.size _) ho hg hn
end
section
open Go.RowKit
set_option linter.unusedVariables false
set_option linter.unusedSimpArgs false
def cutT (t : TokD) : TokD := { t with s := t.s.extract 0 (min (t.s.size : Int) 12).toNat }
def fewL (L : List TokD) : List TokD := (L.take 40).map cutT
theorem cut_small (t : TokD) : (cutT t).s.size ≤ 12 := by
 unfold cutT
 simp only
 rw [ByteArray.size_extract]
 omega
theorem few_len (L : List TokD) : (fewL L).length ≤ 40 := by
 unfold fewL
 rw [List.length_map, List.length_take]
 omega
theorem few_small (L : List TokD) : ∀ t ∈ fewL L, t.s.size ≤ maxLen := by
 intro t ht
 obtain ⟨u, _, rfl⟩ := List.mem_map.1 ht
 exact sml (Nat.le_trans (cut_small u) (by decide))
theorem Rd.toksG {g : Nat} {w : World} (hg : g = w.heap.size) (L : List TokD) (cs : Array Value) (n : Nat) (hn : L.length = n) (hc : cs = (L.flatMap tcs).toArray) (hm : n ≤ 9223372036854775807) : Rd (w.alloc (.cells cs 39)) (some ⟨g, 0, none⟩) n n 4 (L.flatMap tcs) := by
 subst hg
 exact Rd.toks w L cs n hn hc hm
theorem few_any {w : World} {A : Option Addr} {n c : Nat} {L : List TokD} (hl : Rd w A n c 4 (L.flatMap tcs)) (hn : L.length = n) : Calls Tryd.prog 20 #[.slice A n c] w fun e w' => ∃ v, e = .returned v ∧ NewT w w' v (fewL L) := by
 have HL := qh hl
 have hbig : n ≤ 9223372036854775807 := Nat.le_trans hl.1 hl.2.1
 have HN := qh hn
 have HH0 := qh ((Hold.nil w.heap.size w).made0 (Nat.le_refl _))
 have HB0 : Hid (Below w.heap.size w (w.alloc (.cells #[] 39))) := qh bl1
 clear hl hn
 go_enter Tryd.func20, Tryd.ntmps20
 go_wp2_with fail
 go_loopw [3, 4] (fun v3 v4 wr => ∃ (i : Nat) (A1 : Option Addr) (c1 : Nat) (M : List TokD), i ≤ n ∧ i ≤ 40 ∧ v4 = .int .i64 i ∧ v3 = .slice A1 M.length c1 ∧ Hid (M = (L.take i).map cutT) ∧ Hid (M.length = i) ∧ Hid (Hold w.heap.size wr [(.slice A1 M.length c1, .row M)]) ∧ Hid (Below w.heap.size w wr)) (fun _ v4 _ => n - (intOf v4).toNat)
 case atStart => exact ⟨0, _, 0, [], Nat.zero_le _, by decide, rfl, rfl, qh rfl, qh rfl, HH0, HB0⟩
 case round =>
  obtain ⟨i, A1, c1, M, hi, hi40, rfl, rfl, HM, HlM, HH, HB⟩ := hrel
  clear HH0 HB0
  by_cases hlt : i < n
  ·by_cases h40 : i < 40
   ·have hil : i < L.length := by have := HN.out; omega
    obtain ⟨t, ht⟩ : ∃ t, L[i]? = some t := ⟨_, List.getElem?_eq_getElem hil⟩
    obtain ⟨b, o, rfl, hb, p0, p1, p2, p3⟩ := (HL.out.bel HB.out).tok ht (by omega)
    have HT := qh ht
    have hml : M.length ≤ 40 := by have := HlM.out; omega
    clear ht hil
    go_wp2_with (at_builtin; go_must (refine wpList_appendT _ rfl _ _ rfl (.slice A1 M.length c1) M rfl (HH.out.bel (by exact bl2)).own _ 1 1 [cutT t] rfl (Rd.toksG (by simp only [World.size_alloc]) [cutT t] _ 1 rfl rfl (by omega)) rfl (by omega) ?_); intro v6 w6 ho6 hg6 hn6; obtain ⟨hh, hb6⟩ := Hold.grow (HH.out.bel (by exact bl1)) (HB.out.trans (below_low (by exact bl1) HB.out.size)) ho6 hg6 hn6; generalize hG : M ++ [cutT t] = G at ho6 hh; obtain ⟨A2, c2, rfl, -, -⟩ := Own.rd ho6; have HG := qh hG; replace HH := qh hh; replace HB := qh hb6; clear hG ho6 hg6 hn6 hh hb6 p0 p1 p2 p3 hb)
    go_round
    case rel => exact ⟨i + 1, A2, c2, G, by omega, by omega, by go_num, rfl, qh (by rw [← HG.out, HM.out, List.take_add_one, HT.out]; simp), qh (by rw [← HG.out, List.length_append, HlM.out]; rfl), HH, HB⟩
    case measure => simp [intOf]; omega
   ·have h40' : decide ((i : Int) < 40) = false := decide_eq_false (by omega)
    go_wp2_with fail
    go_ret
    refine ⟨_, rfl, ?_⟩
    have e : fewL L = M := by rw [HM.out]; unfold fewL; rw [show i = 40 from by omega]
    rw [e]
    exact ⟨HH.out.own, fun b eb => HH.out.head.2 b eb, HB.out⟩
  ·go_wp2_with fail
   go_ret
   refine ⟨_, rfl, ?_⟩
   have e : fewL L = M := by
    rw [HM.out]
    unfold fewL
    have := HN.out
    rw [List.take_of_length_le (by omega), List.take_of_length_le (by omega)]
   rw [e]
   exact ⟨HH.out.own, fun b eb => HH.out.head.2 b eb, HB.out⟩
end
section
open Go.RowKit
set_option linter.unusedVariables false
set_option linter.unusedSimpArgs false
def endsL : List TokD := [signT ⟨#[41]⟩, signT ⟨#[93]⟩, signT ⟨#[125]⟩, signT ⟨#[44]⟩, signT ⟨#[58]⟩, signT ⟨#[61]⟩, signT ⟨#[43, 61]⟩, wordT ⟨#[101, 108, 115, 101]⟩, wordT ⟨#[102, 111, 114]⟩, wordT ⟨#[97, 115]⟩, ⟨5, 0, ⟨#[]⟩, 0⟩, ⟨8, 0, ⟨#[]⟩, 0⟩, ⟨6, 0, ⟨#[]⟩, 0⟩, ⟨7, 0, ⟨#[]⟩, 0⟩, ⟨99, 0, ⟨#[]⟩, 0⟩, numT 7, ⟨3, 0, ⟨#[97]⟩, 0⟩, wordT ⟨#[120]⟩, wordT ⟨#[78, 111, 110, 101]⟩, signT ⟨#[123]⟩]
theorem ends_no : ∀ t ∈ endsL, noT hExpr t = true := by decide +kernel
theorem ends_short : ∀ t ∈ endsL, t.s.size ≤ 64 := by decide +kernel
theorem ends_any (w : World) : Calls Tryd.prog 19 #[] w fun e w' => ∃ A, e = .returned (.slice A 20 20) ∧ Rd w' A 20 20 4 (endsL.flatMap tcs) ∧ Below w.heap.size w w' := by
 have HB := qh (Below.refl w.heap.size w)
 go_enter Tryd.func19, Tryd.ntmps19
 go_wp2_with (first | (go_at_call 21; have hmk := HB.out.size; go_must (refine (sign_any _ _).mono ?_); rintro e w2 ⟨rfl, hb⟩; replace HB := qh (HB.out.trans (below_low hb hmk)); clear hb hmk) | (go_at_call 26; have hmk := HB.out.size; go_must (refine (word4_any _ _).mono ?_); rintro e w2 ⟨rfl, hb⟩; replace HB := qh (HB.out.trans (below_low hb hmk)); clear hb hmk) | (go_at_call 23; have hmk := HB.out.size; go_must (refine (num_any _ _).mono ?_); rintro e w2 ⟨rfl, hb⟩; replace HB := qh (HB.out.trans (below_low hb hmk)); clear hb hmk))
 go_ret
 exact ⟨_, rfl, Rd.toks _ endsL _ 20 rfl rfl (by omega), HB.out.trans (below_low (bel_one _ _) HB.out.size)⟩
end
section
open Go.RowKit
set_option linter.unusedVariables false
set_option linter.unusedSimpArgs false
theorem run_tokAt {w : World} {b o n c k q : Nat} {L : List TokD} {t : TokD} (h : Rd w (some ⟨b, o, none⟩) n c 4 (L.flatMap tcs)) (hk : L[k]? = some t) (hn : 0 < n) (hq : q = o + k * 4) : (Instr.loadAt 39 (.pointer (some ⟨b, q, none⟩))).run Tryd.prog w = .ok (tokV t) w := by
 obtain ⟨b', o', e, hb, c0, c1, c2, c3⟩ := h.tok hk hn
 cases e
 subst hq
 unfold tokV tcs
 go_simp
theorem enter20 (args : Array Value) (w : World) : (callFunc 20 args).run Tryd.prog w = .ok (.enter 20 args) w := by go_simp
section
variable {gs : List Got} {ops : Array Oper} {B : Nat} {w0 : World} {a0 : Act} {i : Nat} {o : Oper}
theorem EvRow.old {x : Operand} {A : Option Addr} {m c : Nat} {M : List TokD} (hx : Ev gs ops B w0 a0 i o x (.slice A m c)) (hm : M.length = m) (hr : ∀ w, Below B w0 w → Rd w A m c 4 (M.flatMap tcs)) : EvRow gs ops B w0 a0 i o x M := fun a w S hA => ⟨A, m, c, hx a w S hA, hm, hr w hA.bel⟩
theorem step_conv {x : Operand} {p v : Value} (hop : o.op = .convert 5 3 x) (hx : Ev gs ops B w0 a0 i o x p) (hr : ∀ w, (convert 5 3 p).run Tryd.prog w = .ok v w) (hit : itOf gs i = .val v) (hd : o.dst ≠ none) : StepOk Tryd.prog gs ops B w0 a0 i o :=
 step_val (fun a w S hA => by
  have e1 := hx a w S hA
  unfold execOp
  simp only [hop, e1, Sem.run_bind, hr w, Result.andThen_ok, Sem.run_pure]) hit hd
theorem step_lenT {x : Nat} {A : Option Addr} {n c : Nat} {v : Int} (hop : o.op = .call { callee := .builtin .len, args := #[.tmp x], argTypes := #[26] }) (hx : Ev gs ops B w0 a0 i o (.tmp x) (.slice A n c)) (hv : (n : Int) = v) (hit : itOf gs i = .val (.int .i64 v)) (hd : o.dst ≠ none) : StepOk Tryd.prog gs ops B w0 a0 i o :=
 step_val (fun a w S hA => by
  subst hv
  have e1 := hx a w S hA
  unfold Act.eval at e1
  simp only at e1
  unfold execOp
  simp only [hop]
  go_simp) hit hd
theorem step_rem {x y : Operand} {p q v : Int} (hop : o.op = .binOp .rem 3 x y 3) (hx : Ev gs ops B w0 a0 i o x (.int .i64 p)) (hy : Ev gs ops B w0 a0 i o y (.int .i64 q)) (hq : q ≠ 0) (hv : p.tmod q = v) (hit : itOf gs i = .val (.int .i64 v)) (hd : o.dst ≠ none) : StepOk Tryd.prog gs ops B w0 a0 i o :=
 step_val (fun a w S hA => by
  have e1 := hx a w S hA
  have e2 := hy a w S hA
  unfold execOp
  simp only [hop, e1, e2]
  go_simp
  (try rw [if_neg hq, hv])) hit hd
theorem step_few {x : Operand} {A : Option Addr} {n c : Nat} {L : List TokD} (hop : o.op = .call { callee := .value (.func 20), args := #[x], argTypes := #[26] }) (hx : Ev gs ops B w0 a0 i o x (.slice A n c)) (hr : ∀ w, Below B w0 w → Rd w A n c 4 (L.flatMap tcs)) (hn : L.length = n) (hit : itOf gs i = .row (fewL L)) (hd : o.dst ≠ none) : StepOk Tryd.prog gs ops B w0 a0 i o :=
 step_call enter20 (ps := [.slice A n c]) hop (fun a w S hA => by simp [hx a w S hA]) (fun a w S hA => (few_any (hr w hA.bel) hn).mono (by rintro e w' ⟨v, rfl, hn⟩; exact ⟨v, rfl, hn.bel, by rw [hit]; exact ⟨hn.own, hn.new⟩⟩)) hd
end
end
section
open Go.RowKit
set_option linter.unusedVariables false
set_option linter.unusedSimpArgs false
theorem stops_walk {w : World} {A : Option Addr} {n c b : Nat} {S : List Int} (hrd : Rd w A n c 1 (ics S)) (hl : S.length = n) (hsr : ∀ x ∈ S, -9223372036854775808 ≤ x ∧ x ≤ 9223372036854775807) (hA : ∀ b o, A = some ⟨b, o, none⟩ → b < w.heap.size) {a nb cb : Nat} {AB : Option Addr} {LB : List TokD} (hb : b < 256) (ha : a < 256) (hlb : Rd w AB nb cb 4 (LB.flatMap tcs)) (hnb : LB.length = nb) (htab : Asp w) : Calls Tryd.prog 4 #[.slice A n c, .agg #[.int .u8 b, .int .u8 a], .slice AB nb cb] w fun e w' => e = .returned (.bool true) ∧ Below w.heap.size w w' := by
 have HT := qh htab
 have HRD := qh hrd
 have HSL := qh hl
 have HSR := qh hsr
 have HA := qh hA
 clear htab hrd hl hsr hA
 have HLB := qh hlb
 have HNB := qh hnb
 have HBX := qh (Blk.new w 36 #[.int .u8 b, .int .u8 a])
 have hbx := bel_one w (.cells #[.int .u8 b, .int .u8 a] 36)
 have HBX0 := qh hbx
 clear hlb hnb
 go_enter Tryd.func4, Tryd.ntmps4
 go_upto_region 2 with (go_at_call 14; go_must (refine (shown_any _ (HT.out.below hbx)).mono ?_); rintro e w1 ⟨rfl, hb2⟩; have HB : Hid (Below w.heap.size w w1) := qh (hbx.trans (below_low hb2 hbx.size)); have HX1 := qh (HBX.out.bel hb2); clear hb2)
 have x0 := HX1.out.cell 0
 have xlt := HX1.out.lt
 simp only [GG] at x0
 go_upto_region 3 with (go_at_call 15; go_must (refine (one_any (HRD.out.bel HB.out) HSL.out HSR.out (fun b o e => Nat.lt_of_lt_of_le (HA.out b o e) HB.out.size) hb).mono ?_); rintro e w2 ⟨A1, A2, c1, c2, r1, r2, rfl, hbo, hone⟩; have HO := qh hone; have HB2 := qh (HB.out.trans (below_low hbo HB.out.size)); have HS1 := qh HB.out.size; clear hone; have HX2 := qh (HX1.out.bel hbo))
 clear x0 xlt
 by_cases h0 : r1 = 0
 ·subst h0
  go_wp2_with fail
  go_ret
  exact ⟨rfl, HB2.out⟩
 have h0b : ((r1 : Int) == 0) = false := by simp; omega
 obtain ⟨t, hg, hd, hs, hl2, hrow, htz⟩ := HO.out h0
 have hlim := good_lim hg hd
 have hfl : (Tr.flat 0 t).length = r1 := by rw [flat_len]; exact hs
 have HG := qh hg
 have HD := qh hd
 have HS := qh hs
 have HL2 := qh hl2
 have HFL := qh hfl
 have HRW := qh hrow
 have HZ := qh (htz.less HS1.out)
 have hr1 : 0 < r1 ∧ r1 ≤ 2176782336 := by omega
 have hr2 : r2 ≤ 17414258688 := by omega
 have hws : IntKind.i64.wrap ((r1 : Int) - 1) = (r1 : Int) - 1 := IntWalk.i64_in _ (by omega)
 have HLB2 := qh (HLB.out.bel HB2.out)
 clear hg hd hs hl2 hrow htz hlim hfl HO HB HX1 HBX HBX0 HLB HRD HSL HSR HA
 go_upto_region 6 with (go_at_call 19; go_must (refine (ends_any _).mono ?_); rintro e w3 ⟨AE, rfl, hre, hbn⟩; have HRE := qh hre; have HX3 := qh (HX2.out.bel hbn); have HRW3 := qh (HRW.out.belw hbn); have HZ3 := qh (HZ.out.bel hbn); have HLB3 := qh (HLB2.out.bel hbn); have HB3 := qh (HB2.out.trans (below_low hbn HB2.out.size)); clear hre hbn)
 obtain ⟨q, hq, hqt⟩ : ∃ q : Nat, q < 20 ∧ Int.tmod (a : Int) 20 = (q : Int) := ⟨a % 20, Nat.mod_lt _ (by omega), by rw [Int.tmod_eq_emod_of_nonneg (by omega)]; omega⟩
 obtain ⟨te, hte⟩ : ∃ te, endsL[q]? = some te := ⟨_, List.getElem?_eq_getElem (show q < endsL.length from hq)⟩
 obtain ⟨be, oe, rfl, hbe, -⟩ := HRE.out.tok hte (by decide)
 have HTE := qh hte
 have HQT := qh hqt
 have HZR := qh (OwnT.rdm HZ3.out.own HL2.out)
 have hwa : IntKind.i64.wrap (a : Int) = (a : Int) := IntWalk.i64_in _ (by omega)
 have hq20 : ¬ ((20 : Int) ≤ (q : Int)) := by omega
 have htl : (Tr.toks t).length ≤ 17414258688 := by rw [HL2.out]; exact hr2
 have hfw := few_len LB
 clear HRW HZ HX2 HLB2 HB2 hte hqt hbe
 refine wp_items (by kernel_rfl) [⟨26, some 2, .row []⟩, ⟨27, none, .val (.slice A2 r2 c2)⟩, ⟨28, some 13, .row ([] ++ (Tr.toks t))⟩, ⟨29, none, .val (.slice (some ⟨be, oe, none⟩) 20 20)⟩, ⟨30, none, .val (.pointer (some ⟨w.heap.size, 1, none⟩))⟩, ⟨31, none, .val (.int .u8 (a : Int))⟩, ⟨32, none, .val (.int .i64 (a : Int))⟩, ⟨33, none, .val (.slice (some ⟨be, oe, none⟩) 20 20)⟩, ⟨34, none, .val (.int .i64 20)⟩, ⟨35, none, .val (.int .i64 (q : Int))⟩, ⟨36, none, .val (.pointer (some ⟨be, oe + q * 4, none⟩))⟩, ⟨37, none, .val (tokV te)⟩, ⟨38, none, .row [te]⟩, ⟨39, some 16, .row (([] ++ (Tr.toks t)) ++ [te])⟩, ⟨40, none, .val (.slice AB nb cb)⟩, ⟨41, none, .row (fewL LB)⟩, ⟨42, some 17, .row ((([] ++ (Tr.toks t)) ++ [te]) ++ (fewL LB))⟩, ⟨11, none, .row ((([] ++ (Tr.toks t)) ++ [te]) ++ (fewL LB))⟩] [26, 27, 28, 29, 30, 31, 32, 33, 34, 35, 36, 37, 38, 39, 40, 41, 42, 11] [some 2, none, some 13, none, none, none, none, none, none, none, none, none, none, some 16, none, none, some 17, none] rfl rfl 65 w3.heap.size (Nat.le_refl _) rfl (by kernel_rfl) [17] (by decide) (by decide) (Hold.nil w3.heap.size w3) ?_ [some 26, some 27, some 28, some 29, some 30, some 31, some 32, some 33, some 34, some 35, some 36, some 37, some 38, some 39, some 40, some 41, some 42, some 11] rfl [(11, .row ((([] ++ (Tr.toks t)) ++ [te]) ++ (fewL LB)))] rfl rfl ?_
 ·exact ⟨step_made0 rfl rfl (by simp), step_move rfl (Ev.base (by kernel_rfl) rfl) rfl (by simp), step_app 0 rfl (by kernel_rfl) rfl rfl rfl (EvRow.old (Ev.item 1 (by kernel_rfl) (by kernel_rfl) rfl rfl) HL2.out (fun w hb => HZR.out.bel hb)) (by (try simp only [LL]); have := HL2.out; omega) rfl (by simp), step_move rfl (Ev.base (by kernel_rfl) rfl) rfl (by simp), step_addr rfl (Ev.base (by kernel_rfl) rfl) (Ev.const _) (fun w => by go_simp) rfl (by simp), step_load rfl (Ev.item 4 (by kernel_rfl) (by kernel_rfl) rfl rfl) (fun a w S hA => by have hb := HX3.out.bel hA.bel; have c0 := hb.cell 1; have xlt := hb.lt; simp only [GG] at c0; go_simp) rfl (by simp), step_conv rfl (Ev.item 5 (by kernel_rfl) (by kernel_rfl) rfl rfl) (fun w => by go_simp) rfl (by simp), step_move rfl (Ev.base (by kernel_rfl) rfl) rfl (by simp), step_lenT rfl (Ev.item 7 (by kernel_rfl) (by kernel_rfl) rfl rfl) rfl rfl (by simp), step_rem rfl (Ev.item 6 (by kernel_rfl) (by kernel_rfl) rfl rfl) (Ev.item 8 (by kernel_rfl) (by kernel_rfl) rfl rfl) (by decide) HQT.out rfl (by simp), step_addr rfl (Ev.item 3 (by kernel_rfl) (by kernel_rfl) rfl rfl) (Ev.item 9 (by kernel_rfl) (by kernel_rfl) rfl rfl) (fun w => by go_simp) rfl (by simp), step_load rfl (Ev.item 10 (by kernel_rfl) (by kernel_rfl) rfl rfl) (fun a w S hA => run_tokAt (HRE.out.bel hA.bel) HTE.out (by decide) rfl) rfl (by simp), step_made1 rfl (Ev.item 11 (by kernel_rfl) (by kernel_rfl) rfl rfl) rfl (by simp), step_app 2 rfl (by kernel_rfl) rfl rfl rfl (EvRow.item 12 (by kernel_rfl) (by kernel_rfl) rfl rfl) (by (try simp only [LL]); omega) rfl (by simp), step_move rfl (Ev.base (by kernel_rfl) rfl) rfl (by simp), step_few rfl (Ev.item 14 (by kernel_rfl) (by kernel_rfl) rfl rfl) (fun w hb => HLB3.out.bel hb) HNB.out rfl (by simp), step_app 13 rfl (by kernel_rfl) rfl rfl rfl (EvRow.item 15 (by kernel_rfl) (by kernel_rfl) rfl rfl) (by (try simp only [LL]); omega) rfl (by simp), step_pass 16 (.inr rfl) (by kernel_rfl) rfl rfl rfl (by simp), True.intro⟩
 intro xs w9 hxs hbel hgr hh
 replace hxs : xs.length = 18 := hxs
 obtain ⟨x0, ys0, rfl, hx0⟩ := len_succ hxs
 obtain ⟨x1, ys1, rfl, hx1⟩ := len_succ hx0
 obtain ⟨x2, ys2, rfl, hx2⟩ := len_succ hx1
 obtain ⟨x3, ys3, rfl, hx3⟩ := len_succ hx2
 obtain ⟨x4, ys4, rfl, hx4⟩ := len_succ hx3
 obtain ⟨x5, ys5, rfl, hx5⟩ := len_succ hx4
 obtain ⟨x6, ys6, rfl, hx6⟩ := len_succ hx5
 obtain ⟨x7, ys7, rfl, hx7⟩ := len_succ hx6
 obtain ⟨x8, ys8, rfl, hx8⟩ := len_succ hx7
 obtain ⟨x9, ys9, rfl, hx9⟩ := len_succ hx8
 obtain ⟨x10, ys10, rfl, hx10⟩ := len_succ hx9
 obtain ⟨x11, ys11, rfl, hx11⟩ := len_succ hx10
 obtain ⟨x12, ys12, rfl, hx12⟩ := len_succ hx11
 obtain ⟨x13, ys13, rfl, hx13⟩ := len_succ hx12
 obtain ⟨x14, ys14, rfl, hx14⟩ := len_succ hx13
 obtain ⟨x15, ys15, rfl, hx15⟩ := len_succ hx14
 obtain ⟨x16, ys16, rfl, hx16⟩ := len_succ hx15
 obtain ⟨x17, ys17, rfl, hx17⟩ := len_succ hx16
 obtain rfl := len_zero hx17
 clear hxs hx0 hx1 hx2 hx3 hx4 hx5 hx6 hx7 hx8 hx9 hx10 hx11 hx12 hx13 hx14 hx15 hx16 hx17
 replace hh : Hold w3.heap.size w9 [(x17, .row ((([] ++ (Tr.toks t)) ++ [te]) ++ (fewL LB)))] := hh
 obtain ⟨A9, c9, e9, -, -⟩ := Own.rd hh.own
 have hI : ((([] ++ (Tr.toks t)) ++ [te]) ++ (fewL LB)) = Tr.toks t ++ (te :: fewL LB) := by simp
 have hown := hh.own
 rw [hI] at hown e9
 obtain ⟨r9, hr9⟩ : ∃ r, (Tr.toks t ++ (te :: fewL LB)).length = r := ⟨_, rfl⟩
 rw [hr9] at e9
 subst e9
 have hr9b : r9 ≤ 17414258800 := by
  rw [← hr9, List.length_append, List.length_cons, HL2.out]
  have := few_len LB
  omega
 have HL9 := qh hr9
 have HO9 := qh hown
 have HB9 := qh (HB3.out.trans (below_low hbel HB3.out.size))
 have HRW9 := qh (HRW3.out.belw hbel)
 clear hh hI hown hbel hgr hr9 hq hwa hq20 htl hfw
 simp only [List.zip_cons_cons, List.zip_nil_left, List.zip_nil_right, putAll]
 simp only [Act.put, PQ]
 obtain ⟨r, hp, hN, hU, hE, hTt⟩ := good_parse (rest := te :: fewL LB) HG.out HD.out (ends_no te (List.mem_of_getElem? HTE.out))
 have HP := qh hp
 have HN : Hid (nodeOf r = (r1 : Int) - 1) := qh (by rw [hN, HS.out])
 have HU : Hid (usedOf r = (r2 : Int)) := qh (by rw [hU, HL2.out])
 have HE := qh hE
 have HTt := qh hTt
 clear hp hN hU hE hTt
 go_upto_region 8 with (go_at_call 16; go_must (refine (told_is (m := r1) HFL.out HP.out HN.out HU.out HE.out HTt.out (OwnT.rdm HO9.out HL9.out) (OwnT.old HO9.out) HL9.out (by omega) (smallA (short_ok (good_short HG.out)) (fun x hx => (List.mem_cons.1 hx).elim (fun e => by rw [e]; exact Nat.le_trans (ends_short te (List.mem_of_getElem? HTE.out)) (by decide)) (few_small LB x))) (HT.out.below HB9.out)).mono ?_); rintro e w10 ⟨A3, c3, rfl, hrn, hbn⟩; have HRN := qh hrn; have HR3 := qh (HRW9.out.belw hbn); have HB10 := qh (HB9.out.trans (below_low hbn HB9.out.size)); clear hrn hbn)
 have hk4 := Blk.new w10 31 #[.int .i64 ((r1 : Int) - 1), .int .i64 (r2 : Int), .int .i64 0, .slice A3 r1 c3]
 have hbw4 := bel_one w10 (.cells #[.int .i64 ((r1 : Int) - 1), .int .i64 (r2 : Int), .int .i64 0, .slice A3 r1 c3] 31)
 have HK4 := qh hk4
 have HRN4 := qh (HRN.out.belw hbw4)
 have HR4 := qh (HR3.out.belw hbw4)
 have HB4 := qh (HB10.out.trans (below_low hbw4 HB10.out.size))
 clear hk4 hbw4
 generalize w10.alloc (.cells #[.int .i64 ((r1 : Int) - 1), .int .i64 (r2 : Int), .int .i64 0, .slice A3 r1 c3] 31) = W4 at HK4 HRN4 HR4 HB4 ⊢
 generalize w10.heap.size = g4 at HK4 ⊢
 have y40 := HK4.out.cell 0
 have y41 := HK4.out.cell 1
 have y42 := HK4.out.cell 2
 have y43 := HK4.out.cell 3
 have l4 := HK4.out.lt
 simp only [GG] at y40 y41 y42 y43
 go_wp2_with (first | (have hmk := HB9x.out; clear hmk; go_at_call 17; go_must (refine (equal_same HQ9.out HW9.out.rdm HW9.out.kl).mono ?_); rintro e w10 ⟨rfl, hb⟩; have HB10x := qh (HB9x.out.trans (below_low hb HB9x.out.size)); clear hb) | (go_at_call 18; go_must (refine (bare_any HRN4.out (by omega) (tflat_at 0 t)).mono ?_); rintro e w9 ⟨A9b, c9b, rfl, hq, hb⟩; have HQ9 := qh hq; have HW9 := qh (HR4.out.belw hb); have HB9x := qh (HB4.out.trans (below_low hb HB4.out.size)); clear hq hb))
 go_ret
 exact ⟨rfl, HB10x.out⟩
theorem stops_int {w : World} {A : Option Addr} {n c nb cb : Nat} {AB : Option Addr} {S : List Int} {LB : List TokD} (b a : Int) (hb : (Lit.int .u8 b).wf = true) (ha : (Lit.int .u8 a).wf = true) (hrd : Rd w A n c 1 (ics S)) (hl : S.length = n) (hsr : ∀ x ∈ S, -9223372036854775808 ≤ x ∧ x ≤ 9223372036854775807) (hA : ∀ b o, A = some ⟨b, o, none⟩ → b < w.heap.size) (hlb : Rd w AB nb cb 4 (LB.flatMap tcs)) (hnb : LB.length = nb) (htab : Asp w) : Calls Tryd.prog 4 #[.slice A n c, .agg #[.int .u8 b, .int .u8 a], .slice AB nb cb] w fun e w' => e = .returned (.bool true) ∧ Below w.heap.size w w' := by
 obtain ⟨k, rfl, hk⟩ := byte_of hb
 obtain ⟨j, rfl, hj⟩ := byte_of ha
 exact stops_walk hrd hl hsr hA hk hj hlb hnb htab
end
end Go.Proofs.YtjdcicopjipmnaaDoor
