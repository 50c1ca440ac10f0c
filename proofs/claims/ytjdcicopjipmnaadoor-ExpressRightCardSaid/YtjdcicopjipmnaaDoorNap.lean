/- tok: the token so many on. tok, whole. is: does a word, or a sign, stand so many on? fail. any: takes one of some words, or signs. take, need. need. name. -/
import Derived.Test.YtjdcicopjipmnaaDoorLev
import Derived.Deep.RegionHeld3
import Derived.IntWalk
import Derived.Deep.QuietTactic
import Derived.BigQuiet
import Derived.StillTailTactics
namespace Go.Proofs.YtjdcicopjipmnaaDoor
open Go.RowKit
set_option linter.unusedVariables false
set_option linter.unusedSimpArgs false
attribute [local go_sem] Oper.semAt_some
/-- a parser's cells -/
def pcs (bb : Nat) (lv : Value) (mb : Nat) (s : PS) : Array Value := #[.pointer (some ⟨bb, 0, none⟩), lv, .int .i64 s.at_, .int .i64 s.bad, .int .i64 s.e, .map (some mb)]
def tcs (t : TokD) : List Value := [.int .i64 t.k, .int .i64 t.at_, .string t.s, .int .i64 t.n]
def tokV (t : TokD) : Value := .agg (tcs t).toArray
set_option maxRecDepth 100000 in
set_option maxHeartbeats 1000000 in
theorem tok_bad {w : World} {pb bb mb n c : Nat} {A : Option Addr} {s : PS} (hP : Blk w pb 98 (pcs bb (.slice A n c) mb s)) (he : s.e ≠ 0) (by_ : Nat) :
    Calls Tryd.prog 76 #[.pointer (some ⟨pb, 0, none⟩), .int .i64 by_] w fun e w' => e = .returned (tokV zeroT) ∧ Below w.heap.size w w' := by
  have c4 := hP.cell 4
  have hlt := hP.lt
  have hfz := hP.frozen 4
  simp only [pcs, List.getElem?_toArray, List.getElem?_cons_zero, List.getElem?_cons_succ] at c4
  have he' : (s.e == 0) = false := by simpa using he
  clear hP
  go_enter Tryd.func76, Tryd.ntmps76
  go_wp2_with fail
  go_quiet (fail)
  go_wp2_with fail
  exact bodyPost_ret (v := tokV zeroT) (by simp [results, Tryd.results76, go_sem]; rfl) rfl ⟨rfl, (by repeat (first | exact Below.refl _ _ | assumption | refine Below.setCell ?_ (by first | (simp; done) | (simp; omega) | omega) _ | refine below_drewN ?_ _ | refine Below.drew ?_ | refine Below.alloc ?_ (by first | (simp; done) | (simp; omega) | omega) _))⟩
set_option maxRecDepth 100000 in
set_option maxHeartbeats 1000000 in
theorem tok_out {w : World} {pb bb mb n c : Nat} {A : Option Addr} {s : PS} (hP : Blk w pb 98 (pcs bb (.slice A n c) mb s)) (he : s.e = 0) (by_ : Nat) (hn : n ≤ s.at_ + by_) (hs : s.at_ + by_ ≤ 9223372036854775807) :
    Calls Tryd.prog 76 #[.pointer (some ⟨pb, 0, none⟩), .int .i64 by_] w fun e w' => e = .returned (tokV zeroT) ∧ Below w.heap.size w w' := by
  have c4 := hP.cell 4
  have c1 := hP.cell 1
  have c2 := hP.cell 2
  have hlt := hP.lt
  simp only [pcs, List.getElem?_toArray, List.getElem?_cons_zero, List.getElem?_cons_succ] at c4 c1 c2
  rw [he] at c4
  have hw : IntKind.i64.wrap ((s.at_ : Int) + (by_ : Int)) = (s.at_ : Int) + (by_ : Int) := IntWalk.i64_in _ (by omega)
  have hd : decide ((n : Int) ≤ (s.at_ : Int) + (by_ : Int)) = true := decide_eq_true (by omega)
  clear hP
  go_enter Tryd.func76, Tryd.ntmps76
  go_wp2_with fail
  go_quiet (fail)
  go_wp2_with fail
  exact bodyPost_ret (v := tokV zeroT) (by simp [results, Tryd.results76, go_sem]; rfl) rfl ⟨rfl, (by repeat (first | exact Below.refl _ _ | assumption | refine Below.setCell ?_ (by first | (simp; done) | (simp; omega) | omega) _ | refine below_drewN ?_ _ | refine Below.drew ?_ | refine Below.alloc ?_ (by first | (simp; done) | (simp; omega) | omega) _))⟩
set_option maxRecDepth 100000 in
set_option maxHeartbeats 1000000 in
theorem tok_in {w : World} {pb bb mb n c b o : Nat} {s : PS} {t : TokD} (hP : Blk w pb 98 (pcs bb (.slice (some ⟨b, o, none⟩) n c) mb s)) (he : s.e = 0) (by_ : Nat) (hn : s.at_ + by_ < n) (hs : n ≤ 9223372036854775807) (hb : b < w.heap.size)
    (hc : ∀ j u, (tcs t)[j]? = some u → w.cell? ⟨b, o + (s.at_ + by_) * 4 + j, none⟩ = some u) :
    Calls Tryd.prog 76 #[.pointer (some ⟨pb, 0, none⟩), .int .i64 by_] w fun e w' => e = .returned (tokV t) ∧ Below w.heap.size w w' := by
  have c4 := hP.cell 4
  have c1 := hP.cell 1
  have c2 := hP.cell 2
  have hlt := hP.lt
  simp only [pcs, List.getElem?_toArray, List.getElem?_cons_zero, List.getElem?_cons_succ] at c4 c1 c2
  rw [he] at c4
  have hw : IntKind.i64.wrap ((s.at_ : Int) + (by_ : Int)) = ((s.at_ + by_ : Nat) : Int) := by rw [IntWalk.i64_in _ (by omega)]; omega
  have hd : decide ((n : Int) ≤ ((s.at_ + by_ : Nat) : Int)) = false := decide_eq_false (by omega)
  have z0 := hc 0 _ rfl
  have z1 := hc 1 _ rfl
  have z2 := hc 2 _ rfl
  have z3 := hc 3 _ rfl
  generalize s.at_ + by_ = k at *
  simp only [Nat.add_zero] at z0
  have HP := Lib.hid hP
  have s9 : IntKind.i64.wrap (k : Int) = (k : Int) := IntWalk.i64_in _ (by omega)
  clear hP hc
  go_enter Tryd.func76, Tryd.ntmps76
  go_wp2_with fail
  go_quiet (fail)
  go_wp2_with fail
  generalize hW : World.drewN (w.alloc _) _ = W1
  have hb1 : Below w.heap.size w W1 := by rw [← hW]; exact (by repeat (first | exact Below.refl _ _ | assumption | refine Below.setCell ?_ (by first | (simp; done) | (simp; omega) | omega) _ | refine below_drewN ?_ _ | refine Below.drew ?_ | refine Below.alloc ?_ (by first | (simp; done) | (simp; omega) | omega) _))
  have hx1 : Blk W1 w.heap.size 39 #[.int .i64 0, .int .i64 0, .string ⟨#[]⟩, .int .i64 0] := by
    rw [← hW]
    exact (Blk.new w 39 _).mod (S := fun _ => False) (by repeat (first | exact Mod.refl _ _ | assumption | refine Mod.setCell ?_ (by intro hx__; first | (simp at hx__; done) | (exfalso; revert hx__; simp; done) | assumption | skip) _ | refine Mod.drewN ?_ _ | refine Mod.drew ?_ | refine Mod.alloc ?_ _)) id
  have hm1 : Mod (fun _ => False) w W1 := Mod.new hb1
  have hP1 := HP.out.mod hm1 id
  have c1 := hP1.cell 1
  have c2 := hP1.cell 2
  have hlt1 := hP1.lt
  simp only [pcs, List.getElem?_toArray, List.getElem?_cons_zero, List.getElem?_cons_succ] at c1 c2
  have z0 := (hm1.cell (p := ⟨b, o + k * 4, none⟩) hb id).trans z0
  have z1 := (hm1.cell (p := ⟨b, o + k * 4 + 1, none⟩) hb id).trans z1
  have z2 := (hm1.cell (p := ⟨b, o + k * 4 + 2, none⟩) hb id).trans z2
  have z3 := (hm1.cell (p := ⟨b, o + k * 4 + 3, none⟩) hb id).trans z3
  have HB1 := Lib.hid hb1
  have HX1 := Lib.hid hx1
  have HW := Lib.hid hW
  clear hW hP1 hb1 hx1 hm1
  go_still_tail 12, (by kernel_rfl)
  change wpList _ _ _ _ _ W1.drew
  have hW := HW.out
  clear HX1 HB1 HW z0 z1 z2 z3 c1 c2 hlt1
  subst hW
  go_wp2_with fail
  exact bodyPost_ret (v := tokV t) (by simp [results, Tryd.results76, go_sem]; rfl) rfl ⟨rfl, (by repeat (first | exact Below.refl _ _ | assumption | refine Below.setCell ?_ (by first | (simp; done) | (simp; omega) | omega) _ | refine below_drewN ?_ _ | refine Below.drew ?_ | refine Below.alloc ?_ (by first | (simp; done) | (simp; omega) | omega) _))⟩

theorem tcs_len (t : TokD) : (tcs t).length = 4 := rfl
theorem flat_at : ∀ {L : List TokD} {k : Nat} {t : TokD}, L[k]? = some t → ∀ j u, (tcs t)[j]? = some u → (L.flatMap tcs)[k * 4 + j]? = some u
  | [], k, t, h, j, u, hu => by simp at h
  | x :: L, 0, t, h, j, u, hu => by
    obtain rfl : x = t := by simpa using h
    rw [List.flatMap_cons, List.getElem?_append_left (by have := (List.getElem?_eq_some_iff.1 hu).1; omega), Nat.zero_mul, Nat.zero_add]
    exact hu
  | x :: L, k + 1, t, h, j, u, hu => by
    rw [List.flatMap_cons, List.getElem?_append_right (by rw [tcs_len]; omega), tcs_len]
    have e : (k + 1) * 4 + j - 4 = k * 4 + j := by omega
    rw [e]
    exact flat_at (by simpa using h) j u hu
theorem tok_any {w : World} {pb bb mb n c : Nat} {A : Option Addr} {s : PS} {L : List TokD} (hP : Blk w pb 98 (pcs bb (.slice A n c) mb s)) (hL : Rd w A n c 4 (L.flatMap tcs)) (hn : L.length = n) (by_ : Nat) (hs : s.at_ + by_ ≤ 9223372036854775807) :
    Calls Tryd.prog 76 #[.pointer (some ⟨pb, 0, none⟩), .int .i64 by_] w fun e w' => e = .returned (tokV (tokP L s by_)) ∧ Below w.heap.size w w' := by
  by_cases he : s.e = 0
  · by_cases hk : s.at_ + by_ < n
    · obtain ⟨h1, h2, h3, h4⟩ := hL
      obtain ⟨b, o, rfl, hb, hc⟩ := h4 (by omega)
      obtain ⟨t, ht⟩ : ∃ t, L[s.at_ + by_]? = some t := ⟨_, List.getElem?_eq_getElem (by omega)⟩
      have e : tokP L s by_ = t := by unfold tokP; rw [if_neg (by simpa using he), ht]; rfl
      rw [e]
      exact tok_in hP he by_ hk (by omega) hb fun j u hu => by
        have := hc _ u (flat_at ht j u hu)
        rwa [← Nat.add_assoc] at this
    · have e : tokP L s by_ = zeroT := by unfold tokP; rw [if_neg (by simpa using he), List.getElem?_eq_none (by omega)]; rfl
      rw [e]
      exact tok_out hP he by_ (by omega) hs
  · have e : tokP L s by_ = zeroT := by unfold tokP; rw [if_pos he]
    rw [e]
    exact tok_bad hP he by_

theorem Rd.bel {w w' : World} {A : Option Addr} {n c sz : Nat} {cs : List Value} (h : Rd w A n c sz cs) (hb : Below w.heap.size w w') : Rd w' A n c sz cs := h.keep hb.size fun b o _ hlt => hb.block b hlt
theorem Blk.bel {w w' : World} {g : Nat} {t : TypeId} {cs : Array Value} (h : Blk w g t cs) (hb : Below w.heap.size w w') : Blk w' g t cs := h.mod (S := fun _ => False) (Mod.new hb) id
set_option maxRecDepth 100000 in
set_option maxHeartbeats 2000000 in
theorem is_any {w : World} {pb bb mb n c : Nat} {A : Option Addr} {s : PS} {L : List TokD} (hP : Blk w pb 98 (pcs bb (.slice A n c) mb s)) (hL : Rd w A n c 4 (L.flatMap tcs)) (hn : L.length = n) (t : ByteArray) (ht : t.size ≤ maxLen) (by_ : Nat) (hs : s.at_ + by_ ≤ 9223372036854775807) (htab : Asp w) :
    Calls Tryd.prog 102 #[.pointer (some ⟨pb, 0, none⟩), .string t, .int .i64 by_] w fun e w' => e = .returned (.bool (isP L s t by_)) ∧ Below w.heap.size w w' := by
  unfold isP
  have K1 := Lib.hid (keyword_any t ht w htab)
  have K2 : Hid (∀ w', Below w.heap.size w w' → Calls Tryd.prog 76 #[.pointer (some ⟨pb, 0, none⟩), .int .i64 by_] w' fun e w2 => e = .returned (.agg #[.int .i64 (tokP L s by_).k, .int .i64 (tokP L s by_).at_, .string (tokP L s by_).s, .int .i64 (tokP L s by_).n]) ∧ Below w'.heap.size w' w2) :=
    Lib.hid fun w' hb => tok_any (hP.bel hb) (hL.bel hb) hn by_ hs
  generalize tokP L s by_ = T at *
  obtain ⟨k, a, sx, m⟩ := T
  simp only at K2 ⊢
  clear hP hL hs hn htab ht
  by_cases h2 : sx = t
  · subst h2
    cases hk : kwB sx with
    | true =>
      rw [hk] at K1
      go_enter Tryd.func102, Tryd.ntmps102
      go_wp2_with (first | (go_at_call 45; refine K1.out.mono ?_; rintro e w1 ⟨rfl, hb⟩; have HB := Lib.hid hb; clear hb) | (go_at_call 76; refine (K2.out _ HB.out).mono ?_; rintro e w2 ⟨rfl, hb⟩; have HB := Lib.hid (HB.out.trans (hb.mono HB.out.size)); clear hb))
      all_goals (go_ret; exact ⟨ret_b (by simp_all), HB.out.alloc HB.out.size _⟩)
    | false =>
      rw [hk] at K1
      go_enter Tryd.func102, Tryd.ntmps102
      go_wp2_with (first | (go_at_call 45; refine K1.out.mono ?_; rintro e w1 ⟨rfl, hb⟩; have HB := Lib.hid hb; clear hb) | (go_at_call 76; refine (K2.out _ HB.out).mono ?_; rintro e w2 ⟨rfl, hb⟩; have HB := Lib.hid (HB.out.trans (hb.mono HB.out.size)); clear hb))
      all_goals (go_ret; exact ⟨ret_b (by simp_all), HB.out.alloc HB.out.size _⟩)
  · have hne := toList_no h2
    cases hk : kwB t with
    | true =>
      rw [hk] at K1
      go_enter Tryd.func102, Tryd.ntmps102
      go_wp2_with (first | (go_at_call 45; refine K1.out.mono ?_; rintro e w1 ⟨rfl, hb⟩; have HB := Lib.hid hb; clear hb) | (go_at_call 76; refine (K2.out _ HB.out).mono ?_; rintro e w2 ⟨rfl, hb⟩; have HB := Lib.hid (HB.out.trans (hb.mono HB.out.size)); clear hb))
      all_goals (go_ret; exact ⟨ret_b (by simp_all), HB.out.alloc HB.out.size _⟩)
    | false =>
      rw [hk] at K1
      go_enter Tryd.func102, Tryd.ntmps102
      go_wp2_with (first | (go_at_call 45; refine K1.out.mono ?_; rintro e w1 ⟨rfl, hb⟩; have HB := Lib.hid hb; clear hb) | (go_at_call 76; refine (K2.out _ HB.out).mono ?_; rintro e w2 ⟨rfl, hb⟩; have HB := Lib.hid (HB.out.trans (hb.mono HB.out.size)); clear hb))
      all_goals (go_ret; exact ⟨ret_b (by simp_all), HB.out.alloc HB.out.size _⟩)

set_option maxRecDepth 100000 in
set_option maxHeartbeats 2000000 in
theorem fail_any {w : World} {pb bb mb : Nat} {lv : Value} {s : PS} (hP : Blk w pb 98 (pcs bb lv mb s)) (e at_ : Int) :
    Calls Tryd.prog 96 #[.pointer (some ⟨pb, 0, none⟩), .int .i64 e, .int .i64 at_] w fun r w' => r = .returned (.int .i64 (-1)) ∧ Blk w' pb 98 (pcs bb lv mb (failP s e at_)) ∧ Mod (· = pb) w w' := by
  have c4 := hP.cell 4
  have c3 := hP.cell 3
  have hlt := hP.lt
  have f4 := hP.frozen 4
  have f3 := hP.frozen 3
  have HP := Lib.hid hP
  simp only [pcs, List.getElem?_toArray, List.getElem?_cons_zero, List.getElem?_cons_succ] at c4 c3
  clear hP
  by_cases he : s.e = 0
  · rw [he] at c4
    go_enter Tryd.func96, Tryd.ntmps96
    go_wp2_with fail
    go_ret
    refine ⟨rfl, ?_, Mod.setCell (S := (· = pb)) (p := ⟨pb, 3, none⟩) (Mod.setCell (S := (· = pb)) (p := ⟨pb, 4, none⟩) (Mod.refl _ _) (fun _ => rfl) _) (fun _ => rfl) _⟩
    have h := (HP.out.set_ 4 (.int .i64 e)).set_ 3 (.int .i64 at_)
    unfold failP
    rw [if_pos he]
    exact h
  · have he' : (s.e == 0) = false := by simpa using he
    go_enter Tryd.func96, Tryd.ntmps96
    go_wp2_with fail
    go_ret
    unfold failP
    rw [if_neg he]
    exact ⟨rfl, HP.out, Mod.refl _ _⟩

theorem anyP_at {L : List TokD} {s : PS} {t : ByteArray} : ∀ {l : List ByteArray} {k : Nat}, l[k]? = some t → isP L s t 0 = true → (∀ (j : Nat) x, j < k → l[j]? = some x → isP L s x 0 = false) → anyP L l s = (stepP s 1, t, true)
  | [], k, h, _, _ => by simp at h
  | y :: l, 0, h, h1, _ => by
    obtain rfl : y = t := by simpa using h
    unfold anyP
    rw [if_pos h1]
  | y :: l, k + 1, h, h1, h0 => by
    unfold anyP
    rw [if_neg (by rw [h0 0 y (by omega) rfl]; exact Bool.false_ne_true)]
    exact anyP_at (k := k) (by simpa using h) h1 fun j x hj hx => h0 (j + 1) x (by omega) (by simpa using hx)
theorem anyP_no {L : List TokD} {s : PS} : ∀ {l : List ByteArray}, (∀ (j : Nat) x, l[j]? = some x → isP L s x 0 = false) → anyP L l s = (s, ⟨#[]⟩, false)
  | [], _ => rfl
  | y :: l, h0 => by
    unfold anyP
    rw [if_neg (by rw [h0 0 y rfl]; exact Bool.false_ne_true)]
    exact anyP_no fun j x hx => h0 (j + 1) x (by simpa using hx)
set_option maxRecDepth 100000 in
set_option maxHeartbeats 2000000 in
theorem any_any {w : World} {pb bb mb n c q r : Nat} {A B : Option Addr} {s : PS} {L : List TokD} {l : List ByteArray} (hP : Blk w pb 98 (pcs bb (.slice A n c) mb s)) (hL : Rd w A n c 4 (L.flatMap tcs)) (hn : L.length = n) (hB : Rd w B q r 1 (l.map Value.string)) (hl : l.length = q) (ht : ∀ t ∈ l, t.size ≤ maxLen) (hs : s.at_ + 1 ≤ 9223372036854775807) (htab : Asp w) :
    Calls Tryd.prog 94 #[.pointer (some ⟨pb, 0, none⟩), .slice B q r] w fun e w' => e = .returned (.tuple #[.string (anyP L l s).2.1, .bool (anyP L l s).2.2]) ∧ Blk w' pb 98 (pcs bb (.slice A n c) mb (anyP L l s).1) ∧ Mod (· = pb) w w' := by
  have hq := hB.le
  have HP := Lib.hid hP
  have HB := Lib.hid hB
  have HT := Lib.hid ht
  have K : Hid (∀ w', Below w.heap.size w w' → ∀ t ∈ l, Calls Tryd.prog 102 #[.pointer (some ⟨pb, 0, none⟩), .string t, .int .i64 0] w' fun e w2 => e = .returned (.bool (isP L s t 0)) ∧ Below w'.heap.size w' w2) :=
    Lib.hid fun w' hb t ht' => is_any (hP.bel hb) (hL.bel hb) hn t (ht t ht') 0 (by omega) (htab.below hb)
  clear hP hL hB ht htab
  go_enter Tryd.func94, Tryd.ntmps94
  go_wp2_with fail
  go_loopw [10] (fun i wr => ∃ k : Nat, k ≤ q ∧ i = .int .i64 k ∧ Hid (∀ (j : Nat) x, j < k → l[j]? = some x → isP L s x 0 = false) ∧ Below w.heap.size w wr) (fun i _ => q - (intOf i).toNat)
  case atStart => exact ⟨0, Nat.zero_le _, rfl, Lib.hid fun j x hj => absurd hj (by omega), Below.refl _ _⟩
  case round =>
    obtain ⟨k, hk, rfl, H0, hbel⟩ := hrel
    have HW := Lib.hid hbel
    by_cases hlt : k < q
    · obtain ⟨b, o, rfl, hb, hc⟩ := (HB.out.bel hbel).2.2.2 (by omega)
      obtain ⟨x, hx⟩ : ∃ x, l[k]? = some x := ⟨_, List.getElem?_eq_getElem (by omega)⟩
      have hce : wr.cell? ⟨b, o + k, none⟩ = some (.string x) := hc k _ (by rw [List.getElem?_map, hx]; rfl)
      have KX := Lib.hid (K.out wr hbel x (List.mem_of_getElem? hx))
      have HX := Lib.hid hx
      clear hx hc hbel
      cases hi : isP L s x 0 with
      | true =>
        rw [hi] at KX
        have HI := Lib.hid hi
        clear hi
        go_wp2_with (go_at_call 102; refine KX.out.mono ?_; rintro e w2 ⟨rfl, hb2⟩; have HB2 := Lib.hid (HW.out.trans (hb2.mono HW.out.size)); have hP2 := HP.out.bel HB2.out; have c2 := hP2.cell 2; have f2 := hP2.frozen 2; have hlt2 := hP2.lt; have HP2 := Lib.hid hP2; simp only [pcs, List.getElem?_toArray, List.getElem?_cons_zero, List.getElem?_cons_succ] at c2; clear hP2 hb2)
        refine bodyPost_ret (v := .tuple #[.string x, .bool true]) (by first | (simp [results, Tryd.results94, go_sem]; done) | (simp [results, Tryd.results94, go_sem]; rfl)) rfl ?_
        rw [anyP_at HX.out HI.out H0.out]
        exact ⟨rfl, HP2.out.set_ 2 (.int .i64 ((s.at_ : Int) + 1)), Mod.setCell (S := (· = pb)) (p := ⟨pb, 2, none⟩) (Mod.new HB2.out) (fun _ => rfl) _⟩
      | false =>
        rw [hi] at KX
        have HI := Lib.hid hi
        clear hi
        go_wp2_with (go_at_call 102; refine KX.out.mono ?_; rintro e w2 ⟨rfl, hb2⟩; have HB2 := Lib.hid (HW.out.trans (hb2.mono HW.out.size)); clear hb2)
        go_round
        case rel =>
          refine ⟨k + 1, by omega, by go_num, Lib.hid fun j y hj hy => ?_, HB2.out⟩
          by_cases e : j = k
          · subst e
            rw [HX.out] at hy
            obtain rfl := Option.some.inj hy
            exact HI.out
          · exact H0.out j y (by omega) hy
        case measure => simp [intOf]; omega
    · obtain rfl : k = q := by omega
      have e := anyP_no (L := L) (s := s) (l := l) fun j x hx => H0.out j x (by have := (List.getElem?_eq_some_iff.1 hx).1; omega) hx
      have E := Lib.hid e
      have HP2 := Lib.hid (HP.out.bel HW.out)
      clear e
      go_wp2_with fail
      refine bodyPost_ret (v := .tuple #[.string ⟨#[]⟩, .bool false]) (by first | (simp [results, Tryd.results94, go_sem]; done) | (simp [results, Tryd.results94, go_sem]; rfl)) rfl ?_
      rw [E.out]
      exact ⟨rfl, HP2.out, Mod.new HW.out⟩

set_option maxRecDepth 100000 in
set_option maxHeartbeats 2000000 in
theorem take_any {w : World} {pb bb mb n c : Nat} {A : Option Addr} {s : PS} {L : List TokD} (hP : Blk w pb 98 (pcs bb (.slice A n c) mb s)) (hL : Rd w A n c 4 (L.flatMap tcs)) (hn : L.length = n) (t : ByteArray) (ht : t.size ≤ maxLen) (hs : s.at_ + 1 ≤ 9223372036854775807) (htab : Asp w) :
    Calls Tryd.prog 77 #[.pointer (some ⟨pb, 0, none⟩), .string t] w fun e w' => e = .returned (.bool (takeP L t s).2) ∧ Blk w' pb 98 (pcs bb (.slice A n c) mb (takeP L t s).1) ∧ Mod (· = pb) w w' := by
  have hb : Below w.heap.size w (w.alloc (.cells #[.string t] 9)) := (by repeat (first | exact Below.refl _ _ | assumption | refine Below.setCell ?_ (by first | (simp; done) | (simp; omega) | omega) _ | refine below_drewN ?_ _ | refine Below.drew ?_ | refine Below.alloc ?_ (by first | (simp; done) | (simp; omega) | omega) _))
  have hr : Rd (w.alloc (.cells #[.string t] 9)) (some ⟨w.heap.size, 0, none⟩) 1 1 1 ([t].map Value.string) := by
    refine ⟨Nat.le_refl _, by omega, rfl, fun _ => ⟨w.heap.size, 0, rfl, by simp, fun j u hj => ?_⟩⟩
    rw [Nat.zero_add, (Blk.new w 9 _).cell]
    simpa using hj
  have K := Lib.hid (any_any (hP.bel hb) (hL.bel hb) hn hr rfl (by intro x hx; obtain rfl := List.mem_singleton.1 hx; exact ht) hs (htab.below hb))
  have HB := Lib.hid hb
  unfold takeP
  clear hP hL hr hb htab
  go_enter Tryd.func77, Tryd.ntmps77
  go_wp2_with (go_at_call 94; refine K.out.mono ?_; rintro e w1 ⟨rfl, hp, hm⟩; have HP := Lib.hid hp; have HM := Lib.hid hm; clear hp hm)
  go_ret
  exact ⟨rfl, HP.out, Mod.trans (Mod.new HB.out) HM.out fun _ _ h => h⟩

set_option maxRecDepth 100000 in
set_option maxHeartbeats 2000000 in
theorem need_any {w : World} {pb bb mb n c : Nat} {A : Option Addr} {s : PS} {L : List TokD} (hP : Blk w pb 98 (pcs bb (.slice A n c) mb s)) (hL : Rd w A n c 4 (L.flatMap tcs)) (hn : L.length = n) (t : ByteArray) (ht : t.size ≤ maxLen) (hs : s.at_ + 1 ≤ 9223372036854775807) (htab : Asp w) :
    Calls Tryd.prog 81 #[.pointer (some ⟨pb, 0, none⟩), .string t] w fun e w' => e = .returned (.tuple #[]) ∧ Blk w' pb 98 (pcs bb (.slice A n c) mb (needP L t s)) ∧ Mod (· = pb) w w' := by
  have K := Lib.hid (take_any hP hL hn t ht hs htab)
  unfold needP
  generalize takeP L t s = R at *
  obtain ⟨s1, y⟩ := R
  simp only at K ⊢
  clear hP hL htab
  cases y with
  | true =>
    go_enter Tryd.func81, Tryd.ntmps81
    go_wp2_with (go_at_call 77; refine K.out.mono ?_; rintro e w1 ⟨rfl, hp, hm⟩; have HP := Lib.hid hp; have HM := Lib.hid hm; clear hp hm)
    go_end0
    exact ⟨rfl, HP.out, HM.out⟩
  | false =>
    go_enter Tryd.func81, Tryd.ntmps81
    go_wp2_with (first | (go_at_call 77; refine K.out.mono ?_; rintro e w1 ⟨rfl, hp, hm⟩; have c2 := hp.cell 2; have hlt := hp.lt; have HP := Lib.hid hp; have HM := Lib.hid hm; simp only [pcs, List.getElem?_toArray, List.getElem?_cons_zero, List.getElem?_cons_succ] at c2; clear hp hm) | (go_at_call 96; refine (fail_any HP.out 30 _).mono ?_; rintro e w2 ⟨rfl, hp, hm⟩; have HP2 := Lib.hid hp; have HM2 := Lib.hid hm; clear hp hm))
    go_end0
    exact ⟨rfl, HP2.out, Mod.trans HM.out HM2.out fun _ _ h => h⟩

theorem tokP_small {L : List TokD} (hts : ∀ t ∈ L, t.s.size ≤ maxLen) (s : PS) (by_ : Nat) : (tokP L s by_).s.size ≤ maxLen := by
  unfold tokP
  split
  · exact Nat.zero_le _
  · cases h : L[s.at_ + by_]? with
    | none => exact Nat.zero_le _
    | some t => exact hts t (List.mem_of_getElem? h)
set_option maxRecDepth 100000 in
set_option maxHeartbeats 2000000 in
theorem namep_any {w : World} {pb bb mb n c : Nat} {A : Option Addr} {s : PS} {L : List TokD} (hP : Blk w pb 98 (pcs bb (.slice A n c) mb s)) (hL : Rd w A n c 4 (L.flatMap tcs)) (hn : L.length = n) (hts : ∀ t ∈ L, t.s.size ≤ maxLen) (hs : s.at_ + 1 ≤ 9223372036854775807) (htab : Asp w) :
    Calls Tryd.prog 95 #[.pointer (some ⟨pb, 0, none⟩)] w fun e w' => e = .returned (.string (nameP L s).2) ∧ Blk w' pb 98 (pcs bb (.slice A n c) mb (nameP L s).1) ∧ Mod (· = pb) w w' := by
  have K : Hid (Calls Tryd.prog 76 #[.pointer (some ⟨pb, 0, none⟩), .int .i64 0] w fun e w2 => e = .returned (.agg #[.int .i64 (tokP L s 0).k, .int .i64 (tokP L s 0).at_, .string (tokP L s 0).s, .int .i64 (tokP L s 0).n]) ∧ Below w.heap.size w w2) :=
    Lib.hid (tok_any hP hL hn 0 (by omega))
  have hsm := tokP_small hts s 0
  have HP := Lib.hid hP
  unfold nameP
  generalize tokP L s 0 = T at *
  obtain ⟨k, a, sx, m⟩ := T
  simp only at K hsm ⊢
  have KN : Hid (∀ w', Below w.heap.size w w' → Calls Tryd.prog 29 #[.string sx] w' fun e w2 => e = .returned (.bool (nameB sx)) ∧ Below w'.heap.size w' w2) := Lib.hid fun w' hb => name_any sx hsm w' (htab.below hb)
  clear hP hL hts htab hsm
  by_cases hk : k = 1
  · subst hk
    cases hb : nameB sx with
    | true =>
      rw [hb] at KN
      rw [if_pos ⟨rfl, rfl⟩]
      go_enter Tryd.func95, Tryd.ntmps95
      go_wp2_with (first | (go_at_call 76; refine K.out.mono ?_; rintro e w1 ⟨rfl, hb⟩; have HB := Lib.hid hb; clear hb) | (go_at_call 29; refine (KN.out _ (HB.out.alloc HB.out.size _)).mono ?_; rintro e w2 ⟨rfl, hb⟩; have HX := Lib.hid ((Blk.new w1 39 #[.int .i64 1, .int .i64 a, .string sx, .int .i64 m]).bel hb); have HB2 := Lib.hid ((HB.out.alloc HB.out.size _).trans (hb.mono (HB.out.alloc HB.out.size _).size)); have HP2 := Lib.hid (HP.out.bel HB2.out); have c2 := HP2.out.cell 2; have f2 := HP2.out.frozen 2; have hlt := HP2.out.lt; have x2 := HX.out.cell 2; have xl := HX.out.lt; have hne : ¬ w1.heap.size = pb := (by have := HP.out.lt; have := HB.out.size; omega); simp only [pcs, List.getElem?_toArray, List.getElem?_cons_zero, List.getElem?_cons_succ] at c2 x2; clear hb) | (go_at_call 96; refine (fail_any HP2.out 30 _).mono ?_; rintro e w3 ⟨rfl, hp, hm⟩; have HP3 := Lib.hid hp; have HM3 := Lib.hid hm; clear hp hm))
      go_ret
      exact ⟨rfl, HP2.out.set_ 2 (.int .i64 ((s.at_ : Int) + 1)), Mod.setCell (S := (· = pb)) (p := ⟨pb, 2, none⟩) (Mod.new HB2.out) (fun _ => rfl) _⟩
    | false =>
      rw [hb] at KN
      rw [if_neg (by simp)]
      go_enter Tryd.func95, Tryd.ntmps95
      go_wp2_with (first | (go_at_call 76; refine K.out.mono ?_; rintro e w1 ⟨rfl, hb⟩; have HB := Lib.hid hb; clear hb) | (go_at_call 29; refine (KN.out _ (HB.out.alloc HB.out.size _)).mono ?_; rintro e w2 ⟨rfl, hb⟩; have HX := Lib.hid ((Blk.new w1 39 #[.int .i64 1, .int .i64 a, .string sx, .int .i64 m]).bel hb); have HB2 := Lib.hid ((HB.out.alloc HB.out.size _).trans (hb.mono (HB.out.alloc HB.out.size _).size)); have HP2 := Lib.hid (HP.out.bel HB2.out); have c2 := HP2.out.cell 2; have f2 := HP2.out.frozen 2; have hlt := HP2.out.lt; have x2 := HX.out.cell 2; have xl := HX.out.lt; have hne : ¬ w1.heap.size = pb := (by have := HP.out.lt; have := HB.out.size; omega); simp only [pcs, List.getElem?_toArray, List.getElem?_cons_zero, List.getElem?_cons_succ] at c2 x2; clear hb) | (go_at_call 96; refine (fail_any HP2.out 30 _).mono ?_; rintro e w3 ⟨rfl, hp, hm⟩; have HP3 := Lib.hid hp; have HM3 := Lib.hid hm; clear hp hm))
      go_ret
      exact ⟨rfl, HP3.out, Mod.trans (Mod.new HB2.out) HM3.out fun _ _ h => h⟩
  · have hk' : (k == 1) = false := by simpa using hk
    rw [if_neg (fun h => hk h.1)]
    go_enter Tryd.func95, Tryd.ntmps95
    go_wp2_with (first | (go_at_call 76; refine K.out.mono ?_; rintro e w1 ⟨rfl, hb⟩; have HB := Lib.hid hb; have HP2 := Lib.hid (HP.out.bel hb); have c2 := HP2.out.cell 2; have hlt := HP2.out.lt; simp only [pcs, List.getElem?_toArray, List.getElem?_cons_zero, List.getElem?_cons_succ] at c2; clear hb) | (go_at_call 96; refine (fail_any (HP2.out.bel (Below.alloc (Below.refl _ _) (Nat.le_refl _) _)) 30 _).mono ?_; rintro e w3 ⟨rfl, hp, hm⟩; have HP3 := Lib.hid hp; have HM3 := Lib.hid hm; clear hp hm))
    go_ret
    exact ⟨rfl, HP3.out, Mod.trans (Mod.new (HB.out.alloc HB.out.size _)) HM3.out fun _ _ h => h⟩

end Go.Proofs.YtjdcicopjipmnaaDoor
