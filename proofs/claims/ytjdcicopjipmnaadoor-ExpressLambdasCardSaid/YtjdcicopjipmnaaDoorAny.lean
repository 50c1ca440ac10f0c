/- any: takes one of some words, or signs. -/
import Derived.Test.YtjdcicopjipmnaaDoorFai
namespace Go.Proofs.YtjdcicopjipmnaaDoor
open Go.RowKit
set_option linter.unusedVariables false
set_option linter.unusedSimpArgs false
theorem anyP_at {L : List TokD} {s : PS} {t : ByteArray} : ∀ {l : List ByteArray} {k : Nat}, l[k]? = some t → isP L s t 0 = true → (∀ (j : Nat) x, j < k → l[j]? = some x → isP L s x 0 = false) → anyP L l s = (stepP s 1, t, true)
  | [], k, h, _, _ => by simp at h
  | y :: l, 0, h, h1, _ => by
    obtain rfl : y = t := by simpa using h
    unfold anyP
    rw [if_pos h1]
  | y :: l, k + 1, h, h1, h0 => by
    unfold anyP
    rw [if_neg (by rw [h0 0 y (by omega) rfl]; exact Bool.false_ne_true)]
    exact anyP_at (k := k) (by simpa using h) h1 fun j x hj hx => h0 (j + 1) x (by omega) (by simpa using hx)
theorem anyP_no {L : List TokD} {s : PS} : ∀ {l : List ByteArray}, (∀ (j : Nat) x, l[j]? = some x → isP L s x 0 = false) → anyP L l s = (s, ⟨#[]⟩, false)
  | [], _ => rfl
  | y :: l, h0 => by
    unfold anyP
    rw [if_neg (by rw [h0 0 y rfl]; exact Bool.false_ne_true)]
    exact anyP_no fun j x hx => h0 (j + 1) x (by simpa using hx)
set_option maxRecDepth 100000 in
set_option maxHeartbeats 2000000 in
theorem any_any {w : World} {pb bb mb n c q r : Nat} {A B : Option Addr} {s : PS} {L : List TokD} {l : List ByteArray} (hP : Blk w pb 98 (pcs bb (.slice A n c) mb s)) (hL : Rd w A n c 4 (L.flatMap tcs)) (hn : L.length = n) (hB : Rd w B q r 1 (l.map Value.string)) (hl : l.length = q) (ht : ∀ t ∈ l, t.size ≤ maxLen) (hs : s.at_ + 1 ≤ 9223372036854775807) (htab : Asp w) :
    Calls Tryd.prog 94 #[.pointer (some ⟨pb, 0, none⟩), .slice B q r] w fun e w' => e = .returned (.tuple #[.string (anyP L l s).2.1, .bool (anyP L l s).2.2]) ∧ Blk w' pb 98 (pcs bb (.slice A n c) mb (anyP L l s).1) ∧ Mod (· = pb) w w' := by
  have hq := hB.le
  have HP := Lib.hid hP
  have HB := Lib.hid hB
  have HT := Lib.hid ht
  have K : Hid (∀ w', Below w.heap.size w w' → ∀ t ∈ l, Calls Tryd.prog 102 #[.pointer (some ⟨pb, 0, none⟩), .string t, .int .i64 0] w' fun e w2 => e = .returned (.bool (isP L s t 0)) ∧ Below w'.heap.size w' w2) :=
    Lib.hid fun w' hb t ht' => is_any (hP.bel hb) (hL.bel hb) hn t (ht t ht') 0 (by omega) (htab.below hb)
  clear hP hL hB ht htab
  go_enter Tryd.func94, Tryd.ntmps94
  go_wp2_with fail
  go_loopw [10] (fun i wr => ∃ k : Nat, k ≤ q ∧ i = .int .i64 k ∧ Hid (∀ (j : Nat) x, j < k → l[j]? = some x → isP L s x 0 = false) ∧ Below w.heap.size w wr) (fun i _ => q - (intOf i).toNat)
  case atStart => exact ⟨0, Nat.zero_le _, rfl, Lib.hid fun j x hj => absurd hj (by omega), Below.refl _ _⟩
  case round =>
    obtain ⟨k, hk, rfl, H0, hbel⟩ := hrel
    have HW := Lib.hid hbel
    by_cases hlt : k < q
    · obtain ⟨b, o, rfl, hb, hc⟩ := (HB.out.bel hbel).2.2.2 (by omega)
      obtain ⟨x, hx⟩ : ∃ x, l[k]? = some x := ⟨_, List.getElem?_eq_getElem (by omega)⟩
      have hce : wr.cell? ⟨b, o + k, none⟩ = some (.string x) := hc k _ (by rw [List.getElem?_map, hx]; rfl)
      have KX := Lib.hid (K.out wr hbel x (List.mem_of_getElem? hx))
      have HX := Lib.hid hx
      clear hx hc hbel
      cases hi : isP L s x 0 with
      | true =>
        rw [hi] at KX
        have HI := Lib.hid hi
        clear hi
        go_wp2_with (go_at_call 102; refine KX.out.mono ?_; rintro e w2 ⟨rfl, hb2⟩; have HB2 := Lib.hid (HW.out.trans (hb2.mono HW.out.size)); have hP2 := HP.out.bel HB2.out; have c2 := hP2.cell 2; have f2 := hP2.frozen 2; have hlt2 := hP2.lt; have HP2 := Lib.hid hP2; simp only [pcs, List.getElem?_toArray, List.getElem?_cons_zero, List.getElem?_cons_succ] at c2; clear hP2 hb2)
        refine bodyPost_ret (v := .tuple #[.string x, .bool true]) (by first | (simp [results, Tryd.results94, go_sem]; done) | (simp [results, Tryd.results94, go_sem]; rfl)) rfl ?_
        rw [anyP_at HX.out HI.out H0.out]
        exact ⟨rfl, HP2.out.set_ 2 (.int .i64 ((s.at_ : Int) + 1)), Mod.setCell (S := (· = pb)) (p := ⟨pb, 2, none⟩) (Mod.new HB2.out) (fun _ => rfl) _⟩
      | false =>
        rw [hi] at KX
        have HI := Lib.hid hi
        clear hi
        go_wp2_with (go_at_call 102; refine KX.out.mono ?_; rintro e w2 ⟨rfl, hb2⟩; have HB2 := Lib.hid (HW.out.trans (hb2.mono HW.out.size)); clear hb2)
        go_round
        case rel =>
          refine ⟨k + 1, by omega, by go_num, Lib.hid fun j y hj hy => ?_, HB2.out⟩
          by_cases e : j = k
          · subst e
            rw [HX.out] at hy
            obtain rfl := Option.some.inj hy
            exact HI.out
          · exact H0.out j y (by omega) hy
        case measure => simp [intOf]; omega
    · obtain rfl : k = q := by omega
      have e := anyP_no (L := L) (s := s) (l := l) fun j x hx => H0.out j x (by have := (List.getElem?_eq_some_iff.1 hx).1; omega) hx
      have E := Lib.hid e
      have HP2 := Lib.hid (HP.out.bel HW.out)
      clear e
      go_wp2_with fail
      refine bodyPost_ret (v := .tuple #[.string ⟨#[]⟩, .bool false]) (by first | (simp [results, Tryd.results94, go_sem]; done) | (simp [results, Tryd.results94, go_sem]; rfl)) rfl ?_
      rw [E.out]
      exact ⟨rfl, HP2.out, Mod.new HW.out⟩
end Go.Proofs.YtjdcicopjipmnaaDoor
