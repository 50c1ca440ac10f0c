/- is: does a word, or a sign, stand so many on? -/
import Derived.Test.YtjdcicopjipmnaaDoorTkk
namespace Go.Proofs.YtjdcicopjipmnaaDoor
open Go.RowKit
set_option linter.unusedVariables false
set_option linter.unusedSimpArgs false
attribute [local go_sem] Oper.semAt_some
theorem Rd.bel {w w' : World} {A : Option Addr} {n c sz : Nat} {cs : List Value} (h : Rd w A n c sz cs) (hb : Below w.heap.size w w') : Rd w' A n c sz cs := h.keep hb.size fun b o _ hlt => hb.block b hlt
theorem Blk.bel {w w' : World} {g : Nat} {t : TypeId} {cs : Array Value} (h : Blk w g t cs) (hb : Below w.heap.size w w') : Blk w' g t cs := h.mod (S := fun _ => False) (Mod.new hb) id
set_option maxRecDepth 100000 in
set_option maxHeartbeats 2000000 in
theorem is_any {w : World} {pb bb mb n c : Nat} {A : Option Addr} {s : PS} {L : List TokD} (hP : Blk w pb 98 (pcs bb (.slice A n c) mb s)) (hL : Rd w A n c 4 (L.flatMap tcs)) (hn : L.length = n) (t : ByteArray) (ht : t.size ≤ maxLen) (by_ : Nat) (hs : s.at_ + by_ ≤ 9223372036854775807) (htab : Asp w) :
    Calls Tryd.prog 102 #[.pointer (some ⟨pb, 0, none⟩), .string t, .int .i64 by_] w fun e w' => e = .returned (.bool (isP L s t by_)) ∧ Below w.heap.size w w' := by
  unfold isP
  have K1 := Lib.hid (keyword_any t ht w htab)
  have K2 : Hid (∀ w', Below w.heap.size w w' → Calls Tryd.prog 76 #[.pointer (some ⟨pb, 0, none⟩), .int .i64 by_] w' fun e w2 => e = .returned (.agg #[.int .i64 (tokP L s by_).k, .int .i64 (tokP L s by_).at_, .string (tokP L s by_).s, .int .i64 (tokP L s by_).n]) ∧ Below w'.heap.size w' w2) :=
    Lib.hid fun w' hb => tok_any (hP.bel hb) (hL.bel hb) hn by_ hs
  generalize tokP L s by_ = T at *
  obtain ⟨k, a, sx, m⟩ := T
  simp only at K2 ⊢
  clear hP hL hs hn htab ht
  by_cases h2 : sx = t
  · subst h2
    cases hk : kwB sx with
    | true =>
      rw [hk] at K1
      go_enter Tryd.func102, Tryd.ntmps102
      go_wp2_with (first | (go_at_call 45; refine K1.out.mono ?_; rintro e w1 ⟨rfl, hb⟩; have HB := Lib.hid hb; clear hb) | (go_at_call 76; refine (K2.out _ HB.out).mono ?_; rintro e w2 ⟨rfl, hb⟩; have HB := Lib.hid (HB.out.trans (hb.mono HB.out.size)); clear hb))
      all_goals (go_ret; exact ⟨ret_b (by simp_all), HB.out.alloc HB.out.size _⟩)
    | false =>
      rw [hk] at K1
      go_enter Tryd.func102, Tryd.ntmps102
      go_wp2_with (first | (go_at_call 45; refine K1.out.mono ?_; rintro e w1 ⟨rfl, hb⟩; have HB := Lib.hid hb; clear hb) | (go_at_call 76; refine (K2.out _ HB.out).mono ?_; rintro e w2 ⟨rfl, hb⟩; have HB := Lib.hid (HB.out.trans (hb.mono HB.out.size)); clear hb))
      all_goals (go_ret; exact ⟨ret_b (by simp_all), HB.out.alloc HB.out.size _⟩)
  · have hne := toList_no h2
    cases hk : kwB t with
    | true =>
      rw [hk] at K1
      go_enter Tryd.func102, Tryd.ntmps102
      go_wp2_with (first | (go_at_call 45; refine K1.out.mono ?_; rintro e w1 ⟨rfl, hb⟩; have HB := Lib.hid hb; clear hb) | (go_at_call 76; refine (K2.out _ HB.out).mono ?_; rintro e w2 ⟨rfl, hb⟩; have HB := Lib.hid (HB.out.trans (hb.mono HB.out.size)); clear hb))
      all_goals (go_ret; exact ⟨ret_b (by simp_all), HB.out.alloc HB.out.size _⟩)
    | false =>
      rw [hk] at K1
      go_enter Tryd.func102, Tryd.ntmps102
      go_wp2_with (first | (go_at_call 45; refine K1.out.mono ?_; rintro e w1 ⟨rfl, hb⟩; have HB := Lib.hid hb; clear hb) | (go_at_call 76; refine (K2.out _ HB.out).mono ?_; rintro e w2 ⟨rfl, hb⟩; have HB := Lib.hid (HB.out.trans (hb.mono HB.out.size)); clear hb))
      all_goals (go_ret; exact ⟨ret_b (by simp_all), HB.out.alloc HB.out.size _⟩)
end Go.Proofs.YtjdcicopjipmnaaDoor
