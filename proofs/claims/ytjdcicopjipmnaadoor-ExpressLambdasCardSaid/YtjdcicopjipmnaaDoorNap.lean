/- name. -/
import Derived.Test.YtjdcicopjipmnaaDoorNed
namespace Go.Proofs.YtjdcicopjipmnaaDoor
open Go.RowKit
set_option linter.unusedVariables false
set_option linter.unusedSimpArgs false
attribute [local go_sem] Oper.semAt_some
theorem tokP_small {L : List TokD} (hts : ∀ t ∈ L, t.s.size ≤ maxLen) (s : PS) (by_ : Nat) : (tokP L s by_).s.size ≤ maxLen := by
  unfold tokP
  split
  · exact Nat.zero_le _
  · cases h : L[s.at_ + by_]? with
    | none => exact Nat.zero_le _
    | some t => exact hts t (List.mem_of_getElem? h)
set_option maxRecDepth 100000 in
set_option maxHeartbeats 2000000 in
theorem namep_any {w : World} {pb bb mb n c : Nat} {A : Option Addr} {s : PS} {L : List TokD} (hP : Blk w pb 98 (pcs bb (.slice A n c) mb s)) (hL : Rd w A n c 4 (L.flatMap tcs)) (hn : L.length = n) (hts : ∀ t ∈ L, t.s.size ≤ maxLen) (hs : s.at_ + 1 ≤ 9223372036854775807) (htab : Asp w) :
    Calls Tryd.prog 95 #[.pointer (some ⟨pb, 0, none⟩)] w fun e w' => e = .returned (.string (nameP L s).2) ∧ Blk w' pb 98 (pcs bb (.slice A n c) mb (nameP L s).1) ∧ Mod (· = pb) w w' := by
  have K : Hid (Calls Tryd.prog 76 #[.pointer (some ⟨pb, 0, none⟩), .int .i64 0] w fun e w2 => e = .returned (.agg #[.int .i64 (tokP L s 0).k, .int .i64 (tokP L s 0).at_, .string (tokP L s 0).s, .int .i64 (tokP L s 0).n]) ∧ Below w.heap.size w w2) :=
    Lib.hid (tok_any hP hL hn 0 (by omega))
  have hsm := tokP_small hts s 0
  have HP := Lib.hid hP
  unfold nameP
  generalize tokP L s 0 = T at *
  obtain ⟨k, a, sx, m⟩ := T
  simp only at K hsm ⊢
  have KN : Hid (∀ w', Below w.heap.size w w' → Calls Tryd.prog 29 #[.string sx] w' fun e w2 => e = .returned (.bool (nameB sx)) ∧ Below w'.heap.size w' w2) := Lib.hid fun w' hb => name_any sx hsm w' (htab.below hb)
  clear hP hL hts htab hsm
  by_cases hk : k = 1
  · subst hk
    cases hb : nameB sx with
    | true =>
      rw [hb] at KN
      rw [if_pos ⟨rfl, rfl⟩]
      go_enter Tryd.func95, Tryd.ntmps95
      go_wp2_with (first | (go_at_call 76; refine K.out.mono ?_; rintro e w1 ⟨rfl, hb⟩; have HB := Lib.hid hb; clear hb) | (go_at_call 29; refine (KN.out _ (HB.out.alloc HB.out.size _)).mono ?_; rintro e w2 ⟨rfl, hb⟩; have HX := Lib.hid ((Blk.new w1 39 #[.int .i64 1, .int .i64 a, .string sx, .int .i64 m]).bel hb); have HB2 := Lib.hid ((HB.out.alloc HB.out.size _).trans (hb.mono (HB.out.alloc HB.out.size _).size)); have HP2 := Lib.hid (HP.out.bel HB2.out); have c2 := HP2.out.cell 2; have f2 := HP2.out.frozen 2; have hlt := HP2.out.lt; have x2 := HX.out.cell 2; have xl := HX.out.lt; have hne : ¬ w1.heap.size = pb := (by have := HP.out.lt; have := HB.out.size; omega); simp only [pcs, List.getElem?_toArray, List.getElem?_cons_zero, List.getElem?_cons_succ] at c2 x2; clear hb) | (go_at_call 96; refine (fail_any HP2.out 30 _).mono ?_; rintro e w3 ⟨rfl, hp, hm⟩; have HP3 := Lib.hid hp; have HM3 := Lib.hid hm; clear hp hm))
      go_ret
      exact ⟨rfl, HP2.out.set_ 2 (.int .i64 ((s.at_ : Int) + 1)), Mod.setCell (S := (· = pb)) (p := ⟨pb, 2, none⟩) (Mod.new HB2.out) (fun _ => rfl) _⟩
    | false =>
      rw [hb] at KN
      rw [if_neg (by simp)]
      go_enter Tryd.func95, Tryd.ntmps95
      go_wp2_with (first | (go_at_call 76; refine K.out.mono ?_; rintro e w1 ⟨rfl, hb⟩; have HB := Lib.hid hb; clear hb) | (go_at_call 29; refine (KN.out _ (HB.out.alloc HB.out.size _)).mono ?_; rintro e w2 ⟨rfl, hb⟩; have HX := Lib.hid ((Blk.new w1 39 #[.int .i64 1, .int .i64 a, .string sx, .int .i64 m]).bel hb); have HB2 := Lib.hid ((HB.out.alloc HB.out.size _).trans (hb.mono (HB.out.alloc HB.out.size _).size)); have HP2 := Lib.hid (HP.out.bel HB2.out); have c2 := HP2.out.cell 2; have f2 := HP2.out.frozen 2; have hlt := HP2.out.lt; have x2 := HX.out.cell 2; have xl := HX.out.lt; have hne : ¬ w1.heap.size = pb := (by have := HP.out.lt; have := HB.out.size; omega); simp only [pcs, List.getElem?_toArray, List.getElem?_cons_zero, List.getElem?_cons_succ] at c2 x2; clear hb) | (go_at_call 96; refine (fail_any HP2.out 30 _).mono ?_; rintro e w3 ⟨rfl, hp, hm⟩; have HP3 := Lib.hid hp; have HM3 := Lib.hid hm; clear hp hm))
      go_ret
      exact ⟨rfl, HP3.out, Mod.trans (Mod.new HB2.out) HM3.out fun _ _ h => h⟩
  · have hk' : (k == 1) = false := by simpa using hk
    rw [if_neg (fun h => hk h.1)]
    go_enter Tryd.func95, Tryd.ntmps95
    go_wp2_with (first | (go_at_call 76; refine K.out.mono ?_; rintro e w1 ⟨rfl, hb⟩; have HB := Lib.hid hb; have HP2 := Lib.hid (HP.out.bel hb); have c2 := HP2.out.cell 2; have hlt := HP2.out.lt; simp only [pcs, List.getElem?_toArray, List.getElem?_cons_zero, List.getElem?_cons_succ] at c2; clear hb) | (go_at_call 96; refine (fail_any (HP2.out.bel (Below.alloc (Below.refl _ _) (Nat.le_refl _) _)) 30 _).mono ?_; rintro e w3 ⟨rfl, hp, hm⟩; have HP3 := Lib.hid hp; have HM3 := Lib.hid hm; clear hp hm))
    go_ret
    exact ⟨rfl, HP3.out, Mod.trans (Mod.new (HB.out.alloc HB.out.size _)) HM3.out fun _ _ h => h⟩
end Go.Proofs.YtjdcicopjipmnaaDoor
