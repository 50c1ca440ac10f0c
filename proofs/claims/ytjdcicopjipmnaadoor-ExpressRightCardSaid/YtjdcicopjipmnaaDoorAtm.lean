/- atom. -/
import Derived.Test.YtjdcicopjipmnaaDoorPar
namespace Go.Proofs.YtjdcicopjipmnaaDoor
open Go.RowKit
set_option linter.unusedVariables false
set_option linter.unusedSimpArgs false
theorem lit_no {r t : ByteArray} (h : ¬ r = t) (l : List UInt8) (e : t.toList = l) : (r.toList == l) = false := e ▸ toList_no h
theorem word_chain (t : ByteArray) : (if t = (⟨#[70, 97, 108, 115, 101]⟩ : ByteArray) then some (3 : Int) else if t = ⟨#[84, 114, 117, 101]⟩ then some 2 else if t = ⟨#[78, 111, 110, 101]⟩ then some 1 else none) = wordOp t := by
  unfold wordOp
  by_cases h1 : t = ⟨#[70, 97, 108, 115, 101]⟩
  · subst h1; decide
  · by_cases h2 : t = ⟨#[84, 114, 117, 101]⟩
    · subst h2; decide
    · by_cases h3 : t = ⟨#[78, 111, 110, 101]⟩
      · subst h3; decide
      · rw [if_neg h1, if_neg h2, if_neg h3, if_neg (show ¬ t = kNone from h3), if_neg (show ¬ t = kTrue from h2), if_neg (show ¬ t = kFalse from h1)]
/-- p.at-- -/
theorem PAt.unstep {X : Cx} {F : Nat → Prop} {w : World} {s : PS} (h : PAt X F w (stepP s 1)) (hs : s.at_ ≤ X.n) : PAt X F (w.setCell ⟨X.pb, 2, none⟩ (.int .i64 (s.at_ : Int))) s ∧ Keeps X.B w (w.setCell ⟨X.pb, 2, none⟩ (.int .i64 (s.at_ : Int))) :=
  h.turn (h.p.set_ 2 (.int .i64 (s.at_ : Int))) (Mod.setCell (S := (· = X.pb)) (p := ⟨X.pb, 2, none⟩) (Mod.refl _ _) (fun _ => rfl) _) rfl rfl hs
theorem PAt.twice {X : Cx} {F : Nat → Prop} {w : World} {s : PS} (h : PAt X F w s) (u : Value) : PAt X F ((w.setCell ⟨X.pb, 2, none⟩ u).setCell ⟨X.pb, 2, none⟩ (.int .i64 (s.at_ : Int))) s ∧ Keeps X.B w ((w.setCell ⟨X.pb, 2, none⟩ u).setCell ⟨X.pb, 2, none⟩ (.int .i64 (s.at_ : Int))) := by
  have hp := (h.p.set_ 2 u).set_ 2 (.int .i64 (s.at_ : Int))
  have e : ((pcs X.bb (.slice X.A X.n X.c) X.mb s).setIfInBounds 2 u).setIfInBounds 2 (.int .i64 (s.at_ : Int)) = pcs X.bb (.slice X.A X.n X.c) X.mb s := rfl
  rw [e] at hp
  exact h.turn hp (Mod.setCell (S := (· = X.pb)) (p := ⟨X.pb, 2, none⟩) (Mod.setCell (S := (· = X.pb)) (p := ⟨X.pb, 2, none⟩) (Mod.refl _ _) (fun _ => rfl) _) (fun _ => rfl) _) rfl rfl h.at_
set_option maxRecDepth 100000 in
set_option maxHeartbeats 8000000 in
theorem atom_int {X : Cx} {F : Nat → Prop} {s s1 : PS} {a nn y : Int} {tx : ByteArray}  (k0 : Step X F 76 #[X.p, .int .i64 (0 : Nat)] s (.agg #[.int .i64 2, .int .i64 a, .string tx, .int .i64 nn]) s) (hst : s.at_ + 1 ≤ X.n) (ka : Step X F 79 #[X.p, .int .i64 4, .int .i64 a, .string ⟨#[]⟩, .int .i64 nn, .slice none 0 0] (stepP s 1) (.int .i64 y) s1) : Step X F 111 #[X.p] s (.int .i64 y) s1 := by
  intro w h
  have hw : IntKind.i64.wrap ((s.at_ : Int) + 1) = (s.at_ : Int) + 1 := IntWalk.i64_in _ (by have := h.at1; omega)
  have hw0 : wrap64 (s.at_ : Int) = (s.at_ : Int) := IntWalk.wrap64_in _ (by have := h.at1; omega)
  have HP0 := Lib.hid h
  have K0 := Lib.hid k0
  have HST := Lib.hid hst
  have KA := Lib.hid ka
  clear ka
  clear h k0 hst
  go_enter Tryd.func111, Tryd.ntmps111
  go_wp2_with (first | (go_at_call 76; go_must (refine (K0.out _ HP0.out).mono ?_); rintro e w1 ⟨rfl, hp, hk⟩; have hmk := run_makeMap (P := Tryd.prog) 76 (w1.alloc (.cells #[.int .i64 2, .int .i64 a, .string tx, .int .i64 nn] 39)); have hs0 := IntAt.made (w1.alloc (.cells #[.int .i64 2, .int .i64 a, .string tx, .int .i64 nn] 39)); rw [World.size_alloc] at hs0; have HS := Lib.hid hs0; clear hs0; have HTB := Lib.hid ((Blk.new w1 39 #[.int .i64 2, .int .i64 a, .string tx, .int .i64 nn]).alloc (.map #[] 0)); have HB : Hid (Below w1.heap.size w1 ((w1.alloc (.cells #[.int .i64 2, .int .i64 a, .string tx, .int .i64 nn] 39)).alloc (.map #[] 0))) := Lib.hid (by repeat (first | exact Below.refl _ _ | assumption | refine Below.setCell ?_ (by first | (simp; done) | (simp; omega) | omega) _ | refine below_drewN ?_ _ | refine Below.drew ?_ | refine Below.alloc ?_ (by first | (simp; done) | (simp; omega) | omega) _)); have hsz2 : X.pb < w1.heap.size := hp.lt.1; have hne : ¬ w1.heap.size = X.pb := (by omega); have HP1 := Lib.hid hp; have HK1 := Lib.hid hk; clear hp hk) | (go_at_call 79; go_must (refine (KA.out _ ((HP1.out.bel_ HB.out).stepd HST.out).1).mono ?_); rintro e w6 ⟨rfl, hp, hk⟩; have HP6 := Lib.hid hp; have HK6 := Lib.hid (((HK1.out.trans (KeepE.of_below X.B (fun _ => False) HB.out)).trans ((HP1.out.bel_ HB.out).stepd HST.out).2).trans hk); clear hp hk) | (refine wpList_insert rfl _ _ _ rfl HS.out (by unfold maxLen; omega) rfl rfl rfl (by unfold maxLen; decide) (by decide) ?_; intro w5 hs hm; replace HTB := Lib.hid (HTB.out.mod hm (by omega)); replace HB := Lib.hid (below_mod HB.out hm (by omega)); replace HS := Lib.hid hs; clear hs hm; (try clear c2 c4 c5 hlt f2 z0 z1 z2 z3 xlt); have hp5 := HP1.out.bel_ HB.out; obtain ⟨c2, c4, c5, hlt⟩ := hp5.cells; have f2 := hp5.p.frozen 2; have z0 := HTB.out.cell 0; have z1 := HTB.out.cell 1; have z2 := HTB.out.cell 2; have z3 := HTB.out.cell 3; have xlt := HTB.out.lt; simp only [List.getElem?_toArray, List.getElem?_cons_zero, List.getElem?_cons_succ] at z0 z1 z2 z3;  clear hp5))
  go_ret
  exact ⟨rfl, HP6.out, HK6.out⟩
set_option maxRecDepth 100000 in
set_option maxHeartbeats 8000000 in
theorem atom_str {X : Cx} {F : Nat → Prop} {s s1 : PS} {a nn y : Int} {tx : ByteArray}  (k0 : Step X F 76 #[X.p, .int .i64 (0 : Nat)] s (.agg #[.int .i64 3, .int .i64 a, .string tx, .int .i64 nn]) s) (hst : s.at_ + 1 ≤ X.n) (ka : Step X F 79 #[X.p, .int .i64 5, .int .i64 a, .string tx, .int .i64 0, .slice none 0 0] (stepP s 1) (.int .i64 y) s1) : Step X F 111 #[X.p] s (.int .i64 y) s1 := by
  intro w h
  have hw : IntKind.i64.wrap ((s.at_ : Int) + 1) = (s.at_ : Int) + 1 := IntWalk.i64_in _ (by have := h.at1; omega)
  have hw0 : wrap64 (s.at_ : Int) = (s.at_ : Int) := IntWalk.wrap64_in _ (by have := h.at1; omega)
  have HP0 := Lib.hid h
  have K0 := Lib.hid k0
  have HST := Lib.hid hst
  have KA := Lib.hid ka
  clear ka
  clear h k0 hst
  go_enter Tryd.func111, Tryd.ntmps111
  go_wp2_with (first | (go_at_call 76; go_must (refine (K0.out _ HP0.out).mono ?_); rintro e w1 ⟨rfl, hp, hk⟩; have hmk := run_makeMap (P := Tryd.prog) 76 (w1.alloc (.cells #[.int .i64 3, .int .i64 a, .string tx, .int .i64 nn] 39)); have hs0 := IntAt.made (w1.alloc (.cells #[.int .i64 3, .int .i64 a, .string tx, .int .i64 nn] 39)); rw [World.size_alloc] at hs0; have HS := Lib.hid hs0; clear hs0; have HTB := Lib.hid ((Blk.new w1 39 #[.int .i64 3, .int .i64 a, .string tx, .int .i64 nn]).alloc (.map #[] 0)); have HB : Hid (Below w1.heap.size w1 ((w1.alloc (.cells #[.int .i64 3, .int .i64 a, .string tx, .int .i64 nn] 39)).alloc (.map #[] 0))) := Lib.hid (by repeat (first | exact Below.refl _ _ | assumption | refine Below.setCell ?_ (by first | (simp; done) | (simp; omega) | omega) _ | refine below_drewN ?_ _ | refine Below.drew ?_ | refine Below.alloc ?_ (by first | (simp; done) | (simp; omega) | omega) _)); have hsz2 : X.pb < w1.heap.size := hp.lt.1; have hne : ¬ w1.heap.size = X.pb := (by omega); have HP1 := Lib.hid hp; have HK1 := Lib.hid hk; clear hp hk) | (go_at_call 79; go_must (refine (KA.out _ ((HP1.out.bel_ HB.out).stepd HST.out).1).mono ?_); rintro e w6 ⟨rfl, hp, hk⟩; have HP6 := Lib.hid hp; have HK6 := Lib.hid (((HK1.out.trans (KeepE.of_below X.B (fun _ => False) HB.out)).trans ((HP1.out.bel_ HB.out).stepd HST.out).2).trans hk); clear hp hk) | (refine wpList_insert rfl _ _ _ rfl HS.out (by unfold maxLen; omega) rfl rfl rfl (by unfold maxLen; decide) (by decide) ?_; intro w5 hs hm; replace HTB := Lib.hid (HTB.out.mod hm (by omega)); replace HB := Lib.hid (below_mod HB.out hm (by omega)); replace HS := Lib.hid hs; clear hs hm; (try clear c2 c4 c5 hlt f2 z0 z1 z2 z3 xlt); have hp5 := HP1.out.bel_ HB.out; obtain ⟨c2, c4, c5, hlt⟩ := hp5.cells; have f2 := hp5.p.frozen 2; have z0 := HTB.out.cell 0; have z1 := HTB.out.cell 1; have z2 := HTB.out.cell 2; have z3 := HTB.out.cell 3; have xlt := HTB.out.lt; simp only [List.getElem?_toArray, List.getElem?_cons_zero, List.getElem?_cons_succ] at z0 z1 z2 z3;  clear hp5))
  go_ret
  exact ⟨rfl, HP6.out, HK6.out⟩
set_option maxRecDepth 100000 in
set_option maxHeartbeats 8000000 in
theorem atom_word {X : Cx} {F : Nat → Prop} {s s1 : PS} {a nn y : Int} {tx : ByteArray} {op : Int} (k0 : Step X F 76 #[X.p, .int .i64 (0 : Nat)] s (.agg #[.int .i64 1, .int .i64 a, .string tx, .int .i64 nn]) s) (hst : s.at_ + 1 ≤ X.n) (hwd : wordOp tx = some op) (hsm : tx.size ≤ maxLen) (ka : Step X F 79 #[X.p, .int .i64 op, .int .i64 a, .string ⟨#[]⟩, .int .i64 0, .slice none 0 0] (stepP s 1) (.int .i64 y) s1) : Step X F 111 #[X.p] s (.int .i64 y) s1 := by
  intro w h
  have hw : IntKind.i64.wrap ((s.at_ : Int) + 1) = (s.at_ : Int) + 1 := IntWalk.i64_in _ (by have := h.at1; omega)
  have hw0 : wrap64 (s.at_ : Int) = (s.at_ : Int) := IntWalk.wrap64_in _ (by have := h.at1; omega)
  have HP0 := Lib.hid h
  have K0 := Lib.hid k0
  have HST := Lib.hid hst
  have HWD := Lib.hid hwd
  have HSM := Lib.hid hsm
  clear hwd hsm
  have KA := Lib.hid ka
  clear ka
  clear h k0 hst
  go_enter Tryd.func111, Tryd.ntmps111
  go_wp2_with (first | (go_at_call 76; go_must (refine (K0.out _ HP0.out).mono ?_); rintro e w1 ⟨rfl, hp, hk⟩; have hmk := run_makeMap (P := Tryd.prog) 76 (w1.alloc (.cells #[.int .i64 1, .int .i64 a, .string tx, .int .i64 nn] 39)); have hs0 := IntAt.made (w1.alloc (.cells #[.int .i64 1, .int .i64 a, .string tx, .int .i64 nn] 39)); rw [World.size_alloc] at hs0; have HS := Lib.hid hs0; clear hs0; have HTB := Lib.hid ((Blk.new w1 39 #[.int .i64 1, .int .i64 a, .string tx, .int .i64 nn]).alloc (.map #[] 0)); have HB : Hid (Below w1.heap.size w1 ((w1.alloc (.cells #[.int .i64 1, .int .i64 a, .string tx, .int .i64 nn] 39)).alloc (.map #[] 0))) := Lib.hid (by repeat (first | exact Below.refl _ _ | assumption | refine Below.setCell ?_ (by first | (simp; done) | (simp; omega) | omega) _ | refine below_drewN ?_ _ | refine Below.drew ?_ | refine Below.alloc ?_ (by first | (simp; done) | (simp; omega) | omega) _)); have hsz2 : X.pb < w1.heap.size := hp.lt.1; have hne : ¬ w1.heap.size = X.pb := (by omega); have HP1 := Lib.hid hp; have HK1 := Lib.hid hk; clear hp hk) | (go_at_call 79; go_must (refine (KA.out _ ((HP1.out.bel_ HB.out).stepd HST.out).1).mono ?_); rintro e w6 ⟨rfl, hp, hk⟩; have HP6 := Lib.hid hp; have HK6 := Lib.hid (((HK1.out.trans (KeepE.of_below X.B (fun _ => False) HB.out)).trans ((HP1.out.bel_ HB.out).stepd HST.out).2).trans hk); clear hp hk) | (refine wpList_insert rfl _ _ _ rfl HS.out (by unfold maxLen; omega) rfl rfl rfl (by unfold maxLen; decide) (by decide) ?_; intro w5 hs hm; replace HTB := Lib.hid (HTB.out.mod hm (by omega)); replace HB := Lib.hid (below_mod HB.out hm (by omega)); replace HS := Lib.hid hs; clear hs hm; (try clear c2 c4 c5 hlt f2 z0 z1 z2 z3 xlt); have hp5 := HP1.out.bel_ HB.out; obtain ⟨c2, c4, c5, hlt⟩ := hp5.cells; have f2 := hp5.p.frozen 2; have z0 := HTB.out.cell 0; have z1 := HTB.out.cell 1; have z2 := HTB.out.cell 2; have z3 := HTB.out.cell 3; have xlt := HTB.out.lt; simp only [List.getElem?_toArray, List.getElem?_cons_zero, List.getElem?_cons_succ] at z0 z1 z2 z3; (try clear hl); have hl := (HS.out.mod (S := (· = X.pb)) (Mod.setCell (S := (· = X.pb)) (p := ⟨X.pb, 2, none⟩) (Mod.refl _ _) (fun _ => rfl) (.int .i64 ((s.at_ : Int) + 1))) (by omega)).look_ok HSM.out; (try simp only [word_chain tx, HWD.out, Option.getD_some, Option.isSome_some, Option.getD_none, Option.isSome_none] at hl); clear hp5))
  go_ret
  exact ⟨rfl, HP6.out, HK6.out⟩
set_option maxRecDepth 100000 in
set_option maxHeartbeats 8000000 in
theorem atom_name {X : Cx} {F : Nat → Prop} {s s1 : PS} {a nn y : Int} {tx : ByteArray}  (k0 : Step X F 76 #[X.p, .int .i64 (0 : Nat)] s (.agg #[.int .i64 1, .int .i64 a, .string tx, .int .i64 nn]) s) (hst : s.at_ + 1 ≤ X.n) (hwd : wordOp tx = none) (hsm : tx.size ≤ maxLen) (kn : ∀ w, Asp w → Calls Tryd.prog 29 #[.string tx] w fun e w' => e = .returned (.bool true) ∧ Below w.heap.size w w') (ka : Step X F 79 #[X.p, .int .i64 6, .int .i64 a, .string tx, .int .i64 0, .slice none 0 0] (stepP s 1) (.int .i64 y) s1) : Step X F 111 #[X.p] s (.int .i64 y) s1 := by
  intro w h
  have hw : IntKind.i64.wrap ((s.at_ : Int) + 1) = (s.at_ : Int) + 1 := IntWalk.i64_in _ (by have := h.at1; omega)
  have hw0 : wrap64 (s.at_ : Int) = (s.at_ : Int) := IntWalk.wrap64_in _ (by have := h.at1; omega)
  have HP0 := Lib.hid h
  have K0 := Lib.hid k0
  have HST := Lib.hid hst
  have HWD := Lib.hid hwd
  have HSM := Lib.hid hsm
  clear hwd hsm
  have KN := Lib.hid kn
  clear kn
  have KA := Lib.hid ka
  clear ka
  clear h k0 hst
  go_enter Tryd.func111, Tryd.ntmps111
  go_wp2_with (first | (go_at_call 76; go_must (refine (K0.out _ HP0.out).mono ?_); rintro e w1 ⟨rfl, hp, hk⟩; have hmk := run_makeMap (P := Tryd.prog) 76 (w1.alloc (.cells #[.int .i64 1, .int .i64 a, .string tx, .int .i64 nn] 39)); have hs0 := IntAt.made (w1.alloc (.cells #[.int .i64 1, .int .i64 a, .string tx, .int .i64 nn] 39)); rw [World.size_alloc] at hs0; have HS := Lib.hid hs0; clear hs0; have HTB := Lib.hid ((Blk.new w1 39 #[.int .i64 1, .int .i64 a, .string tx, .int .i64 nn]).alloc (.map #[] 0)); have HB : Hid (Below w1.heap.size w1 ((w1.alloc (.cells #[.int .i64 1, .int .i64 a, .string tx, .int .i64 nn] 39)).alloc (.map #[] 0))) := Lib.hid (by repeat (first | exact Below.refl _ _ | assumption | refine Below.setCell ?_ (by first | (simp; done) | (simp; omega) | omega) _ | refine below_drewN ?_ _ | refine Below.drew ?_ | refine Below.alloc ?_ (by first | (simp; done) | (simp; omega) | omega) _)); have hsz2 : X.pb < w1.heap.size := hp.lt.1; have hne : ¬ w1.heap.size = X.pb := (by omega); have HP1 := Lib.hid hp; have HK1 := Lib.hid hk; clear hp hk) | (go_at_call 29; go_must (refine (KN.out _ ((HP1.out.bel_ HB.out).stepd HST.out).1.tab).mono ?_); rintro e w7 ⟨rfl, hb⟩; go_loud (have htb := (HTB.out.far (p := ⟨X.pb, 2, none⟩) hne (.int .i64 ((s.at_ + 1 : Nat) : Int))).bel hb; have y0 := htb.cell 0; have y1 := htb.cell 1; have y2 := htb.cell 2; have y3 := htb.cell 3; have ylt := htb.lt; simp only [List.getElem?_toArray, List.getElem?_cons_zero, List.getElem?_cons_succ] at y0 y1 y2 y3; have hp7 := ((HP1.out.bel_ HB.out).stepd HST.out).1.bel_ hb; obtain ⟨d2, d4, d5, dlt⟩ := hp7.cells; replace d2 : w7.cell? ⟨X.pb, 2, none⟩ = some (.int .i64 ((s.at_ : Int) + 1)) := d2; have g2 := hp7.p.frozen 2; have HP7 := Lib.hid hp7; have HK7 := Lib.hid (((HK1.out.trans (KeepE.of_below X.B (fun _ => False) HB.out)).trans ((HP1.out.bel_ HB.out).stepd HST.out).2).trans (KeepE.of_below X.B (fun _ => False) hb)); clear htb hp7 hb)) | (go_at_call 79; go_must (refine (KA.out _ HP7.out).mono ?_); rintro e w6 ⟨rfl, hp, hk⟩; have HP6 := Lib.hid hp; have HK6 := Lib.hid (HK7.out.trans hk); clear hp hk) | (refine wpList_insert rfl _ _ _ rfl HS.out (by unfold maxLen; omega) rfl rfl rfl (by unfold maxLen; decide) (by decide) ?_; intro w5 hs hm; replace HTB := Lib.hid (HTB.out.mod hm (by omega)); replace HB := Lib.hid (below_mod HB.out hm (by omega)); replace HS := Lib.hid hs; clear hs hm; (try clear c2 c4 c5 hlt f2 z0 z1 z2 z3 xlt); have hp5 := HP1.out.bel_ HB.out; obtain ⟨c2, c4, c5, hlt⟩ := hp5.cells; have f2 := hp5.p.frozen 2; have z0 := HTB.out.cell 0; have z1 := HTB.out.cell 1; have z2 := HTB.out.cell 2; have z3 := HTB.out.cell 3; have xlt := HTB.out.lt; simp only [List.getElem?_toArray, List.getElem?_cons_zero, List.getElem?_cons_succ] at z0 z1 z2 z3; (try clear hl); have hl := (HS.out.mod (S := (· = X.pb)) (Mod.setCell (S := (· = X.pb)) (p := ⟨X.pb, 2, none⟩) (Mod.refl _ _) (fun _ => rfl) (.int .i64 ((s.at_ : Int) + 1))) (by omega)).look_ok HSM.out; (try simp only [word_chain tx, HWD.out, Option.getD_some, Option.isSome_some, Option.getD_none, Option.isSome_none] at hl); clear hp5))
  go_ret
  exact ⟨rfl, HP6.out, HK6.out⟩
set_option maxRecDepth 100000 in
set_option maxHeartbeats 8000000 in
theorem atom_noname {X : Cx} {F : Nat → Prop} {s s1 : PS} {a nn y : Int} {tx : ByteArray}  (k0 : Step X F 76 #[X.p, .int .i64 (0 : Nat)] s (.agg #[.int .i64 1, .int .i64 a, .string tx, .int .i64 nn]) s) (hst : s.at_ + 1 ≤ X.n) (hwd : wordOp tx = none) (hsm : tx.size ≤ maxLen) (kn : ∀ w, Asp w → Calls Tryd.prog 29 #[.string tx] w fun e w' => e = .returned (.bool false) ∧ Below w.heap.size w w') (kf : Step X F 96 #[X.p, .int .i64 30, .int .i64 (s.at_ : Int)] s (.int .i64 (-1)) s1) (hat : s.at_ ≤ X.n) : Step X F 111 #[X.p] s (.int .i64 (-1)) s1 := by
  intro w h
  have hw : IntKind.i64.wrap ((s.at_ : Int) + 1) = (s.at_ : Int) + 1 := IntWalk.i64_in _ (by have := h.at1; omega)
  have hw0 : wrap64 (s.at_ : Int) = (s.at_ : Int) := IntWalk.wrap64_in _ (by have := h.at1; omega)
  have HP0 := Lib.hid h
  have K0 := Lib.hid k0
  have HST := Lib.hid hst
  have HWD := Lib.hid hwd
  have HSM := Lib.hid hsm
  clear hwd hsm
  have KN := Lib.hid kn
  clear kn
  have KF := Lib.hid kf
  have HAT := Lib.hid hat
  clear kf hat
  clear h k0 hst
  go_enter Tryd.func111, Tryd.ntmps111
  go_wp2_with (first | (go_at_call 76; go_must (refine (K0.out _ HP0.out).mono ?_); rintro e w1 ⟨rfl, hp, hk⟩; have hmk := run_makeMap (P := Tryd.prog) 76 (w1.alloc (.cells #[.int .i64 1, .int .i64 a, .string tx, .int .i64 nn] 39)); have hs0 := IntAt.made (w1.alloc (.cells #[.int .i64 1, .int .i64 a, .string tx, .int .i64 nn] 39)); rw [World.size_alloc] at hs0; have HS := Lib.hid hs0; clear hs0; have HTB := Lib.hid ((Blk.new w1 39 #[.int .i64 1, .int .i64 a, .string tx, .int .i64 nn]).alloc (.map #[] 0)); have HB : Hid (Below w1.heap.size w1 ((w1.alloc (.cells #[.int .i64 1, .int .i64 a, .string tx, .int .i64 nn] 39)).alloc (.map #[] 0))) := Lib.hid (by repeat (first | exact Below.refl _ _ | assumption | refine Below.setCell ?_ (by first | (simp; done) | (simp; omega) | omega) _ | refine below_drewN ?_ _ | refine Below.drew ?_ | refine Below.alloc ?_ (by first | (simp; done) | (simp; omega) | omega) _)); have hsz2 : X.pb < w1.heap.size := hp.lt.1; have hne : ¬ w1.heap.size = X.pb := (by omega); have HP1 := Lib.hid hp; have HK1 := Lib.hid hk; clear hp hk) | (go_at_call 29; go_must (refine (KN.out _ ((HP1.out.bel_ HB.out).stepd HST.out).1.tab).mono ?_); rintro e w7 ⟨rfl, hb⟩; go_loud (have htb := (HTB.out.far (p := ⟨X.pb, 2, none⟩) hne (.int .i64 ((s.at_ + 1 : Nat) : Int))).bel hb; have y0 := htb.cell 0; have y1 := htb.cell 1; have y2 := htb.cell 2; have y3 := htb.cell 3; have ylt := htb.lt; simp only [List.getElem?_toArray, List.getElem?_cons_zero, List.getElem?_cons_succ] at y0 y1 y2 y3; have hp7 := ((HP1.out.bel_ HB.out).stepd HST.out).1.bel_ hb; obtain ⟨d2, d4, d5, dlt⟩ := hp7.cells; replace d2 : w7.cell? ⟨X.pb, 2, none⟩ = some (.int .i64 ((s.at_ : Int) + 1)) := d2; have g2 := hp7.p.frozen 2; have HP7 := Lib.hid hp7; have HK7 := Lib.hid (((HK1.out.trans (KeepE.of_below X.B (fun _ => False) HB.out)).trans ((HP1.out.bel_ HB.out).stepd HST.out).2).trans (KeepE.of_below X.B (fun _ => False) hb)); clear htb hp7 hb)) | (go_at_call 96; go_must (refine (KF.out _ (HP7.out.unstep HAT.out).1).mono ?_); rintro e w6 ⟨rfl, hp, hk⟩; have HP6 := Lib.hid hp; have HK6 := Lib.hid ((HK7.out.trans (HP7.out.unstep HAT.out).2).trans hk); clear hp hk) | (refine wpList_insert rfl _ _ _ rfl HS.out (by unfold maxLen; omega) rfl rfl rfl (by unfold maxLen; decide) (by decide) ?_; intro w5 hs hm; replace HTB := Lib.hid (HTB.out.mod hm (by omega)); replace HB := Lib.hid (below_mod HB.out hm (by omega)); replace HS := Lib.hid hs; clear hs hm; (try clear c2 c4 c5 hlt f2 z0 z1 z2 z3 xlt); have hp5 := HP1.out.bel_ HB.out; obtain ⟨c2, c4, c5, hlt⟩ := hp5.cells; have f2 := hp5.p.frozen 2; have z0 := HTB.out.cell 0; have z1 := HTB.out.cell 1; have z2 := HTB.out.cell 2; have z3 := HTB.out.cell 3; have xlt := HTB.out.lt; simp only [List.getElem?_toArray, List.getElem?_cons_zero, List.getElem?_cons_succ] at z0 z1 z2 z3; (try clear hl); have hl := (HS.out.mod (S := (· = X.pb)) (Mod.setCell (S := (· = X.pb)) (p := ⟨X.pb, 2, none⟩) (Mod.refl _ _) (fun _ => rfl) (.int .i64 ((s.at_ : Int) + 1))) (by omega)).look_ok HSM.out; (try simp only [word_chain tx, HWD.out, Option.getD_some, Option.isSome_some, Option.getD_none, Option.isSome_none] at hl); clear hp5))
  go_ret
  exact ⟨rfl, HP6.out, HK6.out⟩
set_option maxRecDepth 100000 in
set_option maxHeartbeats 8000000 in
theorem atom_round {X : Cx} {F : Nat → Prop} {s s1 : PS} {a nn y : Int}   (k0 : Step X F 76 #[X.p, .int .i64 (0 : Nat)] s (.agg #[.int .i64 4, .int .i64 a, .string gLp, .int .i64 nn]) s) (hst : s.at_ + 1 ≤ X.n) (kr : Step X F 114 #[X.p, .int .i64 a] (stepP s 1) (.int .i64 y) s1) : Step X F 111 #[X.p] s (.int .i64 y) s1 := by
  intro w h
  have hw : IntKind.i64.wrap ((s.at_ : Int) + 1) = (s.at_ : Int) + 1 := IntWalk.i64_in _ (by have := h.at1; omega)
  have hw0 : wrap64 (s.at_ : Int) = (s.at_ : Int) := IntWalk.wrap64_in _ (by have := h.at1; omega)
  have HP0 := Lib.hid h
  have K0 := Lib.hid k0
  have HST := Lib.hid hst
  have KR := Lib.hid kr
  clear kr
  clear h k0 hst
  go_enter Tryd.func111, Tryd.ntmps111
  go_wp2_with (first | (go_at_call 76; go_must (refine (K0.out _ HP0.out).mono ?_); rintro e w1 ⟨rfl, hp, hk⟩; have hmk := run_makeMap (P := Tryd.prog) 76 (w1.alloc (.cells #[.int .i64 4, .int .i64 a, .string gLp, .int .i64 nn] 39)); have hs0 := IntAt.made (w1.alloc (.cells #[.int .i64 4, .int .i64 a, .string gLp, .int .i64 nn] 39)); rw [World.size_alloc] at hs0; have HS := Lib.hid hs0; clear hs0; have HTB := Lib.hid ((Blk.new w1 39 #[.int .i64 4, .int .i64 a, .string gLp, .int .i64 nn]).alloc (.map #[] 0)); have HB : Hid (Below w1.heap.size w1 ((w1.alloc (.cells #[.int .i64 4, .int .i64 a, .string gLp, .int .i64 nn] 39)).alloc (.map #[] 0))) := Lib.hid (by repeat (first | exact Below.refl _ _ | assumption | refine Below.setCell ?_ (by first | (simp; done) | (simp; omega) | omega) _ | refine below_drewN ?_ _ | refine Below.drew ?_ | refine Below.alloc ?_ (by first | (simp; done) | (simp; omega) | omega) _)); have hsz2 : X.pb < w1.heap.size := hp.lt.1; have hne : ¬ w1.heap.size = X.pb := (by omega); have HP1 := Lib.hid hp; have HK1 := Lib.hid hk; clear hp hk) | (go_at_call 114; go_must (refine (KR.out _ ((HP1.out.bel_ HB.out).stepd HST.out).1).mono ?_); rintro e w6 ⟨rfl, hp, hk⟩; have HP6 := Lib.hid hp; have HK6 := Lib.hid (((HK1.out.trans (KeepE.of_below X.B (fun _ => False) HB.out)).trans ((HP1.out.bel_ HB.out).stepd HST.out).2).trans hk); clear hp hk) | (refine wpList_insert rfl _ _ _ rfl HS.out (by unfold maxLen; omega) rfl rfl rfl (by unfold maxLen; decide) (by decide) ?_; intro w5 hs hm; replace HTB := Lib.hid (HTB.out.mod hm (by omega)); replace HB := Lib.hid (below_mod HB.out hm (by omega)); replace HS := Lib.hid hs; clear hs hm; (try clear c2 c4 c5 hlt f2 z0 z1 z2 z3 xlt); have hp5 := HP1.out.bel_ HB.out; obtain ⟨c2, c4, c5, hlt⟩ := hp5.cells; have f2 := hp5.p.frozen 2; have z0 := HTB.out.cell 0; have z1 := HTB.out.cell 1; have z2 := HTB.out.cell 2; have z3 := HTB.out.cell 3; have xlt := HTB.out.lt; simp only [List.getElem?_toArray, List.getElem?_cons_zero, List.getElem?_cons_succ] at z0 z1 z2 z3;  clear hp5))
  go_ret
  exact ⟨rfl, HP6.out, HK6.out⟩
set_option maxRecDepth 100000 in
set_option maxHeartbeats 8000000 in
theorem atom_sign {X : Cx} {F : Nat → Prop} {s s1 : PS} {a nn y : Int} {tx : ByteArray}  (k0 : Step X F 76 #[X.p, .int .i64 (0 : Nat)] s (.agg #[.int .i64 4, .int .i64 a, .string tx, .int .i64 nn]) s) (h1 : ¬ tx = gLp) (h2 : ¬ tx = gLb) (h3 : ¬ tx = gLc) (kf : Step X F 96 #[X.p, .int .i64 30, .int .i64 (s.at_ : Int)] s (.int .i64 (-1)) s1) (hat : s.at_ ≤ X.n) : Step X F 111 #[X.p] s (.int .i64 (-1)) s1 := by
  intro w h
  have hw : IntKind.i64.wrap ((s.at_ : Int) + 1) = (s.at_ : Int) + 1 := IntWalk.i64_in _ (by have := h.at1; omega)
  have hw0 : wrap64 (s.at_ : Int) = (s.at_ : Int) := IntWalk.wrap64_in _ (by have := h.at1; omega)
  have HP0 := Lib.hid h
  have K0 := Lib.hid k0
  skip
  have KF := Lib.hid kf
  have HAT := Lib.hid hat
  clear kf hat
  have n1 : (tx.toList == [40]) = false := lit_no h1 _ (by rw [ByteArray.toList_eq])
  have n2 : (tx.toList == [91]) = false := lit_no h2 _ (by rw [ByteArray.toList_eq])
  have n3 : (tx.toList == [123]) = false := lit_no h3 _ (by rw [ByteArray.toList_eq])
  clear h1 h2 h3
  clear h k0 
  go_enter Tryd.func111, Tryd.ntmps111
  go_wp2_with (first | (go_at_call 76; go_must (refine (K0.out _ HP0.out).mono ?_); rintro e w1 ⟨rfl, hp, hk⟩; have hmk := run_makeMap (P := Tryd.prog) 76 (w1.alloc (.cells #[.int .i64 4, .int .i64 a, .string tx, .int .i64 nn] 39)); have hs0 := IntAt.made (w1.alloc (.cells #[.int .i64 4, .int .i64 a, .string tx, .int .i64 nn] 39)); rw [World.size_alloc] at hs0; have HS := Lib.hid hs0; clear hs0; have HTB := Lib.hid ((Blk.new w1 39 #[.int .i64 4, .int .i64 a, .string tx, .int .i64 nn]).alloc (.map #[] 0)); have HB : Hid (Below w1.heap.size w1 ((w1.alloc (.cells #[.int .i64 4, .int .i64 a, .string tx, .int .i64 nn] 39)).alloc (.map #[] 0))) := Lib.hid (by repeat (first | exact Below.refl _ _ | assumption | refine Below.setCell ?_ (by first | (simp; done) | (simp; omega) | omega) _ | refine below_drewN ?_ _ | refine Below.drew ?_ | refine Below.alloc ?_ (by first | (simp; done) | (simp; omega) | omega) _)); have hsz2 : X.pb < w1.heap.size := hp.lt.1; have hne : ¬ w1.heap.size = X.pb := (by omega); have HP1 := Lib.hid hp; have HK1 := Lib.hid hk; clear hp hk) | (go_at_call 96; go_must (refine (KF.out _ ((HP1.out.bel_ HB.out).twice _).1).mono ?_); rintro e w6 ⟨rfl, hp, hk⟩; have HP6 := Lib.hid hp; have HK6 := Lib.hid (((HK1.out.trans (KeepE.of_below X.B (fun _ => False) HB.out)).trans ((HP1.out.bel_ HB.out).twice _).2).trans hk); clear hp hk) | (refine wpList_insert rfl _ _ _ rfl HS.out (by unfold maxLen; omega) rfl rfl rfl (by unfold maxLen; decide) (by decide) ?_; intro w5 hs hm; replace HTB := Lib.hid (HTB.out.mod hm (by omega)); replace HB := Lib.hid (below_mod HB.out hm (by omega)); replace HS := Lib.hid hs; clear hs hm; (try clear c2 c4 c5 hlt f2 z0 z1 z2 z3 xlt); have hp5 := HP1.out.bel_ HB.out; obtain ⟨c2, c4, c5, hlt⟩ := hp5.cells; have f2 := hp5.p.frozen 2; have z0 := HTB.out.cell 0; have z1 := HTB.out.cell 1; have z2 := HTB.out.cell 2; have z3 := HTB.out.cell 3; have xlt := HTB.out.lt; simp only [List.getElem?_toArray, List.getElem?_cons_zero, List.getElem?_cons_succ] at z0 z1 z2 z3;  clear hp5))
  go_ret
  exact ⟨rfl, HP6.out, HK6.out⟩
set_option maxRecDepth 100000 in
set_option maxHeartbeats 8000000 in
theorem atom_other {X : Cx} {F : Nat → Prop} {s s1 : PS} {k a nn y : Int} {tx : ByteArray}  (k0 : Step X F 76 #[X.p, .int .i64 (0 : Nat)] s (.agg #[.int .i64 k, .int .i64 a, .string tx, .int .i64 nn]) s) (h1 : (k == 1) = false) (h2 : (k == 2) = false) (h3 : (k == 3) = false) (h4 : (k == 4) = false) (kf : Step X F 96 #[X.p, .int .i64 30, .int .i64 (s.at_ : Int)] s (.int .i64 (-1)) s1) (hat : s.at_ ≤ X.n) : Step X F 111 #[X.p] s (.int .i64 (-1)) s1 := by
  intro w h
  have hw : IntKind.i64.wrap ((s.at_ : Int) + 1) = (s.at_ : Int) + 1 := IntWalk.i64_in _ (by have := h.at1; omega)
  have hw0 : wrap64 (s.at_ : Int) = (s.at_ : Int) := IntWalk.wrap64_in _ (by have := h.at1; omega)
  have HP0 := Lib.hid h
  have K0 := Lib.hid k0
  skip
  have KF := Lib.hid kf
  have HAT := Lib.hid hat
  clear kf hat
  clear h k0 
  go_enter Tryd.func111, Tryd.ntmps111
  go_wp2_with (first | (go_at_call 76; go_must (refine (K0.out _ HP0.out).mono ?_); rintro e w1 ⟨rfl, hp, hk⟩; have hmk := run_makeMap (P := Tryd.prog) 76 (w1.alloc (.cells #[.int .i64 k, .int .i64 a, .string tx, .int .i64 nn] 39)); have hs0 := IntAt.made (w1.alloc (.cells #[.int .i64 k, .int .i64 a, .string tx, .int .i64 nn] 39)); rw [World.size_alloc] at hs0; have HS := Lib.hid hs0; clear hs0; have HTB := Lib.hid ((Blk.new w1 39 #[.int .i64 k, .int .i64 a, .string tx, .int .i64 nn]).alloc (.map #[] 0)); have HB : Hid (Below w1.heap.size w1 ((w1.alloc (.cells #[.int .i64 k, .int .i64 a, .string tx, .int .i64 nn] 39)).alloc (.map #[] 0))) := Lib.hid (by repeat (first | exact Below.refl _ _ | assumption | refine Below.setCell ?_ (by first | (simp; done) | (simp; omega) | omega) _ | refine below_drewN ?_ _ | refine Below.drew ?_ | refine Below.alloc ?_ (by first | (simp; done) | (simp; omega) | omega) _)); have hsz2 : X.pb < w1.heap.size := hp.lt.1; have hne : ¬ w1.heap.size = X.pb := (by omega); have HP1 := Lib.hid hp; have HK1 := Lib.hid hk; clear hp hk) | (go_at_call 96; go_must (refine (KF.out _ ((HP1.out.bel_ HB.out).twice _).1).mono ?_); rintro e w6 ⟨rfl, hp, hk⟩; have HP6 := Lib.hid hp; have HK6 := Lib.hid (((HK1.out.trans (KeepE.of_below X.B (fun _ => False) HB.out)).trans ((HP1.out.bel_ HB.out).twice _).2).trans hk); clear hp hk) | (refine wpList_insert rfl _ _ _ rfl HS.out (by unfold maxLen; omega) rfl rfl rfl (by unfold maxLen; decide) (by decide) ?_; intro w5 hs hm; replace HTB := Lib.hid (HTB.out.mod hm (by omega)); replace HB := Lib.hid (below_mod HB.out hm (by omega)); replace HS := Lib.hid hs; clear hs hm; (try clear c2 c4 c5 hlt f2 z0 z1 z2 z3 xlt); have hp5 := HP1.out.bel_ HB.out; obtain ⟨c2, c4, c5, hlt⟩ := hp5.cells; have f2 := hp5.p.frozen 2; have z0 := HTB.out.cell 0; have z1 := HTB.out.cell 1; have z2 := HTB.out.cell 2; have z3 := HTB.out.cell 3; have xlt := HTB.out.lt; simp only [List.getElem?_toArray, List.getElem?_cons_zero, List.getElem?_cons_succ] at z0 z1 z2 z3;  clear hp5))
  go_ret
  exact ⟨rfl, HP6.out, HK6.out⟩
end Go.Proofs.YtjdcicopjipmnaaDoor
