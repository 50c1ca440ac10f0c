/- atom. atom: lists and dicts. atom, whole; expr. Parse. -/
import Derived.Test.YtjdcicopjipmnaaDoorZae
namespace Go.Proofs.YtjdcicopjipmnaaDoor
set_option maxRecDepth 100000
set_option maxHeartbeats 8000000
section
open Go.RowKit
set_option linter.unusedVariables false
set_option linter.unusedSimpArgs false
theorem lit_no {r t : ByteArray} (h : ¬ r = t) (l : List UInt8) (e : t.toList = l) : (r.toList == l) = false := e ▸ toList_no h
theorem word_chain (t : ByteArray) : (if t = (⟨#[70, 97, 108, 115, 101]⟩ : ByteArray) then some (3 : Int) else if t = ⟨#[84, 114, 117, 101]⟩ then some 2 else if t = ⟨#[78, 111, 110, 101]⟩ then some 1 else none) = wordOp t := by
 unfold wordOp
 by_cases h1 : t = ⟨#[70, 97, 108, 115, 101]⟩
 ·subst h1; decide
 ·by_cases h2 : t = ⟨#[84, 114, 117, 101]⟩
  ·subst h2; decide
  ·by_cases h3 : t = ⟨#[78, 111, 110, 101]⟩
   ·subst h3; decide
   ·rw [if_neg h1, if_neg h2, if_neg h3, if_neg (show ¬ t = kNone from h3), if_neg (show ¬ t = kTrue from h2), if_neg (show ¬ t = kFalse from h1)]
theorem PAt.unstep {X : Cx} {F : Nat → Prop} {w : World} {s : PS} (h : PAt X F w (stepP s 1)) (hs : s.at_ ≤ X.n) : PAt X F (w.setCell ⟨X.pb, 2, none⟩ (.int .i64 (s.at_ : Int))) s ∧ Keeps X.B w (w.setCell ⟨X.pb, 2, none⟩ (.int .i64 (s.at_ : Int))) :=
 h.turn (h.p.set_ 2 (.int .i64 (s.at_ : Int))) (Mod.setCell (S := (· = X.pb)) (p := ⟨X.pb, 2, none⟩) (Mod.refl _ _) (fun _ => rfl) _) rfl rfl hs
theorem PAt.twice {X : Cx} {F : Nat → Prop} {w : World} {s : PS} (h : PAt X F w s) (u : Value) : PAt X F ((w.setCell ⟨X.pb, 2, none⟩ u).setCell ⟨X.pb, 2, none⟩ (.int .i64 (s.at_ : Int))) s ∧ Keeps X.B w ((w.setCell ⟨X.pb, 2, none⟩ u).setCell ⟨X.pb, 2, none⟩ (.int .i64 (s.at_ : Int))) := by
 have hp := (h.p.set_ 2 u).set_ 2 (.int .i64 (s.at_ : Int))
 have e : ((pcs X.bb (.slice X.A X.n X.c) X.mb s).setIfInBounds 2 u).setIfInBounds 2 (.int .i64 (s.at_ : Int)) = pcs X.bb (.slice X.A X.n X.c) X.mb s := rfl
 rw [e] at hp
 exact h.turn hp (Mod.setCell (S := (· = X.pb)) (p := ⟨X.pb, 2, none⟩) (Mod.setCell (S := (· = X.pb)) (p := ⟨X.pb, 2, none⟩) (Mod.refl _ _) (fun _ => rfl) _) (fun _ => rfl) _) rfl rfl h.at_
theorem atom_int {X : Cx} {F : Nat → Prop} {s s1 : PS} {a nn y : Int} {tx : ByteArray}  (k0 : Step X F 76 #[X.p, .int .i64 (0 : Nat)] s (.agg #[.int .i64 2, .int .i64 a, .string tx, .int .i64 nn]) s) (hst : s.at_ + 1 ≤ X.n) (ka : Step X F 79 #[X.p, .int .i64 4, .int .i64 a, .string ⟨#[]⟩, .int .i64 nn, .slice none 0 0] (stepP s 1) (.int .i64 y) s1) : Step X F 111 #[X.p] s (.int .i64 y) s1 := by
 intro w h
 have hw : IntKind.i64.wrap ((s.at_ : Int) + 1) = (s.at_ : Int) + 1 := IntWalk.i64_in _ (by have := h.at1; omega)
 have hw0 : wrap64 (s.at_ : Int) = (s.at_ : Int) := IntWalk.wrap64_in _ (by have := h.at1; omega)
 have HP0 := qh h
 have K0 := qh k0
 have HST := qh hst
 have KA := qh ka
 clear ka
 clear h k0 hst
 go_enter Tryd.func111, Tryd.ntmps111
 go_wp2_with (first | (go_at_call 76; go_must (refine (K0.out _ HP0.out).mono ?_); rintro e w1 ⟨rfl, hp, hk⟩; have hmk := run_makeMap (P := Tryd.prog) 76 (w1.alloc (.cells #[.int .i64 2, .int .i64 a, .string tx, .int .i64 nn] 39)); have hs0 := IntAt.made (w1.alloc (.cells #[.int .i64 2, .int .i64 a, .string tx, .int .i64 nn] 39)); rw [World.size_alloc] at hs0; have HS := qh hs0; clear hs0; have HTB := qh ((Blk.new w1 39 #[.int .i64 2, .int .i64 a, .string tx, .int .i64 nn]).alloc (.map #[] 0)); have HB : Hid (Below w1.heap.size w1 ((w1.alloc (.cells #[.int .i64 2, .int .i64 a, .string tx, .int .i64 nn] 39)).alloc (.map #[] 0))) := qh bl2; have hsz2 : X.pb < w1.heap.size := hp.lt.1; have hne : ¬ w1.heap.size = X.pb := (by omega); have HP1 := qh hp; have HK1 := qh hk; clear hp hk) | (go_at_call 79; go_must (refine (KA.out _ ((HP1.out.bel_ HB.out).stepd HST.out).1).mono ?_); rintro e w6 ⟨rfl, hp, hk⟩; have HP6 := qh hp; have HK6 := qh (((HK1.out.trans (KeepE.of_below X.B (fun _ => False) HB.out)).trans ((HP1.out.bel_ HB.out).stepd HST.out).2).trans hk); clear hp hk) | (refine wpList_insert rfl _ _ _ rfl HS.out (by unfold maxLen; omega) rfl rfl rfl (by unfold maxLen; decide) (by decide) ?_; intro w5 hs hm; replace HTB := qh (HTB.out.mod hm (by omega)); replace HB := qh (below_mod HB.out hm (by omega)); replace HS := qh hs; clear hs hm; (try clear c2 c4 c5 hlt f2 z0 z1 z2 z3 xlt); have hp5 := HP1.out.bel_ HB.out; obtain ⟨c2, c4, c5, hlt⟩ := hp5.cells; have f2 := hp5.p.frozen 2; have z0 := HTB.out.cell 0; have z1 := HTB.out.cell 1; have z2 := HTB.out.cell 2; have z3 := HTB.out.cell 3; have xlt := HTB.out.lt; simp only [GG] at z0 z1 z2 z3;  clear hp5))
 go_ret
 exact ⟨rfl, HP6.out, HK6.out⟩
theorem atom_str {X : Cx} {F : Nat → Prop} {s s1 : PS} {a nn y : Int} {tx : ByteArray}  (k0 : Step X F 76 #[X.p, .int .i64 (0 : Nat)] s (.agg #[.int .i64 3, .int .i64 a, .string tx, .int .i64 nn]) s) (hst : s.at_ + 1 ≤ X.n) (ka : Step X F 79 #[X.p, .int .i64 5, .int .i64 a, .string tx, .int .i64 0, .slice none 0 0] (stepP s 1) (.int .i64 y) s1) : Step X F 111 #[X.p] s (.int .i64 y) s1 := by
 intro w h
 have hw : IntKind.i64.wrap ((s.at_ : Int) + 1) = (s.at_ : Int) + 1 := IntWalk.i64_in _ (by have := h.at1; omega)
 have hw0 : wrap64 (s.at_ : Int) = (s.at_ : Int) := IntWalk.wrap64_in _ (by have := h.at1; omega)
 have HP0 := qh h
 have K0 := qh k0
 have HST := qh hst
 have KA := qh ka
 clear ka
 clear h k0 hst
 go_enter Tryd.func111, Tryd.ntmps111
 go_wp2_with (first | (go_at_call 76; go_must (refine (K0.out _ HP0.out).mono ?_); rintro e w1 ⟨rfl, hp, hk⟩; have hmk := run_makeMap (P := Tryd.prog) 76 (w1.alloc (.cells #[.int .i64 3, .int .i64 a, .string tx, .int .i64 nn] 39)); have hs0 := IntAt.made (w1.alloc (.cells #[.int .i64 3, .int .i64 a, .string tx, .int .i64 nn] 39)); rw [World.size_alloc] at hs0; have HS := qh hs0; clear hs0; have HTB := qh ((Blk.new w1 39 #[.int .i64 3, .int .i64 a, .string tx, .int .i64 nn]).alloc (.map #[] 0)); have HB : Hid (Below w1.heap.size w1 ((w1.alloc (.cells #[.int .i64 3, .int .i64 a, .string tx, .int .i64 nn] 39)).alloc (.map #[] 0))) := qh bl2; have hsz2 : X.pb < w1.heap.size := hp.lt.1; have hne : ¬ w1.heap.size = X.pb := (by omega); have HP1 := qh hp; have HK1 := qh hk; clear hp hk) | (go_at_call 79; go_must (refine (KA.out _ ((HP1.out.bel_ HB.out).stepd HST.out).1).mono ?_); rintro e w6 ⟨rfl, hp, hk⟩; have HP6 := qh hp; have HK6 := qh (((HK1.out.trans (KeepE.of_below X.B (fun _ => False) HB.out)).trans ((HP1.out.bel_ HB.out).stepd HST.out).2).trans hk); clear hp hk) | (refine wpList_insert rfl _ _ _ rfl HS.out (by unfold maxLen; omega) rfl rfl rfl (by unfold maxLen; decide) (by decide) ?_; intro w5 hs hm; replace HTB := qh (HTB.out.mod hm (by omega)); replace HB := qh (below_mod HB.out hm (by omega)); replace HS := qh hs; clear hs hm; (try clear c2 c4 c5 hlt f2 z0 z1 z2 z3 xlt); have hp5 := HP1.out.bel_ HB.out; obtain ⟨c2, c4, c5, hlt⟩ := hp5.cells; have f2 := hp5.p.frozen 2; have z0 := HTB.out.cell 0; have z1 := HTB.out.cell 1; have z2 := HTB.out.cell 2; have z3 := HTB.out.cell 3; have xlt := HTB.out.lt; simp only [GG] at z0 z1 z2 z3;  clear hp5))
 go_ret
 exact ⟨rfl, HP6.out, HK6.out⟩
theorem atom_word {X : Cx} {F : Nat → Prop} {s s1 : PS} {a nn y : Int} {tx : ByteArray} {op : Int} (k0 : Step X F 76 #[X.p, .int .i64 (0 : Nat)] s (.agg #[.int .i64 1, .int .i64 a, .string tx, .int .i64 nn]) s) (hst : s.at_ + 1 ≤ X.n) (hwd : wordOp tx = some op) (hsm : tx.size ≤ maxLen) (ka : Step X F 79 #[X.p, .int .i64 op, .int .i64 a, .string ⟨#[]⟩, .int .i64 0, .slice none 0 0] (stepP s 1) (.int .i64 y) s1) : Step X F 111 #[X.p] s (.int .i64 y) s1 := by
 intro w h
 have hw : IntKind.i64.wrap ((s.at_ : Int) + 1) = (s.at_ : Int) + 1 := IntWalk.i64_in _ (by have := h.at1; omega)
 have hw0 : wrap64 (s.at_ : Int) = (s.at_ : Int) := IntWalk.wrap64_in _ (by have := h.at1; omega)
 have HP0 := qh h
 have K0 := qh k0
 have HST := qh hst
 have HWD := qh hwd
 have HSM := qh hsm
 clear hwd hsm
 have KA := qh ka
 clear ka
 clear h k0 hst
 go_enter Tryd.func111, Tryd.ntmps111
 go_wp2_with (first | (go_at_call 76; go_must (refine (K0.out _ HP0.out).mono ?_); rintro e w1 ⟨rfl, hp, hk⟩; have hmk := run_makeMap (P := Tryd.prog) 76 (w1.alloc (.cells #[.int .i64 1, .int .i64 a, .string tx, .int .i64 nn] 39)); have hs0 := IntAt.made (w1.alloc (.cells #[.int .i64 1, .int .i64 a, .string tx, .int .i64 nn] 39)); rw [World.size_alloc] at hs0; have HS := qh hs0; clear hs0; have HTB := qh ((Blk.new w1 39 #[.int .i64 1, .int .i64 a, .string tx, .int .i64 nn]).alloc (.map #[] 0)); have HB : Hid (Below w1.heap.size w1 ((w1.alloc (.cells #[.int .i64 1, .int .i64 a, .string tx, .int .i64 nn] 39)).alloc (.map #[] 0))) := qh bl2; have hsz2 : X.pb < w1.heap.size := hp.lt.1; have hne : ¬ w1.heap.size = X.pb := (by omega); have HP1 := qh hp; have HK1 := qh hk; clear hp hk) | (go_at_call 79; go_must (refine (KA.out _ ((HP1.out.bel_ HB.out).stepd HST.out).1).mono ?_); rintro e w6 ⟨rfl, hp, hk⟩; have HP6 := qh hp; have HK6 := qh (((HK1.out.trans (KeepE.of_below X.B (fun _ => False) HB.out)).trans ((HP1.out.bel_ HB.out).stepd HST.out).2).trans hk); clear hp hk) | (refine wpList_insert rfl _ _ _ rfl HS.out (by unfold maxLen; omega) rfl rfl rfl (by unfold maxLen; decide) (by decide) ?_; intro w5 hs hm; replace HTB := qh (HTB.out.mod hm (by omega)); replace HB := qh (below_mod HB.out hm (by omega)); replace HS := qh hs; clear hs hm; (try clear c2 c4 c5 hlt f2 z0 z1 z2 z3 xlt); have hp5 := HP1.out.bel_ HB.out; obtain ⟨c2, c4, c5, hlt⟩ := hp5.cells; have f2 := hp5.p.frozen 2; have z0 := HTB.out.cell 0; have z1 := HTB.out.cell 1; have z2 := HTB.out.cell 2; have z3 := HTB.out.cell 3; have xlt := HTB.out.lt; simp only [GG] at z0 z1 z2 z3; (try clear hl); have hl := (HS.out.mod (S := (· = X.pb)) (Mod.setCell (S := (· = X.pb)) (p := ⟨X.pb, 2, none⟩) (Mod.refl _ _) (fun _ => rfl) (.int .i64 ((s.at_ : Int) + 1))) (by omega)).look_ok HSM.out; (try simp only [word_chain tx, HWD.out, Option.getD_some, Option.isSome_some, Option.getD_none, Option.isSome_none] at hl); clear hp5))
 go_ret
 exact ⟨rfl, HP6.out, HK6.out⟩
theorem atom_name {X : Cx} {F : Nat → Prop} {s s1 : PS} {a nn y : Int} {tx : ByteArray}  (k0 : Step X F 76 #[X.p, .int .i64 (0 : Nat)] s (.agg #[.int .i64 1, .int .i64 a, .string tx, .int .i64 nn]) s) (hst : s.at_ + 1 ≤ X.n) (hwd : wordOp tx = none) (hsm : tx.size ≤ maxLen) (kn : ∀ w, Asp w → Calls Tryd.prog 29 #[.string tx] w fun e w' => e = .returned (.bool true) ∧ Below w.heap.size w w') (ka : Step X F 79 #[X.p, .int .i64 6, .int .i64 a, .string tx, .int .i64 0, .slice none 0 0] (stepP s 1) (.int .i64 y) s1) : Step X F 111 #[X.p] s (.int .i64 y) s1 := by
 intro w h
 have hw : IntKind.i64.wrap ((s.at_ : Int) + 1) = (s.at_ : Int) + 1 := IntWalk.i64_in _ (by have := h.at1; omega)
 have hw0 : wrap64 (s.at_ : Int) = (s.at_ : Int) := IntWalk.wrap64_in _ (by have := h.at1; omega)
 have HP0 := qh h
 have K0 := qh k0
 have HST := qh hst
 have HWD := qh hwd
 have HSM := qh hsm
 clear hwd hsm
 have KN := qh kn
 clear kn
 have KA := qh ka
 clear ka
 clear h k0 hst
 go_enter Tryd.func111, Tryd.ntmps111
 go_wp2_with (first | (go_at_call 76; go_must (refine (K0.out _ HP0.out).mono ?_); rintro e w1 ⟨rfl, hp, hk⟩; have hmk := run_makeMap (P := Tryd.prog) 76 (w1.alloc (.cells #[.int .i64 1, .int .i64 a, .string tx, .int .i64 nn] 39)); have hs0 := IntAt.made (w1.alloc (.cells #[.int .i64 1, .int .i64 a, .string tx, .int .i64 nn] 39)); rw [World.size_alloc] at hs0; have HS := qh hs0; clear hs0; have HTB := qh ((Blk.new w1 39 #[.int .i64 1, .int .i64 a, .string tx, .int .i64 nn]).alloc (.map #[] 0)); have HB : Hid (Below w1.heap.size w1 ((w1.alloc (.cells #[.int .i64 1, .int .i64 a, .string tx, .int .i64 nn] 39)).alloc (.map #[] 0))) := qh bl2; have hsz2 : X.pb < w1.heap.size := hp.lt.1; have hne : ¬ w1.heap.size = X.pb := (by omega); have HP1 := qh hp; have HK1 := qh hk; clear hp hk) | (go_at_call 29; go_must (refine (KN.out _ ((HP1.out.bel_ HB.out).stepd HST.out).1.tab).mono ?_); rintro e w7 ⟨rfl, hb⟩; go_loud (have htb := (HTB.out.far (p := ⟨X.pb, 2, none⟩) hne (.int .i64 ((s.at_ + 1 : Nat) : Int))).bel hb; have y0 := htb.cell 0; have y1 := htb.cell 1; have y2 := htb.cell 2; have y3 := htb.cell 3; have ylt := htb.lt; simp only [GG] at y0 y1 y2 y3; have hp7 := ((HP1.out.bel_ HB.out).stepd HST.out).1.bel_ hb; obtain ⟨d2, d4, d5, dlt⟩ := hp7.cells; replace d2 : w7.cell? ⟨X.pb, 2, none⟩ = some (.int .i64 ((s.at_ : Int) + 1)) := d2; have g2 := hp7.p.frozen 2; have HP7 := qh hp7; have HK7 := qh (((HK1.out.trans (KeepE.of_below X.B (fun _ => False) HB.out)).trans ((HP1.out.bel_ HB.out).stepd HST.out).2).trans (KeepE.of_below X.B (fun _ => False) hb)); clear htb hp7 hb)) | (go_at_call 79; go_must (refine (KA.out _ HP7.out).mono ?_); rintro e w6 ⟨rfl, hp, hk⟩; have HP6 := qh hp; have HK6 := qh (HK7.out.trans hk); clear hp hk) | (refine wpList_insert rfl _ _ _ rfl HS.out (by unfold maxLen; omega) rfl rfl rfl (by unfold maxLen; decide) (by decide) ?_; intro w5 hs hm; replace HTB := qh (HTB.out.mod hm (by omega)); replace HB := qh (below_mod HB.out hm (by omega)); replace HS := qh hs; clear hs hm; (try clear c2 c4 c5 hlt f2 z0 z1 z2 z3 xlt); have hp5 := HP1.out.bel_ HB.out; obtain ⟨c2, c4, c5, hlt⟩ := hp5.cells; have f2 := hp5.p.frozen 2; have z0 := HTB.out.cell 0; have z1 := HTB.out.cell 1; have z2 := HTB.out.cell 2; have z3 := HTB.out.cell 3; have xlt := HTB.out.lt; simp only [GG] at z0 z1 z2 z3; (try clear hl); have hl := (HS.out.mod (S := (· = X.pb)) (Mod.setCell (S := (· = X.pb)) (p := ⟨X.pb, 2, none⟩) (Mod.refl _ _) (fun _ => rfl) (.int .i64 ((s.at_ : Int) + 1))) (by omega)).look_ok HSM.out; (try simp only [word_chain tx, HWD.out, Option.getD_some, Option.isSome_some, Option.getD_none, Option.isSome_none] at hl); clear hp5))
 go_ret
 exact ⟨rfl, HP6.out, HK6.out⟩
theorem atom_noname {X : Cx} {F : Nat → Prop} {s s1 : PS} {a nn y : Int} {tx : ByteArray}  (k0 : Step X F 76 #[X.p, .int .i64 (0 : Nat)] s (.agg #[.int .i64 1, .int .i64 a, .string tx, .int .i64 nn]) s) (hst : s.at_ + 1 ≤ X.n) (hwd : wordOp tx = none) (hsm : tx.size ≤ maxLen) (kn : ∀ w, Asp w → Calls Tryd.prog 29 #[.string tx] w fun e w' => e = .returned (.bool false) ∧ Below w.heap.size w w') (kf : Step X F 96 #[X.p, .int .i64 30, .int .i64 (s.at_ : Int)] s (.int .i64 (-1)) s1) (hat : s.at_ ≤ X.n) : Step X F 111 #[X.p] s (.int .i64 (-1)) s1 := by
 intro w h
 have hw : IntKind.i64.wrap ((s.at_ : Int) + 1) = (s.at_ : Int) + 1 := IntWalk.i64_in _ (by have := h.at1; omega)
 have hw0 : wrap64 (s.at_ : Int) = (s.at_ : Int) := IntWalk.wrap64_in _ (by have := h.at1; omega)
 have HP0 := qh h
 have K0 := qh k0
 have HST := qh hst
 have HWD := qh hwd
 have HSM := qh hsm
 clear hwd hsm
 have KN := qh kn
 clear kn
 have KF := qh kf
 have HAT := qh hat
 clear kf hat
 clear h k0 hst
 go_enter Tryd.func111, Tryd.ntmps111
 go_wp2_with (first | (go_at_call 76; go_must (refine (K0.out _ HP0.out).mono ?_); rintro e w1 ⟨rfl, hp, hk⟩; have hmk := run_makeMap (P := Tryd.prog) 76 (w1.alloc (.cells #[.int .i64 1, .int .i64 a, .string tx, .int .i64 nn] 39)); have hs0 := IntAt.made (w1.alloc (.cells #[.int .i64 1, .int .i64 a, .string tx, .int .i64 nn] 39)); rw [World.size_alloc] at hs0; have HS := qh hs0; clear hs0; have HTB := qh ((Blk.new w1 39 #[.int .i64 1, .int .i64 a, .string tx, .int .i64 nn]).alloc (.map #[] 0)); have HB : Hid (Below w1.heap.size w1 ((w1.alloc (.cells #[.int .i64 1, .int .i64 a, .string tx, .int .i64 nn] 39)).alloc (.map #[] 0))) := qh bl2; have hsz2 : X.pb < w1.heap.size := hp.lt.1; have hne : ¬ w1.heap.size = X.pb := (by omega); have HP1 := qh hp; have HK1 := qh hk; clear hp hk) | (go_at_call 29; go_must (refine (KN.out _ ((HP1.out.bel_ HB.out).stepd HST.out).1.tab).mono ?_); rintro e w7 ⟨rfl, hb⟩; go_loud (have htb := (HTB.out.far (p := ⟨X.pb, 2, none⟩) hne (.int .i64 ((s.at_ + 1 : Nat) : Int))).bel hb; have y0 := htb.cell 0; have y1 := htb.cell 1; have y2 := htb.cell 2; have y3 := htb.cell 3; have ylt := htb.lt; simp only [GG] at y0 y1 y2 y3; have hp7 := ((HP1.out.bel_ HB.out).stepd HST.out).1.bel_ hb; obtain ⟨d2, d4, d5, dlt⟩ := hp7.cells; replace d2 : w7.cell? ⟨X.pb, 2, none⟩ = some (.int .i64 ((s.at_ : Int) + 1)) := d2; have g2 := hp7.p.frozen 2; have HP7 := qh hp7; have HK7 := qh (((HK1.out.trans (KeepE.of_below X.B (fun _ => False) HB.out)).trans ((HP1.out.bel_ HB.out).stepd HST.out).2).trans (KeepE.of_below X.B (fun _ => False) hb)); clear htb hp7 hb)) | (go_at_call 96; go_must (refine (KF.out _ (HP7.out.unstep HAT.out).1).mono ?_); rintro e w6 ⟨rfl, hp, hk⟩; have HP6 := qh hp; have HK6 := qh ((HK7.out.trans (HP7.out.unstep HAT.out).2).trans hk); clear hp hk) | (refine wpList_insert rfl _ _ _ rfl HS.out (by unfold maxLen; omega) rfl rfl rfl (by unfold maxLen; decide) (by decide) ?_; intro w5 hs hm; replace HTB := qh (HTB.out.mod hm (by omega)); replace HB := qh (below_mod HB.out hm (by omega)); replace HS := qh hs; clear hs hm; (try clear c2 c4 c5 hlt f2 z0 z1 z2 z3 xlt); have hp5 := HP1.out.bel_ HB.out; obtain ⟨c2, c4, c5, hlt⟩ := hp5.cells; have f2 := hp5.p.frozen 2; have z0 := HTB.out.cell 0; have z1 := HTB.out.cell 1; have z2 := HTB.out.cell 2; have z3 := HTB.out.cell 3; have xlt := HTB.out.lt; simp only [GG] at z0 z1 z2 z3; (try clear hl); have hl := (HS.out.mod (S := (· = X.pb)) (Mod.setCell (S := (· = X.pb)) (p := ⟨X.pb, 2, none⟩) (Mod.refl _ _) (fun _ => rfl) (.int .i64 ((s.at_ : Int) + 1))) (by omega)).look_ok HSM.out; (try simp only [word_chain tx, HWD.out, Option.getD_some, Option.isSome_some, Option.getD_none, Option.isSome_none] at hl); clear hp5))
 go_ret
 exact ⟨rfl, HP6.out, HK6.out⟩
theorem atom_round {X : Cx} {F : Nat → Prop} {s s1 : PS} {a nn y : Int}   (k0 : Step X F 76 #[X.p, .int .i64 (0 : Nat)] s (.agg #[.int .i64 4, .int .i64 a, .string gLp, .int .i64 nn]) s) (hst : s.at_ + 1 ≤ X.n) (kr : Step X F 114 #[X.p, .int .i64 a] (stepP s 1) (.int .i64 y) s1) : Step X F 111 #[X.p] s (.int .i64 y) s1 := by
 intro w h
 have hw : IntKind.i64.wrap ((s.at_ : Int) + 1) = (s.at_ : Int) + 1 := IntWalk.i64_in _ (by have := h.at1; omega)
 have hw0 : wrap64 (s.at_ : Int) = (s.at_ : Int) := IntWalk.wrap64_in _ (by have := h.at1; omega)
 have HP0 := qh h
 have K0 := qh k0
 have HST := qh hst
 have KR := qh kr
 clear kr
 clear h k0 hst
 go_enter Tryd.func111, Tryd.ntmps111
 go_wp2_with (first | (go_at_call 76; go_must (refine (K0.out _ HP0.out).mono ?_); rintro e w1 ⟨rfl, hp, hk⟩; have hmk := run_makeMap (P := Tryd.prog) 76 (w1.alloc (.cells #[.int .i64 4, .int .i64 a, .string gLp, .int .i64 nn] 39)); have hs0 := IntAt.made (w1.alloc (.cells #[.int .i64 4, .int .i64 a, .string gLp, .int .i64 nn] 39)); rw [World.size_alloc] at hs0; have HS := qh hs0; clear hs0; have HTB := qh ((Blk.new w1 39 #[.int .i64 4, .int .i64 a, .string gLp, .int .i64 nn]).alloc (.map #[] 0)); have HB : Hid (Below w1.heap.size w1 ((w1.alloc (.cells #[.int .i64 4, .int .i64 a, .string gLp, .int .i64 nn] 39)).alloc (.map #[] 0))) := qh bl2; have hsz2 : X.pb < w1.heap.size := hp.lt.1; have hne : ¬ w1.heap.size = X.pb := (by omega); have HP1 := qh hp; have HK1 := qh hk; clear hp hk) | (go_at_call 114; go_must (refine (KR.out _ ((HP1.out.bel_ HB.out).stepd HST.out).1).mono ?_); rintro e w6 ⟨rfl, hp, hk⟩; have HP6 := qh hp; have HK6 := qh (((HK1.out.trans (KeepE.of_below X.B (fun _ => False) HB.out)).trans ((HP1.out.bel_ HB.out).stepd HST.out).2).trans hk); clear hp hk) | (refine wpList_insert rfl _ _ _ rfl HS.out (by unfold maxLen; omega) rfl rfl rfl (by unfold maxLen; decide) (by decide) ?_; intro w5 hs hm; replace HTB := qh (HTB.out.mod hm (by omega)); replace HB := qh (below_mod HB.out hm (by omega)); replace HS := qh hs; clear hs hm; (try clear c2 c4 c5 hlt f2 z0 z1 z2 z3 xlt); have hp5 := HP1.out.bel_ HB.out; obtain ⟨c2, c4, c5, hlt⟩ := hp5.cells; have f2 := hp5.p.frozen 2; have z0 := HTB.out.cell 0; have z1 := HTB.out.cell 1; have z2 := HTB.out.cell 2; have z3 := HTB.out.cell 3; have xlt := HTB.out.lt; simp only [GG] at z0 z1 z2 z3;  clear hp5))
 go_ret
 exact ⟨rfl, HP6.out, HK6.out⟩
theorem atom_sign {X : Cx} {F : Nat → Prop} {s s1 : PS} {a nn y : Int} {tx : ByteArray}  (k0 : Step X F 76 #[X.p, .int .i64 (0 : Nat)] s (.agg #[.int .i64 4, .int .i64 a, .string tx, .int .i64 nn]) s) (h1 : ¬ tx = gLp) (h2 : ¬ tx = gLb) (h3 : ¬ tx = gLc) (kf : Step X F 96 #[X.p, .int .i64 30, .int .i64 (s.at_ : Int)] s (.int .i64 (-1)) s1) (hat : s.at_ ≤ X.n) : Step X F 111 #[X.p] s (.int .i64 (-1)) s1 := by
 intro w h
 have hw : IntKind.i64.wrap ((s.at_ : Int) + 1) = (s.at_ : Int) + 1 := IntWalk.i64_in _ (by have := h.at1; omega)
 have hw0 : wrap64 (s.at_ : Int) = (s.at_ : Int) := IntWalk.wrap64_in _ (by have := h.at1; omega)
 have HP0 := qh h
 have K0 := qh k0
 skip
 have KF := qh kf
 have HAT := qh hat
 clear kf hat
 have n1 : (tx.toList == [40]) = false := lit_no h1 _ (by rw [ByteArray.toList_eq])
 have n2 : (tx.toList == [91]) = false := lit_no h2 _ (by rw [ByteArray.toList_eq])
 have n3 : (tx.toList == [123]) = false := lit_no h3 _ (by rw [ByteArray.toList_eq])
 clear h1 h2 h3
 clear h k0 
 go_enter Tryd.func111, Tryd.ntmps111
 go_wp2_with (first | (go_at_call 76; go_must (refine (K0.out _ HP0.out).mono ?_); rintro e w1 ⟨rfl, hp, hk⟩; have hmk := run_makeMap (P := Tryd.prog) 76 (w1.alloc (.cells #[.int .i64 4, .int .i64 a, .string tx, .int .i64 nn] 39)); have hs0 := IntAt.made (w1.alloc (.cells #[.int .i64 4, .int .i64 a, .string tx, .int .i64 nn] 39)); rw [World.size_alloc] at hs0; have HS := qh hs0; clear hs0; have HTB := qh ((Blk.new w1 39 #[.int .i64 4, .int .i64 a, .string tx, .int .i64 nn]).alloc (.map #[] 0)); have HB : Hid (Below w1.heap.size w1 ((w1.alloc (.cells #[.int .i64 4, .int .i64 a, .string tx, .int .i64 nn] 39)).alloc (.map #[] 0))) := qh bl2; have hsz2 : X.pb < w1.heap.size := hp.lt.1; have hne : ¬ w1.heap.size = X.pb := (by omega); have HP1 := qh hp; have HK1 := qh hk; clear hp hk) | (go_at_call 96; go_must (refine (KF.out _ ((HP1.out.bel_ HB.out).twice _).1).mono ?_); rintro e w6 ⟨rfl, hp, hk⟩; have HP6 := qh hp; have HK6 := qh (((HK1.out.trans (KeepE.of_below X.B (fun _ => False) HB.out)).trans ((HP1.out.bel_ HB.out).twice _).2).trans hk); clear hp hk) | (refine wpList_insert rfl _ _ _ rfl HS.out (by unfold maxLen; omega) rfl rfl rfl (by unfold maxLen; decide) (by decide) ?_; intro w5 hs hm; replace HTB := qh (HTB.out.mod hm (by omega)); replace HB := qh (below_mod HB.out hm (by omega)); replace HS := qh hs; clear hs hm; (try clear c2 c4 c5 hlt f2 z0 z1 z2 z3 xlt); have hp5 := HP1.out.bel_ HB.out; obtain ⟨c2, c4, c5, hlt⟩ := hp5.cells; have f2 := hp5.p.frozen 2; have z0 := HTB.out.cell 0; have z1 := HTB.out.cell 1; have z2 := HTB.out.cell 2; have z3 := HTB.out.cell 3; have xlt := HTB.out.lt; simp only [GG] at z0 z1 z2 z3;  clear hp5))
 go_ret
 exact ⟨rfl, HP6.out, HK6.out⟩
theorem atom_other {X : Cx} {F : Nat → Prop} {s s1 : PS} {k a nn y : Int} {tx : ByteArray}  (k0 : Step X F 76 #[X.p, .int .i64 (0 : Nat)] s (.agg #[.int .i64 k, .int .i64 a, .string tx, .int .i64 nn]) s) (h1 : (k == 1) = false) (h2 : (k == 2) = false) (h3 : (k == 3) = false) (h4 : (k == 4) = false) (kf : Step X F 96 #[X.p, .int .i64 30, .int .i64 (s.at_ : Int)] s (.int .i64 (-1)) s1) (hat : s.at_ ≤ X.n) : Step X F 111 #[X.p] s (.int .i64 (-1)) s1 := by
 intro w h
 have hw : IntKind.i64.wrap ((s.at_ : Int) + 1) = (s.at_ : Int) + 1 := IntWalk.i64_in _ (by have := h.at1; omega)
 have hw0 : wrap64 (s.at_ : Int) = (s.at_ : Int) := IntWalk.wrap64_in _ (by have := h.at1; omega)
 have HP0 := qh h
 have K0 := qh k0
 skip
 have KF := qh kf
 have HAT := qh hat
 clear kf hat
 clear h k0 
 go_enter Tryd.func111, Tryd.ntmps111
 go_wp2_with (first | (go_at_call 76; go_must (refine (K0.out _ HP0.out).mono ?_); rintro e w1 ⟨rfl, hp, hk⟩; have hmk := run_makeMap (P := Tryd.prog) 76 (w1.alloc (.cells #[.int .i64 k, .int .i64 a, .string tx, .int .i64 nn] 39)); have hs0 := IntAt.made (w1.alloc (.cells #[.int .i64 k, .int .i64 a, .string tx, .int .i64 nn] 39)); rw [World.size_alloc] at hs0; have HS := qh hs0; clear hs0; have HTB := qh ((Blk.new w1 39 #[.int .i64 k, .int .i64 a, .string tx, .int .i64 nn]).alloc (.map #[] 0)); have HB : Hid (Below w1.heap.size w1 ((w1.alloc (.cells #[.int .i64 k, .int .i64 a, .string tx, .int .i64 nn] 39)).alloc (.map #[] 0))) := qh bl2; have hsz2 : X.pb < w1.heap.size := hp.lt.1; have hne : ¬ w1.heap.size = X.pb := (by omega); have HP1 := qh hp; have HK1 := qh hk; clear hp hk) | (go_at_call 96; go_must (refine (KF.out _ ((HP1.out.bel_ HB.out).twice _).1).mono ?_); rintro e w6 ⟨rfl, hp, hk⟩; have HP6 := qh hp; have HK6 := qh (((HK1.out.trans (KeepE.of_below X.B (fun _ => False) HB.out)).trans ((HP1.out.bel_ HB.out).twice _).2).trans hk); clear hp hk) | (refine wpList_insert rfl _ _ _ rfl HS.out (by unfold maxLen; omega) rfl rfl rfl (by unfold maxLen; decide) (by decide) ?_; intro w5 hs hm; replace HTB := qh (HTB.out.mod hm (by omega)); replace HB := qh (below_mod HB.out hm (by omega)); replace HS := qh hs; clear hs hm; (try clear c2 c4 c5 hlt f2 z0 z1 z2 z3 xlt); have hp5 := HP1.out.bel_ HB.out; obtain ⟨c2, c4, c5, hlt⟩ := hp5.cells; have f2 := hp5.p.frozen 2; have z0 := HTB.out.cell 0; have z1 := HTB.out.cell 1; have z2 := HTB.out.cell 2; have z3 := HTB.out.cell 3; have xlt := HTB.out.lt; simp only [GG] at z0 z1 z2 z3;  clear hp5))
 go_ret
 exact ⟨rfl, HP6.out, HK6.out⟩
end
section
open Go.RowKit
set_option linter.unusedVariables false
set_option linter.unusedSimpArgs false
theorem PAt.nilV {X : Cx} {F : Nat → Prop} {w : World} {s : PS} (h : PAt X F w s) : PAt X (withV F (.slice none 0 0)) w s :=
 h.bel (Below.refl _ _) (fun k hk => hk.elim .inl fun e => by cases e) (fun k hk => hk.elim (h.fl k) fun e => by cases e)
theorem atom_list {X : Cx} {F : Nat → Prop} {s : PS} {a nn : Int}  {s3 : PS} {kids : List Int} {ex : Ex} {m : Nat} (k0 : Step X F 76 #[X.p, .int .i64 (0 : Nat)] s (.agg #[.int .i64 4, .int .i64 a, .string gLb, .int .i64 nn]) s) (hst : s.at_ + 1 ≤ X.n) (hex : Part X 55 ex) (hgx : GdE X.L.length ex) (hr : rowE ex X.L gRb m (stepP s 1) [] = some (s3, kids)) (hi : ∀ k ∈ kids, In s3 k) (hl : kids.length ≤ 4398046511103) (hc2 : (s3, kids).1.ns.length ≤ 1099511627776) (hca : (addP s3 7 a ⟨#[]⟩ 0 kids).1.ns.length ≤ 1099511627776) : Step X F 111 #[X.p] s (.int .i64 (addP s3 7 a ⟨#[]⟩ 0 kids).2) (addP s3 7 a ⟨#[]⟩ 0 kids).1 := by
 intro w h
 have hw : IntKind.i64.wrap ((s.at_ : Int) + 1) = (s.at_ : Int) + 1 := IntWalk.i64_in _ (by have := h.at1; omega)
 have hw0 : wrap64 (s.at_ : Int) = (s.at_ : Int) := IntWalk.wrap64_in _ (by have := h.at1; omega)
 have HP0 := qh h
 have K0 := qh k0
 have HST := qh hst
 have HEX := qh hex
 have HGX := qh hgx
 have HR := qh hr
 have HI6 := qh hi
 have HL := qh hl
 have HC2 := qh hc2
 have HCA := qh hca
 clear hex hgx hr hi hl hc2 hca
 clear h k0 hst
 go_enter Tryd.func111, Tryd.ntmps111
 go_wp2_with (first | (go_at_call 76; go_must (refine (K0.out _ HP0.out).mono ?_); rintro e w1 ⟨rfl, hp, hk⟩; have hmk := run_makeMap (P := Tryd.prog) 76 (w1.alloc (.cells #[.int .i64 4, .int .i64 a, .string gLb, .int .i64 nn] 39)); have hs0 := IntAt.made (w1.alloc (.cells #[.int .i64 4, .int .i64 a, .string gLb, .int .i64 nn] 39)); rw [World.size_alloc] at hs0; have HS := qh hs0; clear hs0; have HTB := qh ((Blk.new w1 39 #[.int .i64 4, .int .i64 a, .string gLb, .int .i64 nn]).alloc (.map #[] 0)); have HB : Hid (Below w1.heap.size w1 ((w1.alloc (.cells #[.int .i64 4, .int .i64 a, .string gLb, .int .i64 nn] 39)).alloc (.map #[] 0))) := qh bl2; have hsz2 : X.pb < w1.heap.size := hp.lt.1; have hne : ¬ w1.heap.size = X.pb := (by omega); have HP1 := qh hp; have HK1 := qh hk; clear hp hk) | (refine wpList_insert rfl _ _ _ rfl HS.out (by unfold maxLen; omega) rfl rfl rfl (by unfold maxLen; decide) (by decide) ?_; intro w5 hs hm; replace HTB := qh (HTB.out.mod hm (by omega)); replace HB := qh (below_mod HB.out hm (by omega)); replace HS := qh hs; clear hs hm; (try clear c2 c4 c5 hlt f2 z0 z1 z2 z3 xlt); have hp5 := HP1.out.bel_ HB.out; obtain ⟨c2, c4, c5, hlt⟩ := hp5.cells; have f2 := hp5.p.frozen 2; have z0 := HTB.out.cell 0; have z1 := HTB.out.cell 1; have z2 := HTB.out.cell 2; have z3 := HTB.out.cell 3; have xlt := HTB.out.lt; simp only [GG] at z0 z1 z2 z3;  clear hp5))
 have hq0 : (w5.setCell ⟨X.pb, 2, none⟩ (.int .i64 ((s.at_ : Int) + 1))).cell? ⟨w1.heap.size, 1, none⟩ = some (.int .i64 a) := (HTB.out.far (p := ⟨X.pb, 2, none⟩) hne (.int .i64 ((s.at_ : Int) + 1))).cell 1
 have HC0 := qh hq0
 clear hq0
 go_region_held3 (fun w' => w'.cell? ⟨w1.heap.size, 1, none⟩ = some (.int .i64 a)) (first | exact HC0.out | exact HC9.out | exact HC8.out _ | exact HD9.out | exact HD8.out _ | go_keep) (first | (go_at_call 112; refine (row_any HEX.out HGX.out (F := F) (sml (by decide)) (kids := []) (A0 := none) (c0 := 0) (PAt.nilV (((HP1.out.bel_ HB.out).stepd HST.out).1.bel_ (by repeat (first | exact Below.refl _ _ | assumption | refine Below.setCell ?_ (by first | (simp; done) | (simp; omega) | omega) _ | refine below_drewN ?_ _ | refine Below.drew ?_ | refine Below.alloc ?_ (by first | (simp; done) | (simp; omega) | omega) _)))) (OwnI.nil_ _) (fun g e => by cases e) (fun k hk => by cases hk) (by simp) HR.out HC2.out).mono ?_; rintro e w6 ⟨v6, rfl, ho6, hp6, hk6, hv6⟩; obtain ⟨A6, c6, rfl, -, -⟩ := Own.rd ho6; have htb := hk6.blk ((HTB.out.far (p := ⟨X.pb, 2, none⟩) hne (.int .i64 ((s.at_ : Int) + 1))).bel (w' := _) (by repeat (first | exact Below.refl _ _ | assumption | refine Below.setCell ?_ (by first | (simp; done) | (simp; omega) | omega) _ | refine below_drewN ?_ _ | refine Below.drew ?_ | refine Below.alloc ?_ (by first | (simp; done) | (simp; omega) | omega) _))) (fun e => by cases e) (by decide); have hc9 : w6.cell? ⟨w1.heap.size, 1, none⟩ = some (.int .i64 a) := htb.cell 1; have HC9 := qh hc9; have HC8 := qh (fun q => show (w6.drewN q).cell? ⟨w1.heap.size, 1, none⟩ = some (.int .i64 a) from hc9); have HT6 := qh htb; have HO6 := qh ho6; have HP6 := qh (hp6.less (F' := F) (fun k hk => .inl hk)); have HK6 := qh ((((HK1.out.trans (KeepE.of_below X.B (fun _ => False) HB.out)).trans ((HP1.out.bel_ HB.out).stepd HST.out).2).trans (KeepE.of_below X.B (fun _ => False) (by repeat (first | exact Below.refl _ _ | assumption | refine Below.setCell ?_ (by first | (simp; done) | (simp; omega) | omega) _ | refine below_drewN ?_ _ | refine Below.drew ?_ | refine Below.alloc ?_ (by first | (simp; done) | (simp; omega) | omega) _)))).then hk6 (fun i e => by cases e)); clear ho6 hp6 hk6 hv6 htb hc9) | (go_at_call 79; refine (add_own (HP6.out.bel_ bl0) (OwnI.bel HO6.out bl0) HL.out HI6.out 7 a 0 ⟨#[]⟩ HCA.out).mono ?_; rintro e w7 ⟨rfl, hp, hk⟩; have htb := hk.blk (HT6.out.bel bl0) id (by decide); have hc9 : w7.cell? ⟨w1.heap.size, 1, none⟩ = some (.int .i64 a) := htb.cell 1; have HD9 := qh hc9; have HD8 := qh (fun q => show (w7.drewN q).cell? ⟨w1.heap.size, 1, none⟩ = some (.int .i64 a) from hc9); have HP7 := qh hp; have HK7 := qh ((HK6.out.trans (KeepE.of_below X.B (fun _ => False) bl0)).trans hk); clear hp hk htb hc9))
 all_goals
  go_wp2_with fail
  go_ret
  exact ⟨rfl, HP7.out.bel_ bl0, HK7.out.trans (KeepE.of_below X.B (fun _ => False) bl0)⟩
theorem atom_dict {X : Cx} {F : Nat → Prop} {s : PS} {a nn : Int}  {s3 : PS} {kids : List Int} {ex : Ex} {m : Nat} (k0 : Step X F 76 #[X.p, .int .i64 (0 : Nat)] s (.agg #[.int .i64 4, .int .i64 a, .string gLc, .int .i64 nn]) s) (hst : s.at_ + 1 ≤ X.n) (hex : Part X 55 ex) (hgx : GdE X.L.length ex) (hr : pairsE ex X.L m (stepP s 1) [] = some (s3, kids)) (hi : ∀ k ∈ kids, In s3 k) (hl : kids.length ≤ 4398046511103) (hc2 : (s3, kids).1.ns.length ≤ 1099511627776) (hca : (addP s3 9 a ⟨#[]⟩ 0 kids).1.ns.length ≤ 1099511627776) : Step X F 111 #[X.p] s (.int .i64 (addP s3 9 a ⟨#[]⟩ 0 kids).2) (addP s3 9 a ⟨#[]⟩ 0 kids).1 := by
 intro w h
 have hw : IntKind.i64.wrap ((s.at_ : Int) + 1) = (s.at_ : Int) + 1 := IntWalk.i64_in _ (by have := h.at1; omega)
 have hw0 : wrap64 (s.at_ : Int) = (s.at_ : Int) := IntWalk.wrap64_in _ (by have := h.at1; omega)
 have HP0 := qh h
 have K0 := qh k0
 have HST := qh hst
 have HEX := qh hex
 have HGX := qh hgx
 have HR := qh hr
 have HI6 := qh hi
 have HL := qh hl
 have HC2 := qh hc2
 have HCA := qh hca
 clear hex hgx hr hi hl hc2 hca
 clear h k0 hst
 go_enter Tryd.func111, Tryd.ntmps111
 go_wp2_with (first | (go_at_call 76; go_must (refine (K0.out _ HP0.out).mono ?_); rintro e w1 ⟨rfl, hp, hk⟩; have hmk := run_makeMap (P := Tryd.prog) 76 (w1.alloc (.cells #[.int .i64 4, .int .i64 a, .string gLc, .int .i64 nn] 39)); have hs0 := IntAt.made (w1.alloc (.cells #[.int .i64 4, .int .i64 a, .string gLc, .int .i64 nn] 39)); rw [World.size_alloc] at hs0; have HS := qh hs0; clear hs0; have HTB := qh ((Blk.new w1 39 #[.int .i64 4, .int .i64 a, .string gLc, .int .i64 nn]).alloc (.map #[] 0)); have HB : Hid (Below w1.heap.size w1 ((w1.alloc (.cells #[.int .i64 4, .int .i64 a, .string gLc, .int .i64 nn] 39)).alloc (.map #[] 0))) := qh bl2; have hsz2 : X.pb < w1.heap.size := hp.lt.1; have hne : ¬ w1.heap.size = X.pb := (by omega); have HP1 := qh hp; have HK1 := qh hk; clear hp hk) | (refine wpList_insert rfl _ _ _ rfl HS.out (by unfold maxLen; omega) rfl rfl rfl (by unfold maxLen; decide) (by decide) ?_; intro w5 hs hm; replace HTB := qh (HTB.out.mod hm (by omega)); replace HB := qh (below_mod HB.out hm (by omega)); replace HS := qh hs; clear hs hm; (try clear c2 c4 c5 hlt f2 z0 z1 z2 z3 xlt); have hp5 := HP1.out.bel_ HB.out; obtain ⟨c2, c4, c5, hlt⟩ := hp5.cells; have f2 := hp5.p.frozen 2; have z0 := HTB.out.cell 0; have z1 := HTB.out.cell 1; have z2 := HTB.out.cell 2; have z3 := HTB.out.cell 3; have xlt := HTB.out.lt; simp only [GG] at z0 z1 z2 z3;  clear hp5))
 have hq0 : (w5.setCell ⟨X.pb, 2, none⟩ (.int .i64 ((s.at_ : Int) + 1))).cell? ⟨w1.heap.size, 1, none⟩ = some (.int .i64 a) := (HTB.out.far (p := ⟨X.pb, 2, none⟩) hne (.int .i64 ((s.at_ : Int) + 1))).cell 1
 have HC0 := qh hq0
 clear hq0
 go_region_held3 (fun w' => w'.cell? ⟨w1.heap.size, 1, none⟩ = some (.int .i64 a)) (first | exact HC0.out | exact HC9.out | exact HC8.out _ | exact HD9.out | exact HD8.out _ | go_keep) (first | (go_at_call 115; refine (pairs_any HEX.out HGX.out (F := F) (((HP1.out.bel_ HB.out).stepd HST.out).1.bel_ (by repeat (first | exact Below.refl _ _ | assumption | refine Below.setCell ?_ (by first | (simp; done) | (simp; omega) | omega) _ | refine below_drewN ?_ _ | refine Below.drew ?_ | refine Below.alloc ?_ (by first | (simp; done) | (simp; omega) | omega) _))) HR.out HC2.out).mono ?_; rintro e w6 ⟨v6, rfl, ho6, hp6, hk6, hv6⟩; obtain ⟨A6, c6, rfl, -, -⟩ := Own.rd ho6; have htb := hk6.blk ((HTB.out.far (p := ⟨X.pb, 2, none⟩) hne (.int .i64 ((s.at_ : Int) + 1))).bel (w' := _) (by repeat (first | exact Below.refl _ _ | assumption | refine Below.setCell ?_ (by first | (simp; done) | (simp; omega) | omega) _ | refine below_drewN ?_ _ | refine Below.drew ?_ | refine Below.alloc ?_ (by first | (simp; done) | (simp; omega) | omega) _))) (fun e => by cases e) (by decide); have hc9 : w6.cell? ⟨w1.heap.size, 1, none⟩ = some (.int .i64 a) := htb.cell 1; have HC9 := qh hc9; have HC8 := qh (fun q => show (w6.drewN q).cell? ⟨w1.heap.size, 1, none⟩ = some (.int .i64 a) from hc9); have HT6 := qh htb; have HO6 := qh ho6; have HP6 := qh (hp6.less (F' := F) (fun k hk => .inl hk)); have HK6 := qh ((((HK1.out.trans (KeepE.of_below X.B (fun _ => False) HB.out)).trans ((HP1.out.bel_ HB.out).stepd HST.out).2).trans (KeepE.of_below X.B (fun _ => False) (by repeat (first | exact Below.refl _ _ | assumption | refine Below.setCell ?_ (by first | (simp; done) | (simp; omega) | omega) _ | refine below_drewN ?_ _ | refine Below.drew ?_ | refine Below.alloc ?_ (by first | (simp; done) | (simp; omega) | omega) _)))).then hk6 (fun i e => by cases e)); clear ho6 hp6 hk6 hv6 htb hc9) | (go_at_call 79; refine (add_own (HP6.out.bel_ bl0) (OwnI.bel HO6.out bl0) HL.out HI6.out 9 a 0 ⟨#[]⟩ HCA.out).mono ?_; rintro e w7 ⟨rfl, hp, hk⟩; have htb := hk.blk (HT6.out.bel bl0) id (by decide); have hc9 : w7.cell? ⟨w1.heap.size, 1, none⟩ = some (.int .i64 a) := htb.cell 1; have HD9 := qh hc9; have HD8 := qh (fun q => show (w7.drewN q).cell? ⟨w1.heap.size, 1, none⟩ = some (.int .i64 a) from hc9); have HP7 := qh hp; have HK7 := qh ((HK6.out.trans (KeepE.of_below X.B (fun _ => False) bl0)).trans hk); clear hp hk htb hc9))
 all_goals
  go_wp2_with fail
  go_ret
  exact ⟨rfl, HP7.out.bel_ bl0, HK7.out.trans (KeepE.of_below X.B (fun _ => False) bl0)⟩
end
section
open Go.RowKit
set_option linter.unusedVariables false
set_option linter.unusedSimpArgs false
theorem pairsE_len {ex : Ex} {L : List TokD} (hex : GdE L.length ex) : ∀ (m : Nat) (s : PS) (kids : List Int) (r : PS × List Int), pairsE ex L m s kids = some r → r.2.length + 2 * s.at_ ≤ kids.length + 2 * r.1.at_ + 2
 | 0, s, kids, r, h => by cases h
 | m + 1, s, kids, r, h => by
  unfold pairsE at h
  split at h
  ·obtain rfl := Option.some.inj h
   simp only
   omega
  ·have u0 := (take_gr (L := L) (s := s) gRc).up
   split at h
   ·obtain rfl := Option.some.inj h
    simp only
    omega
   ·split at h
    ·cases h
    ·rename_i s1 x he
     have u1 := ((hex _ _ he).1.trans (need_gr (L := L) gColon)).up
     split at h
     ·cases h
     ·rename_i s2 v hv
      have u2 := (hex _ _ hv).1.up
      simp only at u1 u2
      split at h
      ·rename_i hy
       have hadv := any_adv (L := L) (s := s2) (l := [gComma]) hy
       have ih := pairsE_len hex m _ _ _ h
       have e : (takeP L gComma s2).1.at_ = s2.at_ + 1 := hadv
       rw [e, List.length_append] at ih
       simp only [List.length_cons, List.length_nil] at ih
       omega
      ·obtain rfl := Option.some.inj h
       have u3 := ((take_gr (L := L) (s := s2) gComma).trans (need_gr (L := L) gRc)).up
       simp only [LL]
       omega
theorem paramsE_len {ex : Ex} {L : List TokD} (hex : GdE L.length ex) : ∀ (m : Nat) (s : PS) (out : List Int) (late : Bool) (r : PS × List Int), paramsE ex L m s out late = some r → r.2.length + s.at_ ≤ out.length + r.1.at_ + 1
 | 0, s, out, late, r, h => by cases h
 | m + 1, s, out, late, r, h => by
  unfold paramsE at h
  simp only at h
  split at h
  ·obtain rfl := Option.some.inj h
   simp only
   omega
  ·generalize hC : (if out = [] then takeP L gColon s else (s, false)) = C at h
   have gc : Gr L.length 0 s C.1 := by
    rw [← hC]
    split
    ·exact take_gr _
    ·exact Gr.refl _ _
   have u0 := gc.up
   split at h
   ·obtain rfl := Option.some.inj h
    simp only
    omega
   ·have u1 := ((name_gr (L := L) (s := C.1)).trans (take_gr (L := L) (s := (nameP L C.1).1) gEq)).up
    have fin : ∀ {s1 : PS} {y : Int} {late2 : Bool}, s.at_ ≤ s1.at_ → (if (takeP L gComma s1).2 = true then paramsE ex L m (takeP L gComma s1).1 (out ++ [y]) late2 else some (needP L gColon (takeP L gComma s1).1, out ++ [y])) = some r → r.2.length + s.at_ ≤ out.length + r.1.at_ + 1 := by
     intro s1 y late2 hs1 h
     split at h
     ·rename_i hy
      have hadv := any_adv (L := L) (s := s1) (l := [gComma]) hy
      have ih := paramsE_len hex m _ _ _ _ h
      have e : (takeP L gComma s1).1.at_ = s1.at_ + 1 := hadv
      rw [e, List.length_append] at ih
      simp only [List.length_cons, List.length_nil] at ih
      omega
     ·obtain rfl := Option.some.inj h
      have u3 := ((take_gr (L := L) (s := s1) gComma).trans (need_gr (L := L) gColon)).up
      simp only [LL]
      omega
    split at h
    ·split at h
     ·cases h
     ·rename_i s1 x he
      have u2 := ((hex _ _ he).1.trans (add_gr (L := L) (s := s1) 22 (tokP L C.1 0).at_ (nameP L C.1).2 0 [x])).up
      exact fin (by omega) h
    ·refine fin ?_ h
     refine Nat.le_trans ?_ (add_gr (L := L) _ _ _ _ _).up
     split
     ·rw [(fail_same _ _).2.2]
      omega
     ·omega
theorem atom_part {X : Cx} {ex : Ex} {m : Nat} (hex : Part X 55 ex) (hg : GdE X.L.length ex) : Part X 111 (atomE ex X.L m) := by
 intro F s r hr hc w h
 have k0 : Step X F 76 #[X.p, .int .i64 (0 : Nat)] s (tokV (tokP X.L s 0)) s := tok_step 0 (by omega)
 have hin : (tokP X.L s 0).k ≠ 0 → s.at_ + 1 ≤ X.n := fun hk => by
  have := (tokP_in (L := X.L) (s := s) (b := 0) hk).2
  have := h.ln
  omega
 have hsm := tokP_small h.ts s 0
 have hln := h.ln
 have hbg := h.big
 have hat := h.at_
 have kf : Step X F 96 #[X.p, .int .i64 30, .int .i64 (s.at_ : Int)] s (.int .i64 (-1)) (failP s 30 s.at_) := fail_step 30 _
 unfold atomE at hr
 simp only at hr
 generalize tokP X.L s 0 = T at *
 obtain ⟨k, a, tx, nn⟩ := T
 simp only at hr hin hsm
 split at hr
 ·rename_i hk
  subst hk
  obtain rfl := Option.some.inj hr
  exact atom_int k0 (hin (by decide)) (add_step hc) w h
 rename_i h2
 split at hr
 ·rename_i hk
  subst hk
  obtain rfl := Option.some.inj hr
  exact atom_str k0 (hin (by decide)) (add_step hc) w h
 rename_i h3
 split at hr
 ·rename_i hk
  subst hk
  split at hr
  ·rename_i op hop
   obtain rfl := Option.some.inj hr
   exact atom_word k0 (hin (by decide)) hop hsm (add_step hc) w h
  ·rename_i hop
   have kn : ∀ w, Asp w → Calls Tryd.prog 29 #[.string tx] w fun e w' => e = .returned (.bool (nameB tx)) ∧ Below w.heap.size w w' := fun w hw => name_any tx hsm w hw
   split at hr
   ·rename_i hy
    rw [hy] at kn
    obtain rfl := Option.some.inj hr
    exact atom_name k0 (hin (by decide)) hop hsm kn (add_step hc) w h
   ·rename_i hy
    rw [Bool.eq_false_iff.2 hy] at kn
    obtain rfl := Option.some.inj hr
    exact atom_noname (y := 0) k0 (hin (by decide)) hop hsm kn kf hat w h
 rename_i h1
 split at hr
 ·rename_i hk
  subst hk
  have hst := hin (by decide)
  have hst2 : (stepP s 1).at_ ≤ X.n := hst
  split at hr
  ·rename_i ht
   subst ht
   exact atom_round k0 hst (round_any hex hg hst2 hln hbg hr hc) w h
  ·rename_i t1
   split at hr
   ·rename_i ht
    subst ht
    split at hr
    ·cases hr
    rename_i s3 kids he
    obtain rfl := Option.some.inj hr
    obtain ⟨g3, i3⟩ := rowE_gl hg _ _ _ _ _ (fun k hk => by cases hk) he
    have hlen := rowE_len hg _ _ _ _ _ he
    have l1 := (add_gr (L := X.L) (s := s3) 7 a ⟨#[]⟩ 0 kids).lenle
    have ha := g3.le (by rw [hln]; exact hst2)
    simp only [List.length_nil] at hlen i3 ha
    exact atom_list k0 hst hex hg he i3 (by omega) (Nat.le_trans l1 hc) hc w h
   ·rename_i t2
    split at hr
    ·rename_i ht
     subst ht
     split at hr
     ·cases hr
     rename_i s3 kids he
     obtain rfl := Option.some.inj hr
     obtain ⟨g3, i3⟩ := pairsE_gl hg _ _ _ _ (fun k hk => by cases hk) he
     have hlen := pairsE_len hg _ _ _ _ he
     have l1 := (add_gr (L := X.L) (s := s3) 9 a ⟨#[]⟩ 0 kids).lenle
     have ha := g3.le (by rw [hln]; exact hst2)
     simp only [List.length_nil] at hlen i3 ha
     exact atom_dict k0 hst hex hg he i3 (by omega) (Nat.le_trans l1 hc) hc w h
    ·rename_i t3
     obtain rfl := Option.some.inj hr
     exact atom_sign (y := 0) k0 t1 t2 t3 kf hat w h
 ·rename_i h4
  obtain rfl := Option.some.inj hr
  exact atom_other (y := 0) k0 (by simpa using h1) (by simpa using h2) (by simpa using h3) (by simpa using h4) kf hat w h
theorem w55_or {X : Cx} {F : Nat → Prop} {s s1 s2 s3 : PS} {T : TokD} {x : Int}
  (k0 : Step X F 76 #[X.p, .int .i64 (0 : Nat)] s (tokV T) s)
  (k1 : Step X F 77 #[X.p, .string kLambda] s (.bool false) s1)
  (k2 : Step X F 80 #[X.p] s1 (.int .i64 x) s2)
  (k3 : Step X F 77 #[X.p, .string kIf] s2 (.bool false) s3) :
  Step X F 55 #[X.p] s (.int .i64 x) s3 := by
 intro w h
 have HP := qh h
 have K0 := qh k0
 have K1 := qh k1
 have K2 := qh k2
 have K3 := qh k3
 have HK := qh (KeepE.refl X.B (fun _ => False) w)
 obtain ⟨c2, c4, c5, hlt⟩ := h.cells
 clear h k0 k1 k2 k3
 go_enter Tryd.func55, Tryd.ntmps55
 go_wp2_with (first | (go_at_call 76; go_must (first | (refine (K0.out _ HP.out).mono ?_; clear K0; rintro e w0 ⟨rfl, hp, hk⟩; replace HK := qh (HK.out.trans hk); replace HP := qh hp; clear hp hk; (try clear c2 c4 c5 hlt); obtain ⟨c2, c4, c5, hlt⟩ := HP.out.cells; have hf := fldT T w0))) | (go_at_call 77; go_must (first | (refine (K1.out _ HP.out).mono ?_; clear K1; rintro e w1 ⟨rfl, hp, hk⟩; replace HK := qh (HK.out.trans hk); replace HP := qh hp; clear hp hk; (try clear c2 c4 c5 hlt); obtain ⟨c2, c4, c5, hlt⟩ := HP.out.cells) | (refine (K3.out _ HP.out).mono ?_; clear K3; rintro e w3 ⟨rfl, hp, hk⟩; replace HK := qh (HK.out.trans hk); replace HP := qh hp; clear hp hk; (try clear c2 c4 c5 hlt); obtain ⟨c2, c4, c5, hlt⟩ := HP.out.cells))) | (go_at_call 80; go_must (first | (refine (K2.out _ HP.out).mono ?_; clear K2; rintro e w2 ⟨rfl, hp, hk⟩; replace HK := qh (HK.out.trans hk); replace HP := qh hp; clear hp hk; (try clear c2 c4 c5 hlt); obtain ⟨c2, c4, c5, hlt⟩ := HP.out.cells))))
 go_ret
 exact ⟨rfl, HP.out, HK.out⟩
theorem w55_if {X : Cx} {F : Nat → Prop} {s s1 s2 s3 s4 s5 s6 : PS} {T : TokD} {x y z : Int}
  (k0 : Step X F 76 #[X.p, .int .i64 (0 : Nat)] s (tokV T) s)
  (k1 : Step X F 77 #[X.p, .string kLambda] s (.bool false) s1)
  (k2 : Step X F 80 #[X.p] s1 (.int .i64 x) s2)
  (k3 : Step X F 77 #[X.p, .string kIf] s2 (.bool true) s3)
  (k4 : Step X F 80 #[X.p] s3 (.int .i64 y) s4)
  (k5 : Step X F 81 #[X.p, .string kElse] s4 (.tuple #[]) s5)
  (k6 : Step X F 55 #[X.p] s5 (.int .i64 z) s6)
  (hi0 : ∀ q ∈ [x, y, z], -1 ≤ q ∧ q ≤ 4611686018427387904) (hc0 : (addP s6 16 (placeOf s6 x) ⟨#[]⟩ 0 [x, y, z]).1.ns.length ≤ 1099511627776) :
  Step X F 55 #[X.p] s (.int .i64 (addP s6 16 (placeOf s6 x) ⟨#[]⟩ 0 [x, y, z]).2) (addP s6 16 (placeOf s6 x) ⟨#[]⟩ 0 [x, y, z]).1 := by
 intro w h
 have HP := qh h
 have K0 := qh k0
 have K1 := qh k1
 have K2 := qh k2
 have K3 := qh k3
 have K4 := qh k4
 have K5 := qh k5
 have K6 := qh k6
 have HK := qh (KeepE.refl X.B (fun _ => False) w)
 obtain ⟨c2, c4, c5, hlt⟩ := h.cells
 clear h k0 k1 k2 k3 k4 k5 k6
 have HI0 := qh hi0
 have HC0 := qh hc0
 clear hi0 hc0
 go_enter Tryd.func55, Tryd.ntmps55
 go_wp2_with (first | (go_at_call 76; go_must (first | (refine (K0.out _ HP.out).mono ?_; clear K0; rintro e w0 ⟨rfl, hp, hk⟩; replace HK := qh (HK.out.trans hk); replace HP := qh hp; clear hp hk; (try clear c2 c4 c5 hlt); obtain ⟨c2, c4, c5, hlt⟩ := HP.out.cells; have hf := fldT T w0))) | (go_at_call 77; go_must (first | (refine (K1.out _ HP.out).mono ?_; clear K1; rintro e w1 ⟨rfl, hp, hk⟩; replace HK := qh (HK.out.trans hk); replace HP := qh hp; clear hp hk; (try clear c2 c4 c5 hlt); obtain ⟨c2, c4, c5, hlt⟩ := HP.out.cells) | (refine (K3.out _ HP.out).mono ?_; clear K3; rintro e w3 ⟨rfl, hp, hk⟩; replace HK := qh (HK.out.trans hk); replace HP := qh hp; clear hp hk; (try clear c2 c4 c5 hlt); obtain ⟨c2, c4, c5, hlt⟩ := HP.out.cells))) | (go_at_call 80; go_must (first | (refine (K2.out _ HP.out).mono ?_; clear K2; rintro e w2 ⟨rfl, hp, hk⟩; replace HK := qh (HK.out.trans hk); replace HP := qh hp; clear hp hk; (try clear c2 c4 c5 hlt); obtain ⟨c2, c4, c5, hlt⟩ := HP.out.cells) | (refine (K4.out _ HP.out).mono ?_; clear K4; rintro e w4 ⟨rfl, hp, hk⟩; replace HK := qh (HK.out.trans hk); replace HP := qh hp; clear hp hk; (try clear c2 c4 c5 hlt); obtain ⟨c2, c4, c5, hlt⟩ := HP.out.cells))) | (go_at_call 81; go_must (first | (refine (K5.out _ HP.out).mono ?_; clear K5; rintro e w5 ⟨rfl, hp, hk⟩; replace HK := qh (HK.out.trans hk); replace HP := qh hp; clear hp hk; (try clear c2 c4 c5 hlt); obtain ⟨c2, c4, c5, hlt⟩ := HP.out.cells))) | (go_at_call 55; go_must (first | (refine (K6.out _ HP.out).mono ?_; clear K6; rintro e w6 ⟨rfl, hp, hk⟩; replace HK := qh (HK.out.trans hk); replace HP := qh hp; clear hp hk; (try clear c2 c4 c5 hlt); obtain ⟨c2, c4, c5, hlt⟩ := HP.out.cells; obtain ⟨hlk, hfd⟩ := HP.out.look (HI0.out x (by simp))))) | (go_at_call 79; go_must (refine (add_any (s := s6) (HP.out.bel_ (Below.alloc (Below.refl _ _) (Nat.le_refl _) _)) (Rd.ints _ [x, y, z] _ 3 rfl rfl (by omega)) rfl (by omega) HI0.out 16 (placeOf s6 x) 0 ⟨#[]⟩ HC0.out).mono ?_); rintro e w1 ⟨rfl, hp, hk⟩; replace hk := (KeepE.of_below X.B (fun _ => False) (Below.alloc (Below.refl _ _) (Nat.le_refl _) _)).trans hk; replace HK := qh (HK.out.trans hk); replace HP := qh hp; clear hp hk; (try clear c2 c4 c5 hlt); obtain ⟨c2, c4, c5, hlt⟩ := HP.out.cells))
 go_ret
 exact ⟨rfl, HP.out, HK.out⟩
theorem w55_lambda {X : Cx} {F : Nat → Prop} {ex : Ex} {s s1 s2 s3 : PS} {T : TokD} {kids : List Int} {x : Int} {m : Nat} (hex : Part X 55 ex) (hgx : GdE X.L.length ex)
  (k0 : Step X F 76 #[X.p, .int .i64 (0 : Nat)] s (tokV T) s) (k1 : Step X F 77 #[X.p, .string kLambda] s (.bool true) s1) (hr : paramsE ex X.L m s1 [] false = some (s2, kids)) (hc2 : (s2, kids).1.ns.length ≤ 1099511627776)
  (kx : ∀ F', Step X F' 55 #[X.p] s2 (.int .i64 x) s3) (hl : kids.length ≤ 4398046511102) (hi : ∀ k ∈ kids ++ [x], In s3 k) (hca : (addP s3 21 T.at_ ⟨#[]⟩ 0 (kids ++ [x])).1.ns.length ≤ 1099511627776) :
  Step X F 55 #[X.p] s (.int .i64 (addP s3 21 T.at_ ⟨#[]⟩ 0 (kids ++ [x])).2) (addP s3 21 T.at_ ⟨#[]⟩ 0 (kids ++ [x])).1 := by
 intro w h
 have HP := qh h
 have HEX := qh hex
 have HGX := qh hgx
 have K0 := qh k0
 have K1 := qh k1
 have HR := qh hr
 have HC2 := qh hc2
 have KX := qh kx
 have HI := qh hi
 have HCA := qh hca
 have HK := qh (KeepE.refl X.B (fun _ => False) w)
 clear h hex hgx k0 k1 hr hc2 kx hi hca
 go_enter Tryd.func55, Tryd.ntmps55
 go_wp2_with (first | (go_at_call 76; go_must (refine (K0.out _ HP.out).mono ?_); rintro e w1 ⟨rfl, hp, hk⟩; have hf := fldT T w1; replace HK := qh (HK.out.trans hk); replace HP := qh hp; clear hp hk) | (go_at_call 77; go_must (refine (K1.out _ HP.out).mono ?_); rintro e w2 ⟨rfl, hp, hk⟩; replace HK := qh (HK.out.trans hk); replace HP := qh hp; clear hp hk) | (go_at_call 78; go_must (refine (params_any HEX.out HGX.out (F := F) HP.out HR.out HC2.out).mono ?_); rintro e w3 ⟨v3, rfl, ho3, hp3, hk3, hv3⟩; obtain ⟨A3, c3, rfl, -, -⟩ := Own.rd ho3; have HWB := qh HP.out.wB; have HB3 := qh (show ∀ g, (Value.slice A3 kids.length c3).ownBlock = some g → X.B ≤ g from fun g e => (hv3 g e).elim (fun e => by cases e) fun h => Nat.le_trans HWB.out h); have HO3 := qh ho3; have HP3 := qh hp3; have HK3 := qh (HK.out.then hk3 (fun i e => by cases e)); have HV3 := qh (show ∀ i, (Value.slice A3 kids.length c3).ownBlock = some i → False ∨ w.heap.size ≤ i from fun i e => .inr ((hv3 i e).elim (fun e => by cases e) fun h => Nat.le_trans HK.out.size h)); clear ho3 hp3 hk3 hv3) | (go_at_call 55; go_must (refine (KX.out _ _ HP3.out).mono ?_); rintro e w4 ⟨rfl, hp, hk⟩; have HO4 := qh (hk.ownI HO3.out (fun _ _ => id)); have HP4 := qh hp; have HK4 := qh (HK3.out.trans hk); clear hp hk) | (at_builtin; go_must (refine wpList_appendN _ rfl _ _ rfl (.slice A3 kids.length c3) kids rfl (OwnI.bel HO4.out (Below.alloc (Below.refl _ _) (Nat.le_refl _) _)) _ 1 1 [x] rfl Rd.one rfl (by omega) ?_); intro v6 w6 ho6 hg6 hn6; generalize hG : kids ++ [x] = G at ho6; obtain ⟨A6, c6, rfl, -, -⟩ := Own.rd ho6; have HG := qh hG; obtain ⟨hp6, hk6, hv6⟩ := HP4.out.app (Below.alloc (Below.refl _ _) (Nat.le_refl _) _) HO4.out HB3.out hg6 hn6 ho6; have HP6 := qh hp6; have HO6 := qh ho6; have HK6 := qh (HK4.out.then hk6 (fun i e => HV3.out i e)); clear hp6 ho6 hk6 hv6 hG hg6 hn6) | (go_at_call 79; go_must (refine (add_own HP6.out HO6.out (by have := congrArg List.length HG.out; simp only [LL] at this; omega) (by rw [← HG.out]; exact HI.out) 21 T.at_ 0 ⟨#[]⟩ (by rw [← HG.out]; exact HCA.out)).mono ?_); rintro e w7 ⟨rfl, hp, hk⟩; have HP7 := qh (hp.less (F' := F) (fun k hk => .inl hk)); have HK7 := qh (HK6.out.trans hk); clear hp hk))
 go_ret
 rw [HG.out]
 exact ⟨rfl, HP7.out, HK7.out⟩
theorem expr_part {X : Cx} {ex : Ex} {m : Nat} (hn : X.L.length = X.n) (hbg : X.n ≤ 274877906944) (hex : Part X 55 ex) (hg : GdE X.L.length ex) : Part X 55 (exprB ex X.L m) := by
 have hpost := postfix_part (m0 := m) (atom_part hex hg) hex hg
 have hsum : Part X 106 (sumE ex X.L m) := sum_part (term_part (factor_part hpost hg m) (fun s r h => factorE_gd hg m m s r h)) (termE_gd hg m)
 have hor : Part X 80 (orE ex X.L m) := or_part (and_part (not_part hsum hg m) (fun s r h => notE_gd hg m m s r h)) (andE_gd hg m)
 intro F s r hr hc w h
 have kt : Step X F 77 #[X.p, .string kLambda] s (.bool (takeP X.L kLambda s).2) (takeP X.L kLambda s).1 := take_step_ kLambda (sml (by decide))
 have k0 : Step X F 76 #[X.p, .int .i64 (0 : Nat)] s (tokV (tokP X.L s 0)) s := tok_step 0 (by omega)
 unfold exprB at hr
 simp only at hr
 split at hr
 ·rename_i hy
  rw [hy] at kt
  split at hr
  ·cases hr
  rename_i s2 kids he
  split at hr
  ·cases hr
  rename_i s3 x hx
  obtain rfl := Option.some.inj hr
  obtain ⟨g2, i2⟩ := paramsE_gl hg _ _ _ _ _ (fun k hk => by cases hk) he
  obtain ⟨g3, i3⟩ := hg _ _ hx
  have hlen := paramsE_len hg _ _ _ _ _ he
  have l1 := (add_gr (L := X.L) (s := s3) 21 (tokP X.L s 0).at_ ⟨#[]⟩ 0 (kids ++ [x])).lenle
  have l3 := g3.lenle
  have hat := h.at_
  have ha := ((take_yes hy).trans g2).le (by omega)
  simp only [List.length_nil] at hlen i2 ha l3
  exact w55_lambda hex hg k0 kt he (by simp only; omega) (fun F' => hex F' _ (s3, x) hx (by simp only; omega)) (by omega) (in_snoc (in_all i2 g3) i3) hc w h
 ·rename_i hy
  rw [Bool.eq_false_iff.2 hy] at kt
  split at hr
  ·cases hr
  rename_i s1 x he
  obtain ⟨g1, i1⟩ := orE_gd hg m _ _ he
  have gi := take_gr (L := X.L) (s := s1) kIf
  have ki : Step X F 77 #[X.p, .string kIf] s1 (.bool (takeP X.L kIf s1).2) (takeP X.L kIf s1).1 := take_step_ kIf (sml (by decide))
  split at hr
  ·rename_i hy2
   rw [hy2] at ki
   split at hr
   ·cases hr
   rename_i s2 y hy3
   split at hr
   ·cases hr
   rename_i s3 z hz
   obtain rfl := Option.some.inj hr
   obtain ⟨g2, i2⟩ := orE_gd hg m _ _ hy3
   have gn := need_gr (L := X.L) (s := s2) kElse
   obtain ⟨g3, i3⟩ := hg _ _ hz
   have l1 := (add_gr (L := X.L) (s := s3) 16 (placeOf s3 x) ⟨#[]⟩ 0 [x, y, z]).lenle
   have l2 := (((gi.trans g2).trans gn).trans g3).lenle
   have l3 := (gn.trans g3).lenle
   simp only at l2 l3
   exact w55_if k0 kt (hor F _ (s1, x) he (by simp only; omega)) ki (hor F _ (s2, y) hy3 (by simp only; omega)) (need_step kElse (sml (by decide))) (hex F _ (s3, z) hz (by simp only; omega)) (three_rng (i1.mono (((gi.trans g2).trans gn).trans g3)) (i2.mono (gn.trans g3)) i3 (Nat.le_trans l1 hc)) hc w h
  ·rename_i hy2
   rw [Bool.eq_false_iff.2 hy2] at ki
   obtain rfl := Option.some.inj hr
   exact w55_or k0 kt (hor F _ (s1, x) he (Nat.le_trans gi.lenle hc)) ki w h
theorem expr_all {X : Cx} (hn : X.L.length = X.n) (hbg : X.n ≤ 274877906944) : ∀ m, Part X 55 (exprE X.L m)
 | 0 => fun F s r hr => by cases hr
 | m + 1 => expr_part hn hbg (expr_all hn hbg m) (exprE_gd X.L m)
end
section
open Go.RowKit
set_option linter.unusedVariables false
set_option linter.unusedSimpArgs false
def nodeOf (r : PS × Int) : Int := if r.1.e ≠ 0 then -1 else r.2
def usedOf (r : PS × Int) : Int := if r.1.e ≠ 0 then r.1.bad else (r.1.at_ : Int)
theorem parse_any {w : World} {B bb n c m : Nat} {A : Option Addr} {L : List TokD} {r : PS × Int} (hbb : Blk w bb 71 #[.slice none 0 0]) (hB : B ≤ bb) (h0 : 0 < B) (hl : Rd w A n c 4 (L.flatMap tcs)) (hla : ∀ b o, A = some ⟨b, o, none⟩ → b < B) (hn : L.length = n) (hbig : n ≤ 274877906944)
  (hts : ∀ t ∈ L, t.s.size ≤ maxLen) (htab : Asp w) (hr : exprE L m startS = some r) :
  Calls Tryd.prog 34 #[.pointer (some ⟨bb, 0, none⟩), .slice A n c] w fun e w' => e = .returned (.tuple #[.int .i64 (nodeOf r), .int .i64 (usedOf r), .int .i64 r.1.e]) ∧
   (∃ v, Blk w' bb 71 #[v] ∧ (∀ g, v.ownBlock = some g → B ≤ g) ∧ RowN (fun _ => False) w' v r.1.ns) ∧ Keeps B w w' := by
 have hmk := run_makeMap (P := Tryd.prog) 96 w
 have hwB := hbb.lt
 have hb : Below w.heap.size w ((w.alloc (.map #[] 0)).alloc (.cells (pcs bb (.slice A n c) w.heap.size startS) 98)) := bl2
 have hP : PAt ⟨B, w.heap.size + 1, bb, w.heap.size, n, c, A, L⟩ (fun _ => False) ((w.alloc (.map #[] 0)).alloc (.cells (pcs bb (.slice A n c) w.heap.size startS) 98)) startS := by
  refine ⟨?_, hl.bel hb, hla, by simp only; omega, hB, by simp only; omega, by simp; omega, ⟨.slice none 0 0, hbb.bel hb, (fun g e => by cases e), RowN.nil_ _ _⟩, ?_, Nat.zero_le _, rfl, htab.below hb, hn, h0, hbig, hts, fun k hk => hk.elim⟩
  ·have := Blk.new (w.alloc (.map #[] 0)) 98 (pcs bb (.slice A n c) w.heap.size startS)
   rw [World.size_alloc] at this
   exact this
  ·have h1 := KnAt.made w startS rfl rfl
   exact h1.keep (Below.heap_alloc _ _ _ h1.lt) rfl rfl
 have hg := exprE_gd L m _ _ hr
 have hcap : r.1.ns.length ≤ 1099511627776 := by
  have h1 := hg.1.cnt
  have h2 := hg.1.le (Nat.zero_le _)
  simp only [startS, List.length_nil] at h1
  omega
 have K := qh (expr_all (X := ⟨B, w.heap.size + 1, bb, w.heap.size, n, c, A, L⟩) hn hbig m (fun _ => False) startS r hr hcap _ hP)
 have HB := qh hb
 clear hbb hl hla hts htab hr hP hb hg hcap
 by_cases he : r.1.e = 0
 ·have e1 : nodeOf r = r.2 := by unfold nodeOf; rw [if_neg (by simpa using he)]
  have e2 : usedOf r = (r.1.at_ : Int) := by unfold usedOf; rw [if_neg (by simpa using he)]
  rw [e1, e2]
  have HE := qh (And.intro e1 e2)
  clear e1 e2
  go_enter Tryd.func34, Tryd.ntmps34
  go_wp2_with (go_at_call 55; go_must (refine K.out.mono ?_); rintro e w1 ⟨rfl, hp, hk⟩; obtain ⟨c2, c4, c5, hlt⟩ := hp.cells; have c3 := hp.p.cell 3; simp only [pcs, GG] at c2 c3 c4 hlt; rw [he] at c4; have HP := qh hp; have HK := qh hk; clear hp hk c5)
  go_quiet (fail)
  go_wp2_with fail
  refine bodyPost_ret (v := .tuple #[.int .i64 r.2, .int .i64 r.1.at_, .int .i64 0]) (by first | (simp [results, Tryd.results34, go_sem]; done) | (simp [results, Tryd.results34, go_sem]; rfl)) rfl ?_
  refine ⟨by rw [he], ?_, ?_⟩
  ·obtain ⟨v, h1, h2, h3⟩ := (HP.out.bel_ bl0).t
   exact ⟨v, h1, h2, h3⟩
  ·exact ((KeepE.of_below B (fun _ => False) HB.out).trans HK.out).trans (KeepE.of_below B (fun _ => False) bln)
 ·have he' : (r.1.e == 0) = false := by simpa using he
  have e1 : nodeOf r = -1 := by unfold nodeOf; rw [if_pos he]
  have e2 : usedOf r = r.1.bad := by unfold usedOf; rw [if_pos he]
  rw [e1, e2]
  clear e1 e2
  go_enter Tryd.func34, Tryd.ntmps34
  go_wp2_with (go_at_call 55; go_must (refine K.out.mono ?_); rintro e w1 ⟨rfl, hp, hk⟩; obtain ⟨c2, c4, c5, hlt⟩ := hp.cells; have c3 := hp.p.cell 3; simp only [pcs, GG] at c2 c3 c4 hlt; have HP := qh hp; have HK := qh hk; clear hp hk c5)
  go_quiet (fail)
  go_wp2_with fail
  refine bodyPost_ret (v := .tuple #[.int .i64 (-1), .int .i64 r.1.bad, .int .i64 r.1.e]) (by first | (simp [results, Tryd.results34, go_sem]; done) | (simp [results, Tryd.results34, go_sem]; rfl)) rfl ?_
  refine ⟨rfl, ?_, ?_⟩
  ·obtain ⟨v, h1, h2, h3⟩ := (HP.out.bel_ bl0).t
   exact ⟨v, h1, h2, h3⟩
  ·exact ((KeepE.of_below B (fun _ => False) HB.out).trans HK.out).trans (KeepE.of_below B (fun _ => False) bln)
end
end Go.Proofs.YtjdcicopjipmnaaDoor
