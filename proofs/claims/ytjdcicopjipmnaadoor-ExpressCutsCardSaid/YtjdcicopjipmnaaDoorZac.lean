/- bound: one of a slice. left: parts with operators between. or, and, sum, term: parts with operators between. factor. compares: the comparison operator that stands there. not. index: an index, or a slice. row: exprs up to a sign. -/
import Derived.Test.YtjdcicopjipmnaaDoorZab
namespace Go.Proofs.YtjdcicopjipmnaaDoor
set_option maxRecDepth 100000
set_option maxHeartbeats 4000000
section
open Go.RowKit
set_option linter.unusedVariables false
set_option linter.unusedSimpArgs false
theorem w116_none {X : Cx} {F : Nat → Prop} {s s1 : PS} {T : TokD} {t : ByteArray} {y : Int}
  (k0 : Step X F 102 #[X.p, .string t, .int .i64 (0 : Nat)] s (.bool true) s)
  (k1 : Step X F 76 #[X.p, .int .i64 (0 : Nat)] s (tokV T) s)
  (k2 : Step X F 79 #[X.p, .int .i64 1, .int .i64 T.at_, .string ⟨#[]⟩, .int .i64 0, .slice none 0 0] s (.int .i64 y) s1) :
  Step X F 116 #[X.p, .string t] s (.int .i64 y) s1 := by
 intro w h
 have HP := qh h
 have K0 := qh k0
 have K1 := qh k1
 have K2 := qh k2
 have HK := qh (KeepE.refl X.B (fun _ => False) w)
 obtain ⟨c2, c4, c5, hlt⟩ := h.cells
 clear h k0 k1 k2
 go_enter Tryd.func116, Tryd.ntmps116
 go_wp2_with (first | (go_at_call 102; go_must (first | (refine (K0.out _ HP.out).mono ?_; clear K0; rintro e w0 ⟨rfl, hp, hk⟩; replace HK := qh (HK.out.trans hk); replace HP := qh hp; clear hp hk; (try clear c2 c4 c5 hlt); obtain ⟨c2, c4, c5, hlt⟩ := HP.out.cells))) | (go_at_call 76; go_must (first | (refine (K1.out _ HP.out).mono ?_; clear K1; rintro e w1 ⟨rfl, hp, hk⟩; replace HK := qh (HK.out.trans hk); replace HP := qh hp; clear hp hk; (try clear c2 c4 c5 hlt); obtain ⟨c2, c4, c5, hlt⟩ := HP.out.cells; have hf := fldT T w1))) | (go_at_call 79; go_must (first | (refine (K2.out _ HP.out).mono ?_; clear K2; rintro e w2 ⟨rfl, hp, hk⟩; replace HK := qh (HK.out.trans hk); replace HP := qh hp; clear hp hk; (try clear c2 c4 c5 hlt); obtain ⟨c2, c4, c5, hlt⟩ := HP.out.cells))))
 go_ret
 exact ⟨rfl, HP.out, HK.out⟩
theorem w116_expr {X : Cx} {F : Nat → Prop} {s s1 : PS} {t : ByteArray} {y : Int}
  (k0 : Step X F 102 #[X.p, .string t, .int .i64 (0 : Nat)] s (.bool false) s)
  (k1 : Step X F 55 #[X.p] s (.int .i64 y) s1) :
  Step X F 116 #[X.p, .string t] s (.int .i64 y) s1 := by
 intro w h
 have HP := qh h
 have K0 := qh k0
 have K1 := qh k1
 have HK := qh (KeepE.refl X.B (fun _ => False) w)
 obtain ⟨c2, c4, c5, hlt⟩ := h.cells
 clear h k0 k1
 go_enter Tryd.func116, Tryd.ntmps116
 go_wp2_with (first | (go_at_call 102; go_must (first | (refine (K0.out _ HP.out).mono ?_; clear K0; rintro e w0 ⟨rfl, hp, hk⟩; replace HK := qh (HK.out.trans hk); replace HP := qh hp; clear hp hk; (try clear c2 c4 c5 hlt); obtain ⟨c2, c4, c5, hlt⟩ := HP.out.cells))) | (go_at_call 55; go_must (first | (refine (K1.out _ HP.out).mono ?_; clear K1; rintro e w1 ⟨rfl, hp, hk⟩; replace HK := qh (HK.out.trans hk); replace HP := qh hp; clear hp hk; (try clear c2 c4 c5 hlt); obtain ⟨c2, c4, c5, hlt⟩ := HP.out.cells))))
 go_ret
 exact ⟨rfl, HP.out, HK.out⟩
theorem bound_any {X : Cx} {ex : Ex} (hex : Part X 55 ex) {F : Nat → Prop} {fin : ByteArray} (hf : fin.size ≤ maxLen) {s : PS} {r : PS × Int} (h : boundE ex X.L fin s = some r) (hc : r.1.ns.length ≤ 1099511627776) : Step X F 116 #[X.p, .string fin] s (.int .i64 r.2) r.1 := by
 have k := is_step (X := X) (F := F) (s := s) fin hf 0 (by omega)
 unfold boundE at h
 split at h
 ·rename_i hy
  rw [hy] at k
  obtain rfl := Option.some.inj h
  exact w116_none k (tok_step 0 (by omega)) (add_step hc)
 ·rename_i hy
  rw [Bool.eq_false_iff.2 hy] at k
  exact w116_expr k (hex F s r h hc)
end
section
open Go.RowKit
set_option linter.unusedVariables false
set_option linter.unusedSimpArgs false
def atW (pb : Nat) (w : World) : Nat := match w.cell? ⟨pb, 2, none⟩ with
 | some (.int _ a) => a.toNat
 | _ => 0
theorem PAt.atW {X : Cx} {F : Nat → Prop} {w : World} {s : PS} (h : PAt X F w s) : atW X.pb w = s.at_ := by
 unfold YtjdcicopjipmnaaDoor.atW
 rw [h.cells.1]
 simp
theorem any_ret' {X : Cx} {F : Nat → Prop} {w : World} {s s1 : PS} {q r : Nat} {B : Option Addr} {l : List ByteArray} {t : ByteArray} {b : Bool} (he : anyP X.L l s = (s1, t, b)) (h : PAt X F w s) (hB : Rd w B q r 1 (l.map Value.string)) (hl : l.length = q) (ht : ∀ t ∈ l, t.size ≤ maxLen) :
  Calls Tryd.prog 94 #[X.p, .slice B q r] w fun e w' => e = .returned (.tuple #[.string t, .bool b]) ∧ PAt X F w' s1 ∧ Keeps X.B w w' := by
 have := any_ret h hB hl ht
 rw [he] at this
 exact this
theorem any_adv {L : List TokD} {s : PS} {l : List ByteArray} (h : (anyP L l s).2.2 = true) : (anyP L l s).1.at_ = s.at_ + 1 := by
 rcases any_cases (L := L) (s := s) l with ⟨h1, _⟩ | ⟨t, _, _, h1⟩
 ·rw [h1] at h; cases h
 ·rw [h1]; rfl
theorem pair_rng {s : PS} {x y : Int} (h1 : In s x) (h2 : In s y) (hs : s.ns.length ≤ 1099511627776) : ∀ q ∈ [x, y], -1 ≤ q ∧ q ≤ 4611686018427387904 := by
 intro q hq
 simp only [List.mem_cons, List.not_mem_nil, or_false] at hq
 rcases hq with rfl | rfl
 ·exact h1.rng hs
 ·exact h2.rng hs
theorem left_any {X : Cx} {F : Nat → Prop} {part : Ex} {pf : FuncId} (hcf : ∀ w, Sem.run Tryd.prog (callFunc pf #[X.p]) w = .ok (.enter pf #[X.p]) w) (hpart : Part X pf part) (hg : GdE X.L.length part) {op : Int} {signs : List ByteArray} {m : Nat} {w : World} {s : PS} {r : PS × Int} {B : Option Addr} {q c : Nat}
  (hB : Own w 9 1 (.slice B q c) q (signs.map Value.string)) (hl : signs.length = q) (ht : ∀ t ∈ signs, t.size ≤ maxLen) (h : PAt X F w s) (hr : partsE X.L part op signs m s = some r) (hc : r.1.ns.length ≤ 1099511627776) :
  Calls Tryd.prog 98 #[X.p, .func (.func pf) #[X.p] #[], .int .i64 op, .slice B q c] w (Ret X F w r) := by
 unfold partsE at hr
 split at hr
 ·cases hr
 rename_i s1 x hx
 have g1 := hg _ _ hx
 have g2 := leftE_gd hg op signs m _ _ _ g1.2 hr
 have K1 := qh (hpart F s _ hx (Nat.le_trans g2.1.lenle hc))
 have HR := qh hr
 have HI := qh g1.2
 have HP := qh h
 have HB := qh hB
 have HT := qh ht
 have HPA := qh hpart
 have HG := qh hg
 have HC := qh hc
 clear h hB ht hpart hg hc hr g1 g2 hx
 have HCF := qh hcf
 have hcw := hcf w
 clear hcf
 go_enter Tryd.func98, Tryd.ntmps98
 go_wp2_with (with_reducible refine (K1.out _ HP.out).mono ?_; (rintro e w1 ⟨rfl, hp, hk⟩); have HP1 := qh hp; have HK1 := qh hk; clear hp hk)
 go_loopw [9] (fun v wr => ∃ (m : Nat) (s1 : PS) (x : Int), v = .int .i64 x ∧ leftE X.L part op signs m s1 x = some r ∧ PAt X F wr s1 ∧ Keeps X.B w wr ∧ In s1 x) (fun _ wr => X.n + 1 - atW X.pb wr)
 case atStart => exact ⟨m, _, _, rfl, HR.out, HP1.out, HK1.out, HI.out⟩
 case round =>
  obtain ⟨m', s2, x2, rfl, hl2, hp2, hk2, hi2⟩ := hrel
  have HP2 := qh hp2
  have HK2 := qh hk2
  have HI2 := qh hi2
  have HB2 := qh (hk2.own HB.out (fun _ _ => id) (by decide))
  have hat := hp2.atW
  clear hp2 hk2 hi2 hcw
  cases m' with
  | zero => cases hl2
  | succ m' =>
   unfold leftE at hl2
   simp only at hl2
   obtain ⟨⟨s3, t, b⟩, hA⟩ : ∃ a, anyP X.L signs s2 = a := ⟨_, rfl⟩
   rw [hA] at hl2
   obtain ⟨A2, c2', hBe, hBr, _⟩ := Own.rd HB2.out
   injection hBe with e1 e2 e3
   subst e1 e3
   have KA := qh (any_ret' hA HP2.out hBr hl HT.out)
   clear hBr
   cases b with
   | false =>
    simp only [if_true] at hl2
    obtain rfl := Option.some.inj hl2
    go_wp2_with (go_at_call 94; refine KA.out.mono ?_; rintro e w3 ⟨rfl, hp, hk⟩; have HP3 := qh hp; have HK3 := qh (HK2.out.trans hk); clear hp hk)
    go_ret
    have e3 : s3 = s2 := by
     rcases any_cases (L := X.L) (s := s2) signs with ⟨h, _⟩ | ⟨_, _, _, h⟩
     ·rw [h] at hA; injection hA with hA; exact hA.symm
     ·rw [h] at hA; injection hA with _ hA; injection hA with _ hA; cases hA
    exact ⟨rfl, e3 ▸ HP3.out, HK3.out⟩
   | true =>
    simp only [Bool.true_eq_false, if_false] at hl2
    split at hl2
    ·cases hl2
    rename_i s4 y he
    have ga := any_any_gr (L := X.L) (s := s2) signs
    have gs := any_yes (L := X.L) (s := s2) (l := signs) (by rw [hA])
    rw [hA] at ga gs
    have gp := HG.out _ _ he
    have gl := leftE_gd HG.out op signs m' _ _ _ (add_in ..) hl2
    have gd := add_gr (L := X.L) (s := s4) op (placeOf s4 x2) (if op = 12 then t else ⟨#[]⟩) 0 [x2, y]
    have hcp := HC.out
    have l1 := gl.1.lenle
    have l2 := gd.lenle
    have KB := qh (HPA.out F s3 _ he (by simp only; omega))
    have HQ := qh (pair_rng ((HI2.out.mono ga).mono gp.1) gp.2 (by simp only; omega))
    have HL2 := qh hl2
    have hadv := any_adv (L := X.L) (s := s2) (l := signs) (by rw [hA])
    rw [hA] at hadv
    have HGS := qh (show s2.at_ + 1 ≤ s4.at_ from hadv ▸ gp.1.up)
    have HAI := qh (add_in (s := s4) op (placeOf s4 x2) (if op = 12 then t else ⟨#[]⟩) 0 [x2, y])
    have HCA : Hid ((addP s4 op (placeOf s4 x2) (if op = 12 then t else ⟨#[]⟩) 0 [x2, y]).1.ns.length ≤ 1099511627776) := qh (by omega)
    have HUP := qh gd.up
    have h0 := HP2.out.atW
    clear hl2 he ga gs gp gl gd hcp l1 l2 hA hadv
    by_cases hop : op = 12
    ·subst hop
     simp only [if_true] at HCA HAI HL2 HUP
     go_wp2_with (first | (go_at_call 94; refine KA.out.mono ?_; rintro e w3 ⟨rfl, hp, hk⟩; have hcw := HCF.out w3; have HP3 := qh hp; have HK3 := qh (HK2.out.trans hk); clear hp hk) | (go_at_call 79; refine (add_any (s := s4) (HP4.out.bel_ (Below.alloc (Below.refl _ _) (Nat.le_refl _) _)) (Rd.ints _ [x2, y] _ 2 rfl rfl (by omega)) rfl (by omega) HQ.out 12 _ 0 t HCA.out).mono ?_; rintro e w5 ⟨rfl, hp, hk⟩; have HP5 := qh hp; have HK5 := qh (HK4.out.trans ((KeepE.of_below X.B (fun _ => False) (Below.alloc (Below.refl _ _) (Nat.le_refl _) _)).trans hk)); clear hp hk) | (with_reducible refine (KB.out _ HP3.out).mono ?_; (rintro e w4 ⟨rfl, hp, hk⟩); obtain ⟨hlk, hfd⟩ := hp.look (HQ.out x2 (by simp)); obtain ⟨c2, c4, c5, hlt⟩ := hp.cells; have HP4 := qh hp; have HK4 := qh (HK3.out.trans hk); clear hp hk))
     go_round
     case rel => exact ⟨m', _, _, rfl, HL2.out, HP5.out, HK5.out, HAI.out⟩
     case measure =>
      have h1 := HP5.out.atW
      have h2 := HGS.out
      have h4 := HUP.out
      have h5 := HP5.out.at_
      omega
    ·have hop' : (op == 12) = false := by simpa using hop
     rw [if_neg hop] at HCA HAI HL2 HUP
     go_wp2_with (first | (go_at_call 94; refine KA.out.mono ?_; rintro e w3 ⟨rfl, hp, hk⟩; have hcw := HCF.out w3; have HP3 := qh hp; have HK3 := qh (HK2.out.trans hk); clear hp hk) | (go_at_call 79; refine (add_any (s := s4) (HP4.out.bel_ (Below.alloc (Below.refl _ _) (Nat.le_refl _) _)) (Rd.ints _ [x2, y] _ 2 rfl rfl (by omega)) rfl (by omega) HQ.out op _ 0 ⟨#[]⟩ HCA.out).mono ?_; rintro e w5 ⟨rfl, hp, hk⟩; have HP5 := qh hp; have HK5 := qh (HK4.out.trans ((KeepE.of_below X.B (fun _ => False) (Below.alloc (Below.refl _ _) (Nat.le_refl _) _)).trans hk)); clear hp hk) | (with_reducible refine (KB.out _ HP3.out).mono ?_; (rintro e w4 ⟨rfl, hp, hk⟩); obtain ⟨hlk, hfd⟩ := hp.look (HQ.out x2 (by simp)); obtain ⟨c2, c4, c5, hlt⟩ := hp.cells; have HP4 := qh hp; have HK4 := qh (HK3.out.trans hk); clear hp hk))
     go_round
     case rel => exact ⟨m', _, _, rfl, HL2.out, HP5.out, HK5.out, HAI.out⟩
     case measure =>
      have h1 := HP5.out.atW
      have h2 := HGS.out
      have h4 := HUP.out
      have h5 := HP5.out.at_
      omega
end
section
open Go.RowKit
set_option linter.unusedVariables false
set_option linter.unusedSimpArgs false
theorem sstr_own (w : World) (l : List ByteArray) (n : Nat) (hn : l.length = n) (cs : Array Value) (hc : cs = (l.map Value.string).toArray) (hm : n ≤ 9223372036854775807) : Own (w.alloc (.cells cs 9)) 9 1 (.slice (some ⟨w.heap.size, 0, none⟩) n n) n (l.map Value.string) := by
 have h := Own.made (t := 9) (sz := 1) w cs n hm (by rw [hc]; simp [hn])
 rw [hc] at h ⊢
 exact h
theorem or_part {X : Cx} {part : Ex} {m : Nat} (hp : Part X 99 part) (hg : GdE X.L.length part) : Part X 80 (partsE X.L part 15 [kOr] m) := by
 intro F s r hr hc w h
 have hb : Below w.heap.size w (w.alloc (.cells #[.string kOr] 9)) := bl1
 have K : Hid (Calls Tryd.prog 98 #[X.p, .func (.func 99) #[X.p] #[], .int .i64 15, .slice (some ⟨w.heap.size, 0, none⟩) 1 1] (w.alloc (.cells #[.string kOr] 9)) (Ret X F (w.alloc (.cells #[.string kOr] 9)) r)) :=
  qh (left_any (fun w => by kernel_rfl) hp hg (sstr_own w [kOr] 1 rfl _ rfl (by omega)) rfl (by intro t ht; simp only [List.mem_cons, List.not_mem_nil, or_false] at ht; rcases ht with rfl <;> exact sml (by decide)) (h.bel_ hb) hr hc)
 have HB := qh (KeepE.of_below X.B (fun _ => False) hb)
 have hlt := h.lt.1
 clear h hb
 go_enter Tryd.func80, Tryd.ntmps80
 go_wp2_with (go_at_call 98; refine K.out.mono ?_; rintro e w1 ⟨rfl, hp, hk⟩; have HP := qh hp; have HK := qh (HB.out.trans hk); clear hp hk)
 go_ret
 exact ⟨rfl, HP.out, HK.out⟩
theorem and_part {X : Cx} {part : Ex} {m : Nat} (hp : Part X 103 part) (hg : GdE X.L.length part) : Part X 99 (partsE X.L part 14 [kAnd] m) := by
 intro F s r hr hc w h
 have hb : Below w.heap.size w (w.alloc (.cells #[.string kAnd] 9)) := bl1
 have K : Hid (Calls Tryd.prog 98 #[X.p, .func (.func 103) #[X.p] #[], .int .i64 14, .slice (some ⟨w.heap.size, 0, none⟩) 1 1] (w.alloc (.cells #[.string kAnd] 9)) (Ret X F (w.alloc (.cells #[.string kAnd] 9)) r)) :=
  qh (left_any (fun w => by kernel_rfl) hp hg (sstr_own w [kAnd] 1 rfl _ rfl (by omega)) rfl (by intro t ht; simp only [List.mem_cons, List.not_mem_nil, or_false] at ht; rcases ht with rfl <;> exact sml (by decide)) (h.bel_ hb) hr hc)
 have HB := qh (KeepE.of_below X.B (fun _ => False) hb)
 have hlt := h.lt.1
 clear h hb
 go_enter Tryd.func99, Tryd.ntmps99
 go_wp2_with (go_at_call 98; refine K.out.mono ?_; rintro e w1 ⟨rfl, hp, hk⟩; have HP := qh hp; have HK := qh (HB.out.trans hk); clear hp hk)
 go_ret
 exact ⟨rfl, HP.out, HK.out⟩
theorem sum_part {X : Cx} {part : Ex} {m : Nat} (hp : Part X 108 part) (hg : GdE X.L.length part) : Part X 106 (partsE X.L part 12 [gPlus, gMinus] m) := by
 intro F s r hr hc w h
 have hb : Below w.heap.size w (w.alloc (.cells #[.string gPlus, .string gMinus] 9)) := bl1
 have K : Hid (Calls Tryd.prog 98 #[X.p, .func (.func 108) #[X.p] #[], .int .i64 12, .slice (some ⟨w.heap.size, 0, none⟩) 2 2] (w.alloc (.cells #[.string gPlus, .string gMinus] 9)) (Ret X F (w.alloc (.cells #[.string gPlus, .string gMinus] 9)) r)) :=
  qh (left_any (fun w => by kernel_rfl) hp hg (sstr_own w [gPlus, gMinus] 2 rfl _ rfl (by omega)) rfl (by intro t ht; simp only [List.mem_cons, List.not_mem_nil, or_false] at ht; rcases ht with rfl | rfl <;> exact sml (by decide)) (h.bel_ hb) hr hc)
 have HB := qh (KeepE.of_below X.B (fun _ => False) hb)
 have hlt := h.lt.1
 clear h hb
 go_enter Tryd.func106, Tryd.ntmps106
 go_wp2_with (go_at_call 98; refine K.out.mono ?_; rintro e w1 ⟨rfl, hp, hk⟩; have HP := qh hp; have HK := qh (HB.out.trans hk); clear hp hk)
 go_ret
 exact ⟨rfl, HP.out, HK.out⟩
theorem term_part {X : Cx} {part : Ex} {m : Nat} (hp : Part X 109 part) (hg : GdE X.L.length part) : Part X 108 (partsE X.L part 12 [gStar, gDiv, gMod] m) := by
 intro F s r hr hc w h
 have hb : Below w.heap.size w (w.alloc (.cells #[.string gStar, .string gDiv, .string gMod] 9)) := bl1
 have K : Hid (Calls Tryd.prog 98 #[X.p, .func (.func 109) #[X.p] #[], .int .i64 12, .slice (some ⟨w.heap.size, 0, none⟩) 3 3] (w.alloc (.cells #[.string gStar, .string gDiv, .string gMod] 9)) (Ret X F (w.alloc (.cells #[.string gStar, .string gDiv, .string gMod] 9)) r)) :=
  qh (left_any (fun w => by kernel_rfl) hp hg (sstr_own w [gStar, gDiv, gMod] 3 rfl _ rfl (by omega)) rfl (by intro t ht; simp only [List.mem_cons, List.not_mem_nil, or_false] at ht; rcases ht with rfl | rfl | rfl <;> exact sml (by decide)) (h.bel_ hb) hr hc)
 have HB := qh (KeepE.of_below X.B (fun _ => False) hb)
 have hlt := h.lt.1
 clear h hb
 go_enter Tryd.func108, Tryd.ntmps108
 go_wp2_with (go_at_call 98; refine K.out.mono ?_; rintro e w1 ⟨rfl, hp, hk⟩; have HP := qh hp; have HK := qh (HB.out.trans hk); clear hp hk)
 go_ret
 exact ⟨rfl, HP.out, HK.out⟩
end
section
open Go.RowKit
set_option linter.unusedVariables false
set_option linter.unusedSimpArgs false
theorem w109_minus {X : Cx} {F : Nat → Prop} {s s1 s2 : PS} {T : TokD} {x : Int}
  (k0 : Step X F 76 #[X.p, .int .i64 (0 : Nat)] s (tokV T) s)
  (k1 : Step X F 77 #[X.p, .string gMinus] s (.bool true) s1)
  (k2 : Step X F 109 #[X.p] s1 (.int .i64 x) s2)
  (hi0 : ∀ q ∈ [x], -1 ≤ q ∧ q ≤ 4611686018427387904) (hc0 : (addP s2 10 (T.at_) ⟨#[]⟩ 0 [x]).1.ns.length ≤ 1099511627776) :
  Step X F 109 #[X.p] s (.int .i64 (addP s2 10 (T.at_) ⟨#[]⟩ 0 [x]).2) (addP s2 10 (T.at_) ⟨#[]⟩ 0 [x]).1 := by
 intro w h
 have HP := qh h
 have K0 := qh k0
 have K1 := qh k1
 have K2 := qh k2
 have HK := qh (KeepE.refl X.B (fun _ => False) w)
 obtain ⟨c2, c4, c5, hlt⟩ := h.cells
 clear h k0 k1 k2
 have HI0 := qh hi0
 have HC0 := qh hc0
 clear hi0 hc0
 go_enter Tryd.func109, Tryd.ntmps109
 go_wp2_with (first | (go_at_call 76; go_must (first | (refine (K0.out _ HP.out).mono ?_; clear K0; rintro e w0 ⟨rfl, hp, hk⟩; replace HK := qh (HK.out.trans hk); replace HP := qh hp; clear hp hk; (try clear c2 c4 c5 hlt); obtain ⟨c2, c4, c5, hlt⟩ := HP.out.cells; have hf := fldT T w0))) | (go_at_call 77; go_must (first | (refine (K1.out _ HP.out).mono ?_; clear K1; rintro e w1 ⟨rfl, hp, hk⟩; replace HK := qh (HK.out.trans hk); replace HP := qh hp; clear hp hk; (try clear c2 c4 c5 hlt); obtain ⟨c2, c4, c5, hlt⟩ := HP.out.cells))) | (go_at_call 109; go_must (first | (refine (K2.out _ HP.out).mono ?_; clear K2; rintro e w2 ⟨rfl, hp, hk⟩; replace HK := qh (HK.out.trans hk); replace HP := qh hp; clear hp hk; (try clear c2 c4 c5 hlt); obtain ⟨c2, c4, c5, hlt⟩ := HP.out.cells))) | (go_at_call 79; go_must (refine (add_any (s := s2) (HP.out.bel_ (Below.alloc (Below.refl _ _) (Nat.le_refl _) _)) (Rd.ints _ [x] _ 1 rfl rfl (by omega)) rfl (by omega) HI0.out 10 (T.at_) 0 ⟨#[]⟩ HC0.out).mono ?_); rintro e w1 ⟨rfl, hp, hk⟩; replace hk := (KeepE.of_below X.B (fun _ => False) (Below.alloc (Below.refl _ _) (Nat.le_refl _) _)).trans hk; replace HK := qh (HK.out.trans hk); replace HP := qh hp; clear hp hk; (try clear c2 c4 c5 hlt); obtain ⟨c2, c4, c5, hlt⟩ := HP.out.cells))
 go_ret
 exact ⟨rfl, HP.out, HK.out⟩
theorem w109_one {X : Cx} {F : Nat → Prop} {s s1 s2 s3 : PS} {T : TokD} {x : Int}
  (k0 : Step X F 76 #[X.p, .int .i64 (0 : Nat)] s (tokV T) s)
  (k1 : Step X F 77 #[X.p, .string gMinus] s (.bool false) s1)
  (k2 : Step X F 110 #[X.p] s1 (.int .i64 x) s2)
  (k3 : Step X F 77 #[X.p, .string gPow] s2 (.bool false) s3) :
  Step X F 109 #[X.p] s (.int .i64 x) s3 := by
 intro w h
 have HP := qh h
 have K0 := qh k0
 have K1 := qh k1
 have K2 := qh k2
 have K3 := qh k3
 have HK := qh (KeepE.refl X.B (fun _ => False) w)
 obtain ⟨c2, c4, c5, hlt⟩ := h.cells
 clear h k0 k1 k2 k3
 go_enter Tryd.func109, Tryd.ntmps109
 go_wp2_with (first | (go_at_call 76; go_must (first | (refine (K0.out _ HP.out).mono ?_; clear K0; rintro e w0 ⟨rfl, hp, hk⟩; replace HK := qh (HK.out.trans hk); replace HP := qh hp; clear hp hk; (try clear c2 c4 c5 hlt); obtain ⟨c2, c4, c5, hlt⟩ := HP.out.cells; have hf := fldT T w0))) | (go_at_call 77; go_must (first | (refine (K1.out _ HP.out).mono ?_; clear K1; rintro e w1 ⟨rfl, hp, hk⟩; replace HK := qh (HK.out.trans hk); replace HP := qh hp; clear hp hk; (try clear c2 c4 c5 hlt); obtain ⟨c2, c4, c5, hlt⟩ := HP.out.cells) | (refine (K3.out _ HP.out).mono ?_; clear K3; rintro e w3 ⟨rfl, hp, hk⟩; replace HK := qh (HK.out.trans hk); replace HP := qh hp; clear hp hk; (try clear c2 c4 c5 hlt); obtain ⟨c2, c4, c5, hlt⟩ := HP.out.cells))) | (go_at_call 110; go_must (first | (refine (K2.out _ HP.out).mono ?_; clear K2; rintro e w2 ⟨rfl, hp, hk⟩; replace HK := qh (HK.out.trans hk); replace HP := qh hp; clear hp hk; (try clear c2 c4 c5 hlt); obtain ⟨c2, c4, c5, hlt⟩ := HP.out.cells))))
 go_ret
 exact ⟨rfl, HP.out, HK.out⟩
theorem w109_pow {X : Cx} {F : Nat → Prop} {s s1 s2 s3 s4 : PS} {T : TokD} {x y : Int}
  (k0 : Step X F 76 #[X.p, .int .i64 (0 : Nat)] s (tokV T) s)
  (k1 : Step X F 77 #[X.p, .string gMinus] s (.bool false) s1)
  (k2 : Step X F 110 #[X.p] s1 (.int .i64 x) s2)
  (k3 : Step X F 77 #[X.p, .string gPow] s2 (.bool true) s3)
  (k4 : Step X F 109 #[X.p] s3 (.int .i64 y) s4)
  (hi0 : ∀ q ∈ [x, y], -1 ≤ q ∧ q ≤ 4611686018427387904) (hc0 : (addP s4 12 (placeOf s4 x) gPow 0 [x, y]).1.ns.length ≤ 1099511627776) :
  Step X F 109 #[X.p] s (.int .i64 (addP s4 12 (placeOf s4 x) gPow 0 [x, y]).2) (addP s4 12 (placeOf s4 x) gPow 0 [x, y]).1 := by
 intro w h
 have HP := qh h
 have K0 := qh k0
 have K1 := qh k1
 have K2 := qh k2
 have K3 := qh k3
 have K4 := qh k4
 have HK := qh (KeepE.refl X.B (fun _ => False) w)
 obtain ⟨c2, c4, c5, hlt⟩ := h.cells
 clear h k0 k1 k2 k3 k4
 have HI0 := qh hi0
 have HC0 := qh hc0
 clear hi0 hc0
 go_enter Tryd.func109, Tryd.ntmps109
 go_wp2_with (first | (go_at_call 76; go_must (first | (refine (K0.out _ HP.out).mono ?_; clear K0; rintro e w0 ⟨rfl, hp, hk⟩; replace HK := qh (HK.out.trans hk); replace HP := qh hp; clear hp hk; (try clear c2 c4 c5 hlt); obtain ⟨c2, c4, c5, hlt⟩ := HP.out.cells; have hf := fldT T w0))) | (go_at_call 77; go_must (first | (refine (K1.out _ HP.out).mono ?_; clear K1; rintro e w1 ⟨rfl, hp, hk⟩; replace HK := qh (HK.out.trans hk); replace HP := qh hp; clear hp hk; (try clear c2 c4 c5 hlt); obtain ⟨c2, c4, c5, hlt⟩ := HP.out.cells) | (refine (K3.out _ HP.out).mono ?_; clear K3; rintro e w3 ⟨rfl, hp, hk⟩; replace HK := qh (HK.out.trans hk); replace HP := qh hp; clear hp hk; (try clear c2 c4 c5 hlt); obtain ⟨c2, c4, c5, hlt⟩ := HP.out.cells))) | (go_at_call 110; go_must (first | (refine (K2.out _ HP.out).mono ?_; clear K2; rintro e w2 ⟨rfl, hp, hk⟩; replace HK := qh (HK.out.trans hk); replace HP := qh hp; clear hp hk; (try clear c2 c4 c5 hlt); obtain ⟨c2, c4, c5, hlt⟩ := HP.out.cells))) | (go_at_call 109; go_must (first | (refine (K4.out _ HP.out).mono ?_; clear K4; rintro e w4 ⟨rfl, hp, hk⟩; replace HK := qh (HK.out.trans hk); replace HP := qh hp; clear hp hk; (try clear c2 c4 c5 hlt); obtain ⟨c2, c4, c5, hlt⟩ := HP.out.cells; obtain ⟨hlk, hfd⟩ := HP.out.look (HI0.out x (by simp))))) | (go_at_call 79; go_must (refine (add_any (s := s4) (HP.out.bel_ (Below.alloc (Below.refl _ _) (Nat.le_refl _) _)) (Rd.ints _ [x, y] _ 2 rfl rfl (by omega)) rfl (by omega) HI0.out 12 (placeOf s4 x) 0 gPow HC0.out).mono ?_); rintro e w1 ⟨rfl, hp, hk⟩; replace hk := (KeepE.of_below X.B (fun _ => False) (Below.alloc (Below.refl _ _) (Nat.le_refl _) _)).trans hk; replace HK := qh (HK.out.trans hk); replace HP := qh hp; clear hp hk; (try clear c2 c4 c5 hlt); obtain ⟨c2, c4, c5, hlt⟩ := HP.out.cells))
 go_ret
 exact ⟨rfl, HP.out, HK.out⟩
theorem one_rng {s : PS} {x : Int} (h1 : In s x) (hs : s.ns.length ≤ 1099511627776) : ∀ q ∈ [x], -1 ≤ q ∧ q ≤ 4611686018427387904 := by
 intro q hq
 rw [List.mem_singleton.1 hq]
 exact h1.rng hs
theorem factor_part {X : Cx} {ex : Ex} {m0 : Nat} (hp : Part X 110 (postfixE ex X.L m0)) (hg : GdE X.L.length ex) : ∀ m, Part X 109 (factorE ex X.L m0 m)
 | 0 => fun F s r hr hc => by cases hr
 | m + 1 => fun F s r hr hc => by
  have ih := factor_part hp hg m
  unfold factorE at hr
  simp only at hr
  have kt := take_step_ (X := X) (F := F) (s := s) gMinus (sml (by decide))
  split at hr
  ·rename_i hy
   rw [hy] at kt
   split at hr
   ·cases hr
   ·rename_i s1 x he
    obtain rfl := Option.some.inj hr
    have g1 := factorE_gd hg m0 m _ _ he
    have l1 := (add_gr (L := X.L) (s := s1) 10 (tokP X.L s 0).at_ ⟨#[]⟩ 0 [x]).lenle
    exact w109_minus (tok_step 0 (by omega)) kt (ih F _ _ he (by simp only; omega)) (one_rng g1.2 (by simp only; omega)) hc
  ·rename_i hy
   rw [Bool.eq_false_iff.2 hy] at kt
   split at hr
   ·cases hr
   ·rename_i s1 x he
    have g1 := postfixE_gd hg he
    have kp : Step X F 77 #[X.p, .string gPow] s1 (.bool (takeP X.L gPow s1).2) (takeP X.L gPow s1).1 := take_step_ (X := X) (F := F) (s := s1) gPow (sml (by decide))
    have l1 := (take_gr (L := X.L) (s := s1) gPow).lenle
    split at hr
    ·rename_i hy2
     rw [hy2] at kp
     split at hr
     ·cases hr
     ·rename_i s2 y hf
      obtain rfl := Option.some.inj hr
      have g2 := factorE_gd hg m0 m _ _ hf
      have l2 := g2.1.lenle
      have l3 := (add_gr (L := X.L) (s := s2) 12 (placeOf s2 x) gPow 0 [x, y]).lenle
      simp only at l2
      exact w109_pow (tok_step 0 (by omega)) kt (hp F _ _ he (by simp only; omega)) kp (ih F _ _ hf (by simp only; omega)) (pair_rng ((g1.2.mono (take_gr (L := X.L) gPow)).mono g2.1) g2.2 (by simp only; omega)) hc
    ·rename_i hy2
     rw [Bool.eq_false_iff.2 hy2] at kp
     obtain rfl := Option.some.inj hr
     exact w109_one (tok_step 0 (by omega)) kt (hp F _ (s1, x) he (by simp only at hc ⊢; omega)) kp
end
section
open Go.RowKit
set_option linter.unusedVariables false
set_option linter.unusedSimpArgs false
def cmpL : List ByteArray := [gEqq, gNe, gLt, gLe, gGt, gGe, kIn]
theorem compares_at {L : List TokD} {s : PS} : ∀ {k : Nat} {t : ByteArray}, cmpL[k]? = some t → isP L s t 0 = true → (∀ j x, j < k → cmpL[j]? = some x → isP L s x 0 = false) → compares L s = (t, 1)
 | 0, t, h, h1, h0 => by
  obtain rfl : gEqq = t := Option.some.inj h
  unfold compares
  rw [if_pos h1]
 | 1, t, h, h1, h0 => by
  obtain rfl : gNe = t := Option.some.inj h
  unfold compares
  rw [h0 0 gEqq (by omega) rfl, if_neg Bool.false_ne_true]
  rw [if_pos h1]
 | 2, t, h, h1, h0 => by
  obtain rfl : gLt = t := Option.some.inj h
  unfold compares
  rw [h0 0 gEqq (by omega) rfl, if_neg Bool.false_ne_true]
  rw [h0 1 gNe (by omega) rfl, if_neg Bool.false_ne_true]
  rw [if_pos h1]
 | 3, t, h, h1, h0 => by
  obtain rfl : gLe = t := Option.some.inj h
  unfold compares
  rw [h0 0 gEqq (by omega) rfl, if_neg Bool.false_ne_true]
  rw [h0 1 gNe (by omega) rfl, if_neg Bool.false_ne_true]
  rw [h0 2 gLt (by omega) rfl, if_neg Bool.false_ne_true]
  rw [if_pos h1]
 | 4, t, h, h1, h0 => by
  obtain rfl : gGt = t := Option.some.inj h
  unfold compares
  rw [h0 0 gEqq (by omega) rfl, if_neg Bool.false_ne_true]
  rw [h0 1 gNe (by omega) rfl, if_neg Bool.false_ne_true]
  rw [h0 2 gLt (by omega) rfl, if_neg Bool.false_ne_true]
  rw [h0 3 gLe (by omega) rfl, if_neg Bool.false_ne_true]
  rw [if_pos h1]
 | 5, t, h, h1, h0 => by
  obtain rfl : gGe = t := Option.some.inj h
  unfold compares
  rw [h0 0 gEqq (by omega) rfl, if_neg Bool.false_ne_true]
  rw [h0 1 gNe (by omega) rfl, if_neg Bool.false_ne_true]
  rw [h0 2 gLt (by omega) rfl, if_neg Bool.false_ne_true]
  rw [h0 3 gLe (by omega) rfl, if_neg Bool.false_ne_true]
  rw [h0 4 gGt (by omega) rfl, if_neg Bool.false_ne_true]
  rw [if_pos h1]
 | 6, t, h, h1, h0 => by
  obtain rfl : kIn = t := Option.some.inj h
  unfold compares
  rw [h0 0 gEqq (by omega) rfl, if_neg Bool.false_ne_true]
  rw [h0 1 gNe (by omega) rfl, if_neg Bool.false_ne_true]
  rw [h0 2 gLt (by omega) rfl, if_neg Bool.false_ne_true]
  rw [h0 3 gLe (by omega) rfl, if_neg Bool.false_ne_true]
  rw [h0 4 gGt (by omega) rfl, if_neg Bool.false_ne_true]
  rw [h0 5 gGe (by omega) rfl, if_neg Bool.false_ne_true]
  rw [if_pos h1]
 | k + 7, t, h, h1, h0 => by simp [cmpL] at h
theorem compares_no {L : List TokD} {s : PS} (h0 : ∀ j x, j < 7 → cmpL[j]? = some x → isP L s x 0 = false) : compares L s = if isP L s kNot 0 && isP L s kIn 1 then (tNotIn, 2) else if isP L s kIs 0 && isP L s kNot 1 then (tIsNot, 2) else if isP L s kIs 0 then (kIs, 1) else (⟨#[]⟩, 0) := by
 unfold compares
 rw [h0 0 gEqq (by omega) rfl, if_neg Bool.false_ne_true]
 rw [h0 1 gNe (by omega) rfl, if_neg Bool.false_ne_true]
 rw [h0 2 gLt (by omega) rfl, if_neg Bool.false_ne_true]
 rw [h0 3 gLe (by omega) rfl, if_neg Bool.false_ne_true]
 rw [h0 4 gGt (by omega) rfl, if_neg Bool.false_ne_true]
 rw [h0 5 gGe (by omega) rfl, if_neg Bool.false_ne_true]
 rw [h0 6 kIn (by omega) rfl, if_neg Bool.false_ne_true]
theorem compares_any {X : Cx} {F : Nat → Prop} {s : PS} : Step X F 107 #[X.p] s (.tuple #[.string (compares X.L s).1, .int .i64 (compares X.L s).2]) s := by
 intro w h
 have HP0 := qh h
 have KI : Hid (∀ (t : ByteArray) (k : Nat), t.size ≤ 100 → k ≤ 9 → Step X F 102 #[X.p, .string t, .int .i64 k] s (.bool (isP X.L s t k)) s) := qh fun t k ht hk => is_step t (sml ht) k hk
 clear h
 go_enter Tryd.func107, Tryd.ntmps107
 go_wp2_with fail
 go_loopw [7] (fun i wr => ∃ k : Nat, k ≤ 7 ∧ i = .int .i64 k ∧ PAt X F wr s ∧ Keeps X.B w wr ∧ Hid (∀ j x, j < k → cmpL[j]? = some x → isP X.L s x 0 = false)) (fun i _ => 7 - (intOf i).toNat)
 case atStart => exact ⟨0, by omega, rfl, HP0.out, KeepE.refl _ _ _, qh fun j x hj => by omega⟩
 case round =>
  obtain ⟨k, hk7, rfl, hp, hk, H0⟩ := hrel
  have HP := qh hp
  have HK := qh hk
  clear hp hk HP0
  match k, hk7, H0 with
  | 0, hk7, H0 =>
   have hix : (Instr.index 151 (.agg #[.string ⟨#[61, 61]⟩, .string ⟨#[33, 61]⟩, .string ⟨#[60]⟩, .string ⟨#[60, 61]⟩, .string ⟨#[62]⟩, .string ⟨#[62, 61]⟩, .string ⟨#[105, 110]⟩]) (.int .i64 0)).run Tryd.prog wr = .ok (.string ⟨#[61, 61]⟩) wr := by kernel_rfl
   have k0 := KI.out gEqq 0 (by decide) (by omega)
   cases hi : isP X.L s gEqq 0 with
   | true =>
    rw [hi] at k0
    have HI := qh hi
    have K0 := qh k0
    clear hi k0
    go_wp2_with (go_at_call 102; go_must (first | (refine (K0.out _ HP.out).mono ?_; clear K0; rintro e w0 ⟨rfl, hp, hk⟩; replace HP := qh hp; replace HK := qh (HK.out.trans hk); clear hp hk)))
    refine bodyPost_ret (v := .tuple #[.string gEqq, .int .i64 1]) (by first | (simp [results, Tryd.results107, go_sem]; done) | (simp [results, Tryd.results107, go_sem]; rfl)) rfl ?_
    rw [compares_at (k := 0) rfl HI.out H0.out]
    exact ⟨rfl, HP.out, HK.out⟩
   | false =>
    rw [hi] at k0
    have HI := qh hi
    have K0 := qh k0
    clear hi k0
    go_wp2_with (go_at_call 102; go_must (first | (refine (K0.out _ HP.out).mono ?_; clear K0; rintro e w0 ⟨rfl, hp, hk⟩; replace HP := qh hp; replace HK := qh (HK.out.trans hk); clear hp hk)))
    go_round
    case rel =>
     refine ⟨1, by omega, by go_num, HP.out, HK.out, qh fun j x hj hx => ?_⟩
     by_cases e : j = 0
     ·subst e
      obtain rfl := Option.some.inj hx
      exact HI.out
     ·exact H0.out j x (by omega) hx
    case measure => simp [intOf]
  | 1, hk7, H0 =>
   have hix : (Instr.index 151 (.agg #[.string ⟨#[61, 61]⟩, .string ⟨#[33, 61]⟩, .string ⟨#[60]⟩, .string ⟨#[60, 61]⟩, .string ⟨#[62]⟩, .string ⟨#[62, 61]⟩, .string ⟨#[105, 110]⟩]) (.int .i64 1)).run Tryd.prog wr = .ok (.string ⟨#[33, 61]⟩) wr := by kernel_rfl
   have k0 := KI.out gNe 0 (by decide) (by omega)
   cases hi : isP X.L s gNe 0 with
   | true =>
    rw [hi] at k0
    have HI := qh hi
    have K0 := qh k0
    clear hi k0
    go_wp2_with (go_at_call 102; go_must (first | (refine (K0.out _ HP.out).mono ?_; clear K0; rintro e w0 ⟨rfl, hp, hk⟩; replace HP := qh hp; replace HK := qh (HK.out.trans hk); clear hp hk)))
    refine bodyPost_ret (v := .tuple #[.string gNe, .int .i64 1]) (by first | (simp [results, Tryd.results107, go_sem]; done) | (simp [results, Tryd.results107, go_sem]; rfl)) rfl ?_
    rw [compares_at (k := 1) rfl HI.out H0.out]
    exact ⟨rfl, HP.out, HK.out⟩
   | false =>
    rw [hi] at k0
    have HI := qh hi
    have K0 := qh k0
    clear hi k0
    go_wp2_with (go_at_call 102; go_must (first | (refine (K0.out _ HP.out).mono ?_; clear K0; rintro e w0 ⟨rfl, hp, hk⟩; replace HP := qh hp; replace HK := qh (HK.out.trans hk); clear hp hk)))
    go_round
    case rel =>
     refine ⟨2, by omega, by go_num, HP.out, HK.out, qh fun j x hj hx => ?_⟩
     by_cases e : j = 1
     ·subst e
      obtain rfl := Option.some.inj hx
      exact HI.out
     ·exact H0.out j x (by omega) hx
    case measure => simp [intOf]
  | 2, hk7, H0 =>
   have hix : (Instr.index 151 (.agg #[.string ⟨#[61, 61]⟩, .string ⟨#[33, 61]⟩, .string ⟨#[60]⟩, .string ⟨#[60, 61]⟩, .string ⟨#[62]⟩, .string ⟨#[62, 61]⟩, .string ⟨#[105, 110]⟩]) (.int .i64 2)).run Tryd.prog wr = .ok (.string ⟨#[60]⟩) wr := by kernel_rfl
   have k0 := KI.out gLt 0 (by decide) (by omega)
   cases hi : isP X.L s gLt 0 with
   | true =>
    rw [hi] at k0
    have HI := qh hi
    have K0 := qh k0
    clear hi k0
    go_wp2_with (go_at_call 102; go_must (first | (refine (K0.out _ HP.out).mono ?_; clear K0; rintro e w0 ⟨rfl, hp, hk⟩; replace HP := qh hp; replace HK := qh (HK.out.trans hk); clear hp hk)))
    refine bodyPost_ret (v := .tuple #[.string gLt, .int .i64 1]) (by first | (simp [results, Tryd.results107, go_sem]; done) | (simp [results, Tryd.results107, go_sem]; rfl)) rfl ?_
    rw [compares_at (k := 2) rfl HI.out H0.out]
    exact ⟨rfl, HP.out, HK.out⟩
   | false =>
    rw [hi] at k0
    have HI := qh hi
    have K0 := qh k0
    clear hi k0
    go_wp2_with (go_at_call 102; go_must (first | (refine (K0.out _ HP.out).mono ?_; clear K0; rintro e w0 ⟨rfl, hp, hk⟩; replace HP := qh hp; replace HK := qh (HK.out.trans hk); clear hp hk)))
    go_round
    case rel =>
     refine ⟨3, by omega, by go_num, HP.out, HK.out, qh fun j x hj hx => ?_⟩
     by_cases e : j = 2
     ·subst e
      obtain rfl := Option.some.inj hx
      exact HI.out
     ·exact H0.out j x (by omega) hx
    case measure => simp [intOf]
  | 3, hk7, H0 =>
   have hix : (Instr.index 151 (.agg #[.string ⟨#[61, 61]⟩, .string ⟨#[33, 61]⟩, .string ⟨#[60]⟩, .string ⟨#[60, 61]⟩, .string ⟨#[62]⟩, .string ⟨#[62, 61]⟩, .string ⟨#[105, 110]⟩]) (.int .i64 3)).run Tryd.prog wr = .ok (.string ⟨#[60, 61]⟩) wr := by kernel_rfl
   have k0 := KI.out gLe 0 (by decide) (by omega)
   cases hi : isP X.L s gLe 0 with
   | true =>
    rw [hi] at k0
    have HI := qh hi
    have K0 := qh k0
    clear hi k0
    go_wp2_with (go_at_call 102; go_must (first | (refine (K0.out _ HP.out).mono ?_; clear K0; rintro e w0 ⟨rfl, hp, hk⟩; replace HP := qh hp; replace HK := qh (HK.out.trans hk); clear hp hk)))
    refine bodyPost_ret (v := .tuple #[.string gLe, .int .i64 1]) (by first | (simp [results, Tryd.results107, go_sem]; done) | (simp [results, Tryd.results107, go_sem]; rfl)) rfl ?_
    rw [compares_at (k := 3) rfl HI.out H0.out]
    exact ⟨rfl, HP.out, HK.out⟩
   | false =>
    rw [hi] at k0
    have HI := qh hi
    have K0 := qh k0
    clear hi k0
    go_wp2_with (go_at_call 102; go_must (first | (refine (K0.out _ HP.out).mono ?_; clear K0; rintro e w0 ⟨rfl, hp, hk⟩; replace HP := qh hp; replace HK := qh (HK.out.trans hk); clear hp hk)))
    go_round
    case rel =>
     refine ⟨4, by omega, by go_num, HP.out, HK.out, qh fun j x hj hx => ?_⟩
     by_cases e : j = 3
     ·subst e
      obtain rfl := Option.some.inj hx
      exact HI.out
     ·exact H0.out j x (by omega) hx
    case measure => simp [intOf]
  | 4, hk7, H0 =>
   have hix : (Instr.index 151 (.agg #[.string ⟨#[61, 61]⟩, .string ⟨#[33, 61]⟩, .string ⟨#[60]⟩, .string ⟨#[60, 61]⟩, .string ⟨#[62]⟩, .string ⟨#[62, 61]⟩, .string ⟨#[105, 110]⟩]) (.int .i64 4)).run Tryd.prog wr = .ok (.string ⟨#[62]⟩) wr := by kernel_rfl
   have k0 := KI.out gGt 0 (by decide) (by omega)
   cases hi : isP X.L s gGt 0 with
   | true =>
    rw [hi] at k0
    have HI := qh hi
    have K0 := qh k0
    clear hi k0
    go_wp2_with (go_at_call 102; go_must (first | (refine (K0.out _ HP.out).mono ?_; clear K0; rintro e w0 ⟨rfl, hp, hk⟩; replace HP := qh hp; replace HK := qh (HK.out.trans hk); clear hp hk)))
    refine bodyPost_ret (v := .tuple #[.string gGt, .int .i64 1]) (by first | (simp [results, Tryd.results107, go_sem]; done) | (simp [results, Tryd.results107, go_sem]; rfl)) rfl ?_
    rw [compares_at (k := 4) rfl HI.out H0.out]
    exact ⟨rfl, HP.out, HK.out⟩
   | false =>
    rw [hi] at k0
    have HI := qh hi
    have K0 := qh k0
    clear hi k0
    go_wp2_with (go_at_call 102; go_must (first | (refine (K0.out _ HP.out).mono ?_; clear K0; rintro e w0 ⟨rfl, hp, hk⟩; replace HP := qh hp; replace HK := qh (HK.out.trans hk); clear hp hk)))
    go_round
    case rel =>
     refine ⟨5, by omega, by go_num, HP.out, HK.out, qh fun j x hj hx => ?_⟩
     by_cases e : j = 4
     ·subst e
      obtain rfl := Option.some.inj hx
      exact HI.out
     ·exact H0.out j x (by omega) hx
    case measure => simp [intOf]
  | 5, hk7, H0 =>
   have hix : (Instr.index 151 (.agg #[.string ⟨#[61, 61]⟩, .string ⟨#[33, 61]⟩, .string ⟨#[60]⟩, .string ⟨#[60, 61]⟩, .string ⟨#[62]⟩, .string ⟨#[62, 61]⟩, .string ⟨#[105, 110]⟩]) (.int .i64 5)).run Tryd.prog wr = .ok (.string ⟨#[62, 61]⟩) wr := by kernel_rfl
   have k0 := KI.out gGe 0 (by decide) (by omega)
   cases hi : isP X.L s gGe 0 with
   | true =>
    rw [hi] at k0
    have HI := qh hi
    have K0 := qh k0
    clear hi k0
    go_wp2_with (go_at_call 102; go_must (first | (refine (K0.out _ HP.out).mono ?_; clear K0; rintro e w0 ⟨rfl, hp, hk⟩; replace HP := qh hp; replace HK := qh (HK.out.trans hk); clear hp hk)))
    refine bodyPost_ret (v := .tuple #[.string gGe, .int .i64 1]) (by first | (simp [results, Tryd.results107, go_sem]; done) | (simp [results, Tryd.results107, go_sem]; rfl)) rfl ?_
    rw [compares_at (k := 5) rfl HI.out H0.out]
    exact ⟨rfl, HP.out, HK.out⟩
   | false =>
    rw [hi] at k0
    have HI := qh hi
    have K0 := qh k0
    clear hi k0
    go_wp2_with (go_at_call 102; go_must (first | (refine (K0.out _ HP.out).mono ?_; clear K0; rintro e w0 ⟨rfl, hp, hk⟩; replace HP := qh hp; replace HK := qh (HK.out.trans hk); clear hp hk)))
    go_round
    case rel =>
     refine ⟨6, by omega, by go_num, HP.out, HK.out, qh fun j x hj hx => ?_⟩
     by_cases e : j = 5
     ·subst e
      obtain rfl := Option.some.inj hx
      exact HI.out
     ·exact H0.out j x (by omega) hx
    case measure => simp [intOf]
  | 6, hk7, H0 =>
   have hix : (Instr.index 151 (.agg #[.string ⟨#[61, 61]⟩, .string ⟨#[33, 61]⟩, .string ⟨#[60]⟩, .string ⟨#[60, 61]⟩, .string ⟨#[62]⟩, .string ⟨#[62, 61]⟩, .string ⟨#[105, 110]⟩]) (.int .i64 6)).run Tryd.prog wr = .ok (.string ⟨#[105, 110]⟩) wr := by kernel_rfl
   have k0 := KI.out kIn 0 (by decide) (by omega)
   cases hi : isP X.L s kIn 0 with
   | true =>
    rw [hi] at k0
    have HI := qh hi
    have K0 := qh k0
    clear hi k0
    go_wp2_with (go_at_call 102; go_must (first | (refine (K0.out _ HP.out).mono ?_; clear K0; rintro e w0 ⟨rfl, hp, hk⟩; replace HP := qh hp; replace HK := qh (HK.out.trans hk); clear hp hk)))
    refine bodyPost_ret (v := .tuple #[.string kIn, .int .i64 1]) (by first | (simp [results, Tryd.results107, go_sem]; done) | (simp [results, Tryd.results107, go_sem]; rfl)) rfl ?_
    rw [compares_at (k := 6) rfl HI.out H0.out]
    exact ⟨rfl, HP.out, HK.out⟩
   | false =>
    rw [hi] at k0
    have HI := qh hi
    have K0 := qh k0
    clear hi k0
    go_wp2_with (go_at_call 102; go_must (first | (refine (K0.out _ HP.out).mono ?_; clear K0; rintro e w0 ⟨rfl, hp, hk⟩; replace HP := qh hp; replace HK := qh (HK.out.trans hk); clear hp hk)))
    go_round
    case rel =>
     refine ⟨7, by omega, by go_num, HP.out, HK.out, qh fun j x hj hx => ?_⟩
     by_cases e : j = 6
     ·subst e
      obtain rfl := Option.some.inj hx
      exact HI.out
     ·exact H0.out j x (by omega) hx
    case measure => simp [intOf]
  | 7, hk7, H0 =>
   have HC := qh (compares_no H0.out)
   cases h0 : isP X.L s kNot 0 with
   | true =>
    cases h1 : isP X.L s kIn 1 with
    | true =>
     have k0 := KI.out kNot 0 (by decide) (by omega)
     rw [h0] at k0
     have K0 := qh k0
     clear k0
     have k1 := KI.out kIn 1 (by decide) (by omega)
     rw [h1] at k1
     have K1 := qh k1
     clear k1
     have HE : Hid (compares X.L s = (tNotIn, 2)) := qh (by rw [HC.out]; simp [h0, h1])
     clear h0 h1
     go_wp2_with (go_at_call 102; go_must (first | (refine (K0.out _ HP.out).mono ?_; clear K0; rintro e w0 ⟨rfl, hp, hk⟩; replace HP := qh hp; replace HK := qh (HK.out.trans hk); clear hp hk) | (refine (K1.out _ HP.out).mono ?_; clear K1; rintro e w1 ⟨rfl, hp, hk⟩; replace HP := qh hp; replace HK := qh (HK.out.trans hk); clear hp hk)))
     refine bodyPost_ret (v := .tuple #[.string tNotIn, .int .i64 2]) (by first | (simp [results, Tryd.results107, go_sem]; done) | (simp [results, Tryd.results107, go_sem]; rfl)) rfl ?_
     rw [HE.out]
     exact ⟨rfl, HP.out, HK.out⟩
    | false =>
     cases h2 : isP X.L s kIs 0 with
     | true =>
      cases h3 : isP X.L s kNot 1 with
      | true =>
       have k0 := KI.out kNot 0 (by decide) (by omega)
       rw [h0] at k0
       have K0 := qh k0
       clear k0
       have k1 := KI.out kIn 1 (by decide) (by omega)
       rw [h1] at k1
       have K1 := qh k1
       clear k1
       have k2 := KI.out kIs 0 (by decide) (by omega)
       rw [h2] at k2
       have K2 := qh k2
       clear k2
       have k3 := KI.out kNot 1 (by decide) (by omega)
       rw [h3] at k3
       have K3 := qh k3
       clear k3
       have HE : Hid (compares X.L s = (tIsNot, 2)) := qh (by rw [HC.out]; simp [h0, h1, h2, h3])
       clear h0 h1 h2 h3
       go_wp2_with (go_at_call 102; go_must (first | (refine (K0.out _ HP.out).mono ?_; clear K0; rintro e w0 ⟨rfl, hp, hk⟩; replace HP := qh hp; replace HK := qh (HK.out.trans hk); clear hp hk) | (refine (K1.out _ HP.out).mono ?_; clear K1; rintro e w1 ⟨rfl, hp, hk⟩; replace HP := qh hp; replace HK := qh (HK.out.trans hk); clear hp hk) | (refine (K2.out _ HP.out).mono ?_; clear K2; rintro e w2 ⟨rfl, hp, hk⟩; replace HP := qh hp; replace HK := qh (HK.out.trans hk); clear hp hk) | (refine (K3.out _ HP.out).mono ?_; clear K3; rintro e w3 ⟨rfl, hp, hk⟩; replace HP := qh hp; replace HK := qh (HK.out.trans hk); clear hp hk)))
       refine bodyPost_ret (v := .tuple #[.string tIsNot, .int .i64 2]) (by first | (simp [results, Tryd.results107, go_sem]; done) | (simp [results, Tryd.results107, go_sem]; rfl)) rfl ?_
       rw [HE.out]
       exact ⟨rfl, HP.out, HK.out⟩
      | false =>
       have k0 := KI.out kNot 0 (by decide) (by omega)
       rw [h0] at k0
       have K0 := qh k0
       clear k0
       have k1 := KI.out kIn 1 (by decide) (by omega)
       rw [h1] at k1
       have K1 := qh k1
       clear k1
       have k2 := KI.out kIs 0 (by decide) (by omega)
       rw [h2] at k2
       have K2 := qh k2
       clear k2
       have k3 := KI.out kNot 1 (by decide) (by omega)
       rw [h3] at k3
       have K3 := qh k3
       clear k3
       have k4 := KI.out kIs 0 (by decide) (by omega)
       rw [h2] at k4
       have K4 := qh k4
       clear k4
       have HE : Hid (compares X.L s = (kIs, 1)) := qh (by rw [HC.out]; simp [h0, h1, h2, h3])
       clear h0 h1 h2 h3
       go_wp2_with (go_at_call 102; go_must (first | (refine (K0.out _ HP.out).mono ?_; clear K0; rintro e w0 ⟨rfl, hp, hk⟩; replace HP := qh hp; replace HK := qh (HK.out.trans hk); clear hp hk) | (refine (K1.out _ HP.out).mono ?_; clear K1; rintro e w1 ⟨rfl, hp, hk⟩; replace HP := qh hp; replace HK := qh (HK.out.trans hk); clear hp hk) | (refine (K2.out _ HP.out).mono ?_; clear K2; rintro e w2 ⟨rfl, hp, hk⟩; replace HP := qh hp; replace HK := qh (HK.out.trans hk); clear hp hk) | (refine (K3.out _ HP.out).mono ?_; clear K3; rintro e w3 ⟨rfl, hp, hk⟩; replace HP := qh hp; replace HK := qh (HK.out.trans hk); clear hp hk) | (refine (K4.out _ HP.out).mono ?_; clear K4; rintro e w4 ⟨rfl, hp, hk⟩; replace HP := qh hp; replace HK := qh (HK.out.trans hk); clear hp hk)))
       refine bodyPost_ret (v := .tuple #[.string kIs, .int .i64 1]) (by first | (simp [results, Tryd.results107, go_sem]; done) | (simp [results, Tryd.results107, go_sem]; rfl)) rfl ?_
       rw [HE.out]
       exact ⟨rfl, HP.out, HK.out⟩
     | false =>
      have k0 := KI.out kNot 0 (by decide) (by omega)
      rw [h0] at k0
      have K0 := qh k0
      clear k0
      have k1 := KI.out kIn 1 (by decide) (by omega)
      rw [h1] at k1
      have K1 := qh k1
      clear k1
      have k2 := KI.out kIs 0 (by decide) (by omega)
      rw [h2] at k2
      have K2 := qh k2
      clear k2
      have k3 := KI.out kIs 0 (by decide) (by omega)
      rw [h2] at k3
      have K3 := qh k3
      clear k3
      have HE : Hid (compares X.L s = (⟨#[]⟩, 0)) := qh (by rw [HC.out]; simp [h0, h1, h2])
      clear h0 h1 h2
      go_wp2_with (go_at_call 102; go_must (first | (refine (K0.out _ HP.out).mono ?_; clear K0; rintro e w0 ⟨rfl, hp, hk⟩; replace HP := qh hp; replace HK := qh (HK.out.trans hk); clear hp hk) | (refine (K1.out _ HP.out).mono ?_; clear K1; rintro e w1 ⟨rfl, hp, hk⟩; replace HP := qh hp; replace HK := qh (HK.out.trans hk); clear hp hk) | (refine (K2.out _ HP.out).mono ?_; clear K2; rintro e w2 ⟨rfl, hp, hk⟩; replace HP := qh hp; replace HK := qh (HK.out.trans hk); clear hp hk) | (refine (K3.out _ HP.out).mono ?_; clear K3; rintro e w3 ⟨rfl, hp, hk⟩; replace HP := qh hp; replace HK := qh (HK.out.trans hk); clear hp hk)))
      refine bodyPost_ret (v := .tuple #[.string ⟨#[]⟩, .int .i64 0]) (by first | (simp [results, Tryd.results107, go_sem]; done) | (simp [results, Tryd.results107, go_sem]; rfl)) rfl ?_
      rw [HE.out]
      exact ⟨rfl, HP.out, HK.out⟩
   | false =>
    cases h2 : isP X.L s kIs 0 with
    | true =>
     cases h3 : isP X.L s kNot 1 with
     | true =>
      have k0 := KI.out kNot 0 (by decide) (by omega)
      rw [h0] at k0
      have K0 := qh k0
      clear k0
      have k1 := KI.out kIs 0 (by decide) (by omega)
      rw [h2] at k1
      have K1 := qh k1
      clear k1
      have k2 := KI.out kNot 1 (by decide) (by omega)
      rw [h3] at k2
      have K2 := qh k2
      clear k2
      have HE : Hid (compares X.L s = (tIsNot, 2)) := qh (by rw [HC.out]; simp [h0, h2, h3])
      clear h0 h2 h3
      go_wp2_with (go_at_call 102; go_must (first | (refine (K0.out _ HP.out).mono ?_; clear K0; rintro e w0 ⟨rfl, hp, hk⟩; replace HP := qh hp; replace HK := qh (HK.out.trans hk); clear hp hk) | (refine (K1.out _ HP.out).mono ?_; clear K1; rintro e w1 ⟨rfl, hp, hk⟩; replace HP := qh hp; replace HK := qh (HK.out.trans hk); clear hp hk) | (refine (K2.out _ HP.out).mono ?_; clear K2; rintro e w2 ⟨rfl, hp, hk⟩; replace HP := qh hp; replace HK := qh (HK.out.trans hk); clear hp hk)))
      refine bodyPost_ret (v := .tuple #[.string tIsNot, .int .i64 2]) (by first | (simp [results, Tryd.results107, go_sem]; done) | (simp [results, Tryd.results107, go_sem]; rfl)) rfl ?_
      rw [HE.out]
      exact ⟨rfl, HP.out, HK.out⟩
     | false =>
      have k0 := KI.out kNot 0 (by decide) (by omega)
      rw [h0] at k0
      have K0 := qh k0
      clear k0
      have k1 := KI.out kIs 0 (by decide) (by omega)
      rw [h2] at k1
      have K1 := qh k1
      clear k1
      have k2 := KI.out kNot 1 (by decide) (by omega)
      rw [h3] at k2
      have K2 := qh k2
      clear k2
      have k3 := KI.out kIs 0 (by decide) (by omega)
      rw [h2] at k3
      have K3 := qh k3
      clear k3
      have HE : Hid (compares X.L s = (kIs, 1)) := qh (by rw [HC.out]; simp [h0, h2, h3])
      clear h0 h2 h3
      go_wp2_with (go_at_call 102; go_must (first | (refine (K0.out _ HP.out).mono ?_; clear K0; rintro e w0 ⟨rfl, hp, hk⟩; replace HP := qh hp; replace HK := qh (HK.out.trans hk); clear hp hk) | (refine (K1.out _ HP.out).mono ?_; clear K1; rintro e w1 ⟨rfl, hp, hk⟩; replace HP := qh hp; replace HK := qh (HK.out.trans hk); clear hp hk) | (refine (K2.out _ HP.out).mono ?_; clear K2; rintro e w2 ⟨rfl, hp, hk⟩; replace HP := qh hp; replace HK := qh (HK.out.trans hk); clear hp hk) | (refine (K3.out _ HP.out).mono ?_; clear K3; rintro e w3 ⟨rfl, hp, hk⟩; replace HP := qh hp; replace HK := qh (HK.out.trans hk); clear hp hk)))
      refine bodyPost_ret (v := .tuple #[.string kIs, .int .i64 1]) (by first | (simp [results, Tryd.results107, go_sem]; done) | (simp [results, Tryd.results107, go_sem]; rfl)) rfl ?_
      rw [HE.out]
      exact ⟨rfl, HP.out, HK.out⟩
    | false =>
     have k0 := KI.out kNot 0 (by decide) (by omega)
     rw [h0] at k0
     have K0 := qh k0
     clear k0
     have k1 := KI.out kIs 0 (by decide) (by omega)
     rw [h2] at k1
     have K1 := qh k1
     clear k1
     have k2 := KI.out kIs 0 (by decide) (by omega)
     rw [h2] at k2
     have K2 := qh k2
     clear k2
     have HE : Hid (compares X.L s = (⟨#[]⟩, 0)) := qh (by rw [HC.out]; simp [h0, h2])
     clear h0 h2
     go_wp2_with (go_at_call 102; go_must (first | (refine (K0.out _ HP.out).mono ?_; clear K0; rintro e w0 ⟨rfl, hp, hk⟩; replace HP := qh hp; replace HK := qh (HK.out.trans hk); clear hp hk) | (refine (K1.out _ HP.out).mono ?_; clear K1; rintro e w1 ⟨rfl, hp, hk⟩; replace HP := qh hp; replace HK := qh (HK.out.trans hk); clear hp hk) | (refine (K2.out _ HP.out).mono ?_; clear K2; rintro e w2 ⟨rfl, hp, hk⟩; replace HP := qh hp; replace HK := qh (HK.out.trans hk); clear hp hk)))
     refine bodyPost_ret (v := .tuple #[.string ⟨#[]⟩, .int .i64 0]) (by first | (simp [results, Tryd.results107, go_sem]; done) | (simp [results, Tryd.results107, go_sem]; rfl)) rfl ?_
     rw [HE.out]
     exact ⟨rfl, HP.out, HK.out⟩
end
section
open Go.RowKit
set_option linter.unusedVariables false
set_option linter.unusedSimpArgs false
theorem w103_not {X : Cx} {F : Nat → Prop} {s s1 s2 : PS} {T : TokD} {x : Int}
  (k0 : Step X F 76 #[X.p, .int .i64 (0 : Nat)] s (tokV T) s)
  (k1 : Step X F 77 #[X.p, .string kNot] s (.bool true) s1)
  (k2 : Step X F 103 #[X.p] s1 (.int .i64 x) s2)
  (hi0 : ∀ q ∈ [x], -1 ≤ q ∧ q ≤ 4611686018427387904) (hc0 : (addP s2 11 (T.at_) ⟨#[]⟩ 0 [x]).1.ns.length ≤ 1099511627776) :
  Step X F 103 #[X.p] s (.int .i64 (addP s2 11 (T.at_) ⟨#[]⟩ 0 [x]).2) (addP s2 11 (T.at_) ⟨#[]⟩ 0 [x]).1 := by
 intro w h
 have HP := qh h
 have K0 := qh k0
 have K1 := qh k1
 have K2 := qh k2
 have HK := qh (KeepE.refl X.B (fun _ => False) w)
 obtain ⟨c2, c4, c5, hlt⟩ := h.cells
 clear h k0 k1 k2
 have HI0 := qh hi0
 have HC0 := qh hc0
 clear hi0 hc0
 go_enter Tryd.func103, Tryd.ntmps103
 go_wp2_with (first | (go_at_call 76; go_must (first | (refine (K0.out _ HP.out).mono ?_; clear K0; rintro e w0 ⟨rfl, hp, hk⟩; replace HK := qh (HK.out.trans hk); replace HP := qh hp; clear hp hk; (try clear c2 c4 c5 hlt); obtain ⟨c2, c4, c5, hlt⟩ := HP.out.cells; have hf := fldT T w0))) | (go_at_call 77; go_must (first | (refine (K1.out _ HP.out).mono ?_; clear K1; rintro e w1 ⟨rfl, hp, hk⟩; replace HK := qh (HK.out.trans hk); replace HP := qh hp; clear hp hk; (try clear c2 c4 c5 hlt); obtain ⟨c2, c4, c5, hlt⟩ := HP.out.cells))) | (go_at_call 103; go_must (first | (refine (K2.out _ HP.out).mono ?_; clear K2; rintro e w2 ⟨rfl, hp, hk⟩; replace HK := qh (HK.out.trans hk); replace HP := qh hp; clear hp hk; (try clear c2 c4 c5 hlt); obtain ⟨c2, c4, c5, hlt⟩ := HP.out.cells))) | (go_at_call 79; go_must (refine (add_any (s := s2) (HP.out.bel_ (Below.alloc (Below.refl _ _) (Nat.le_refl _) _)) (Rd.ints _ [x] _ 1 rfl rfl (by omega)) rfl (by omega) HI0.out 11 (T.at_) 0 ⟨#[]⟩ HC0.out).mono ?_); rintro e w1 ⟨rfl, hp, hk⟩; replace hk := (KeepE.of_below X.B (fun _ => False) (Below.alloc (Below.refl _ _) (Nat.le_refl _) _)).trans hk; replace HK := qh (HK.out.trans hk); replace HP := qh hp; clear hp hk; (try clear c2 c4 c5 hlt); obtain ⟨c2, c4, c5, hlt⟩ := HP.out.cells))
 go_ret
 exact ⟨rfl, HP.out, HK.out⟩
theorem w103_sum {X : Cx} {F : Nat → Prop} {s s1 s2 : PS} {T : TokD} {t : ByteArray} {x : Int}
  (k0 : Step X F 76 #[X.p, .int .i64 (0 : Nat)] s (tokV T) s)
  (k1 : Step X F 77 #[X.p, .string kNot] s (.bool false) s1)
  (k2 : Step X F 106 #[X.p] s1 (.int .i64 x) s2)
  (k3 : Step X F 107 #[X.p] s2 (.tuple #[.string t, .int .i64 (0 : Nat)]) s2) :
  Step X F 103 #[X.p] s (.int .i64 x) s2 := by
 intro w h
 have HP := qh h
 have K0 := qh k0
 have K1 := qh k1
 have K2 := qh k2
 have K3 := qh k3
 have HK := qh (KeepE.refl X.B (fun _ => False) w)
 obtain ⟨c2, c4, c5, hlt⟩ := h.cells
 clear h k0 k1 k2 k3
 go_enter Tryd.func103, Tryd.ntmps103
 go_wp2_with (first | (go_at_call 76; go_must (first | (refine (K0.out _ HP.out).mono ?_; clear K0; rintro e w0 ⟨rfl, hp, hk⟩; replace HK := qh (HK.out.trans hk); replace HP := qh hp; clear hp hk; (try clear c2 c4 c5 hlt); obtain ⟨c2, c4, c5, hlt⟩ := HP.out.cells; have hf := fldT T w0))) | (go_at_call 77; go_must (first | (refine (K1.out _ HP.out).mono ?_; clear K1; rintro e w1 ⟨rfl, hp, hk⟩; replace HK := qh (HK.out.trans hk); replace HP := qh hp; clear hp hk; (try clear c2 c4 c5 hlt); obtain ⟨c2, c4, c5, hlt⟩ := HP.out.cells))) | (go_at_call 106; go_must (first | (refine (K2.out _ HP.out).mono ?_; clear K2; rintro e w2 ⟨rfl, hp, hk⟩; replace HK := qh (HK.out.trans hk); replace HP := qh hp; clear hp hk; (try clear c2 c4 c5 hlt); obtain ⟨c2, c4, c5, hlt⟩ := HP.out.cells))) | (go_at_call 107; go_must (first | (refine (K3.out _ HP.out).mono ?_; clear K3; rintro e w3 ⟨rfl, hp, hk⟩; replace HK := qh (HK.out.trans hk); replace HP := qh hp; clear hp hk; (try clear c2 c4 c5 hlt); obtain ⟨c2, c4, c5, hlt⟩ := HP.out.cells))))
 go_ret
 exact ⟨rfl, HP.out, HK.out⟩
theorem w103_cmp {X : Cx} {F : Nat → Prop} {s s1 s2 s4 : PS} {T : TokD} {t t2 : ByteArray} {x y : Int} {n n2 : Nat}
  (k0 : Step X F 76 #[X.p, .int .i64 (0 : Nat)] s (tokV T) s)
  (k1 : Step X F 77 #[X.p, .string kNot] s (.bool false) s1)
  (k2 : Step X F 106 #[X.p] s1 (.int .i64 x) s2)
  (k3 : Step X F 107 #[X.p] s2 (.tuple #[.string t, .int .i64 n]) s2)
  (k4 : Step X F 106 #[X.p] (stepP s2 n) (.int .i64 y) s4)
  (k5 : Step X F 107 #[X.p] (addP s4 13 (placeOf s4 x) t 0 [x, y]).1 (.tuple #[.string t2, .int .i64 n2]) (addP s4 13 (placeOf s4 x) t 0 [x, y]).1)
  (hi0 : ∀ q ∈ [x, y], -1 ≤ q ∧ q ≤ 4611686018427387904) (hc0 : (addP s4 13 (placeOf s4 x) t 0 [x, y]).1.ns.length ≤ 1099511627776)
  (hne : n ≠ 0) (hn : n ≤ 9) (hn2 : s2.at_ + n ≤ X.n)
  (hz : n2 = 0) :
  Step X F 103 #[X.p] s (.int .i64 (addP s4 13 (placeOf s4 x) t 0 [x, y]).2) (addP s4 13 (placeOf s4 x) t 0 [x, y]).1 := by
 intro w h
 have HP := qh h
 have K0 := qh k0
 have K1 := qh k1
 have K2 := qh k2
 have K3 := qh k3
 have K4 := qh k4
 have K5 := qh k5
 have HK := qh (KeepE.refl X.B (fun _ => False) w)
 obtain ⟨c2, c4, c5, hlt⟩ := h.cells
 clear h k0 k1 k2 k3 k4 k5
 have HI0 := qh hi0
 have HC0 := qh hc0
 clear hi0 hc0
 have HN := qh hn
 have HN2 := qh hn2
 have hn0 : ((n : Int) == 0) = false := by simpa using hne
 clear hn hn2 hne
 subst hz
 go_enter Tryd.func103, Tryd.ntmps103
 go_wp2_with (first | (go_at_call 76; go_must (first | (refine (K0.out _ HP.out).mono ?_; clear K0; rintro e w0 ⟨rfl, hp, hk⟩; replace HK := qh (HK.out.trans hk); replace HP := qh hp; clear hp hk; (try clear c2 c4 c5 hlt); obtain ⟨c2, c4, c5, hlt⟩ := HP.out.cells; have hf := fldT T w0))) | (go_at_call 77; go_must (first | (refine (K1.out _ HP.out).mono ?_; clear K1; rintro e w1 ⟨rfl, hp, hk⟩; replace HK := qh (HK.out.trans hk); replace HP := qh hp; clear hp hk; (try clear c2 c4 c5 hlt); obtain ⟨c2, c4, c5, hlt⟩ := HP.out.cells))) | (go_at_call 106; go_must (first | (refine (K2.out _ HP.out).mono ?_; clear K2; rintro e w2 ⟨rfl, hp, hk⟩; replace HK := qh (HK.out.trans hk); replace HP := qh hp; clear hp hk; (try clear c2 c4 c5 hlt); obtain ⟨c2, c4, c5, hlt⟩ := HP.out.cells) | (refine (K4.out _ (HP.out.stepd HN2.out).1).mono ?_; clear K4; rintro e w4 ⟨rfl, hp, hk⟩; replace hk := (HP.out.stepd HN2.out).2.trans hk; replace HK := qh (HK.out.trans hk); replace HP := qh hp; clear hp hk; (try clear c2 c4 c5 hlt); obtain ⟨c2, c4, c5, hlt⟩ := HP.out.cells; obtain ⟨hlk, hfd⟩ := HP.out.look (HI0.out x (by simp))))) | (go_at_call 107; go_must (first | (refine (K3.out _ HP.out).mono ?_; clear K3; rintro e w3 ⟨rfl, hp, hk⟩; replace HK := qh (HK.out.trans hk); replace HP := qh hp; clear hp hk; (try clear c2 c4 c5 hlt); obtain ⟨c2, c4, c5, hlt⟩ := HP.out.cells; have f2 := HP.out.p.frozen 2; have hw := wrap_in (HP.out.at9 HN.out)) | (refine (K5.out _ HP.out).mono ?_; clear K5; rintro e w5 ⟨rfl, hp, hk⟩; replace HK := qh (HK.out.trans hk); replace HP := qh hp; clear hp hk; (try clear c2 c4 c5 hlt); obtain ⟨c2, c4, c5, hlt⟩ := HP.out.cells))) | (go_at_call 79; go_must (refine (add_any (s := s4) (HP.out.bel_ (Below.alloc (Below.refl _ _) (Nat.le_refl _) _)) (Rd.ints _ [x, y] _ 2 rfl rfl (by omega)) rfl (by omega) HI0.out 13 (placeOf s4 x) 0 t HC0.out).mono ?_); rintro e w1 ⟨rfl, hp, hk⟩; replace hk := (KeepE.of_below X.B (fun _ => False) (Below.alloc (Below.refl _ _) (Nat.le_refl _) _)).trans hk; replace HK := qh (HK.out.trans hk); replace HP := qh hp; clear hp hk; (try clear c2 c4 c5 hlt); obtain ⟨c2, c4, c5, hlt⟩ := HP.out.cells))
 go_ret
 exact ⟨rfl, HP.out, HK.out⟩
theorem w103_two {X : Cx} {F : Nat → Prop} {s s1 s2 s4 : PS} {T : TokD} {t t2 : ByteArray} {x y : Int} {n n2 : Nat} {s6 : PS}
  (k0 : Step X F 76 #[X.p, .int .i64 (0 : Nat)] s (tokV T) s)
  (k1 : Step X F 77 #[X.p, .string kNot] s (.bool false) s1)
  (k2 : Step X F 106 #[X.p] s1 (.int .i64 x) s2)
  (k3 : Step X F 107 #[X.p] s2 (.tuple #[.string t, .int .i64 n]) s2)
  (k4 : Step X F 106 #[X.p] (stepP s2 n) (.int .i64 y) s4)
  (k5 : Step X F 107 #[X.p] (addP s4 13 (placeOf s4 x) t 0 [x, y]).1 (.tuple #[.string t2, .int .i64 n2]) (addP s4 13 (placeOf s4 x) t 0 [x, y]).1)
  (k6 : Step X F 96 #[X.p, .int .i64 30, .int .i64 (addP s4 13 (placeOf s4 x) t 0 [x, y]).1.at_] (addP s4 13 (placeOf s4 x) t 0 [x, y]).1 (.int .i64 (-1)) s6)
  (hi0 : ∀ q ∈ [x, y], -1 ≤ q ∧ q ≤ 4611686018427387904) (hc0 : (addP s4 13 (placeOf s4 x) t 0 [x, y]).1.ns.length ≤ 1099511627776)
  (hne : n ≠ 0) (hn : n ≤ 9) (hn2 : s2.at_ + n ≤ X.n)
  (hz : 0 < n2) :
  Step X F 103 #[X.p] s (.int .i64 (-1)) s6 := by
 intro w h
 have HP := qh h
 have K0 := qh k0
 have K1 := qh k1
 have K2 := qh k2
 have K3 := qh k3
 have K4 := qh k4
 have K5 := qh k5
 have K6 := qh k6
 have HK := qh (KeepE.refl X.B (fun _ => False) w)
 obtain ⟨c2, c4, c5, hlt⟩ := h.cells
 clear h k0 k1 k2 k3 k4 k5 k6
 have HI0 := qh hi0
 have HC0 := qh hc0
 clear hi0 hc0
 have HN := qh hn
 have HN2 := qh hn2
 have hn0 : ((n : Int) == 0) = false := by simpa using hne
 clear hn hn2 hne
 have hz0 : decide ((0 : Int) < (n2 : Int)) = true := decide_eq_true (by omega)
 go_enter Tryd.func103, Tryd.ntmps103
 go_wp2_with (first | (go_at_call 76; go_must (first | (refine (K0.out _ HP.out).mono ?_; clear K0; rintro e w0 ⟨rfl, hp, hk⟩; replace HK := qh (HK.out.trans hk); replace HP := qh hp; clear hp hk; (try clear c2 c4 c5 hlt); obtain ⟨c2, c4, c5, hlt⟩ := HP.out.cells; have hf := fldT T w0))) | (go_at_call 77; go_must (first | (refine (K1.out _ HP.out).mono ?_; clear K1; rintro e w1 ⟨rfl, hp, hk⟩; replace HK := qh (HK.out.trans hk); replace HP := qh hp; clear hp hk; (try clear c2 c4 c5 hlt); obtain ⟨c2, c4, c5, hlt⟩ := HP.out.cells))) | (go_at_call 106; go_must (first | (refine (K2.out _ HP.out).mono ?_; clear K2; rintro e w2 ⟨rfl, hp, hk⟩; replace HK := qh (HK.out.trans hk); replace HP := qh hp; clear hp hk; (try clear c2 c4 c5 hlt); obtain ⟨c2, c4, c5, hlt⟩ := HP.out.cells) | (refine (K4.out _ (HP.out.stepd HN2.out).1).mono ?_; clear K4; rintro e w4 ⟨rfl, hp, hk⟩; replace hk := (HP.out.stepd HN2.out).2.trans hk; replace HK := qh (HK.out.trans hk); replace HP := qh hp; clear hp hk; (try clear c2 c4 c5 hlt); obtain ⟨c2, c4, c5, hlt⟩ := HP.out.cells; obtain ⟨hlk, hfd⟩ := HP.out.look (HI0.out x (by simp))))) | (go_at_call 107; go_must (first | (refine (K3.out _ HP.out).mono ?_; clear K3; rintro e w3 ⟨rfl, hp, hk⟩; replace HK := qh (HK.out.trans hk); replace HP := qh hp; clear hp hk; (try clear c2 c4 c5 hlt); obtain ⟨c2, c4, c5, hlt⟩ := HP.out.cells; have f2 := HP.out.p.frozen 2; have hw := wrap_in (HP.out.at9 HN.out)) | (refine (K5.out _ HP.out).mono ?_; clear K5; rintro e w5 ⟨rfl, hp, hk⟩; replace HK := qh (HK.out.trans hk); replace HP := qh hp; clear hp hk; (try clear c2 c4 c5 hlt); obtain ⟨c2, c4, c5, hlt⟩ := HP.out.cells))) | (go_at_call 96; go_must (first | (refine (K6.out _ HP.out).mono ?_; clear K6; rintro e w6 ⟨rfl, hp, hk⟩; replace HK := qh (HK.out.trans hk); replace HP := qh hp; clear hp hk; (try clear c2 c4 c5 hlt); obtain ⟨c2, c4, c5, hlt⟩ := HP.out.cells))) | (go_at_call 79; go_must (refine (add_any (s := s4) (HP.out.bel_ (Below.alloc (Below.refl _ _) (Nat.le_refl _) _)) (Rd.ints _ [x, y] _ 2 rfl rfl (by omega)) rfl (by omega) HI0.out 13 (placeOf s4 x) 0 t HC0.out).mono ?_); rintro e w1 ⟨rfl, hp, hk⟩; replace hk := (KeepE.of_below X.B (fun _ => False) (Below.alloc (Below.refl _ _) (Nat.le_refl _) _)).trans hk; replace HK := qh (HK.out.trans hk); replace HP := qh hp; clear hp hk; (try clear c2 c4 c5 hlt); obtain ⟨c2, c4, c5, hlt⟩ := HP.out.cells))
 go_ret
 exact ⟨rfl, HP.out, HK.out⟩
theorem comp_small {L : List TokD} {s : PS} : (compares L s).2 ≤ 9 := by
 unfold compares
 repeat' split
 all_goals (simp only; omega)
theorem not_part {X : Cx} {ex : Ex} {m0 : Nat} (hp : Part X 106 (sumE ex X.L m0)) (hg : GdE X.L.length ex) : ∀ m, Part X 103 (notE ex X.L m0 m)
 | 0 => fun F s r hr hc => by cases hr
 | m + 1 => fun F s r hr hc w h0 => by
  have ih := not_part hp hg m
  unfold notE at hr
  simp only at hr
  have kt : Step X F 77 #[X.p, .string kNot] s (.bool (takeP X.L kNot s).2) (takeP X.L kNot s).1 := take_step_ kNot (sml (by decide))
  split at hr
  ·rename_i hy
   rw [hy] at kt
   split at hr
   ·cases hr
   ·rename_i s1 x he
    obtain rfl := Option.some.inj hr
    have g1 := notE_gd hg m0 m _ _ he
    have l1 := (add_gr (L := X.L) (s := s1) 11 (tokP X.L s 0).at_ ⟨#[]⟩ 0 [x]).lenle
    exact w103_not (tok_step 0 (by omega)) kt (ih F _ _ he (by simp only; omega)) (one_rng g1.2 (by simp only; omega)) hc w h0
  ·rename_i hy
   rw [Bool.eq_false_iff.2 hy] at kt
   split at hr
   ·cases hr
   ·rename_i s1 x he
    have g1 := sumE_gd hg m0 _ _ he
    have kc : Step X F 107 #[X.p] s1 (.tuple #[.string (compares X.L s1).1, .int .i64 (compares X.L s1).2]) s1 := compares_any
    split at hr
    ·rename_i hz
     obtain rfl := Option.some.inj hr
     rw [hz] at kc
     exact w103_sum (tok_step 0 (by omega)) kt (hp F _ (s1, x) he hc) kc w h0
    ·rename_i hz
     have hcp := compares_in hz
     split at hr
     ·cases hr
     ·rename_i s2 y hf
      have g2 := sumE_gd hg m0 _ _ hf
      have l2 := g2.1.lenle
      have gs := step_gr (s := s1) hcp.1 hcp.2
      have l3 := (add_gr (L := X.L) (s := s2) 13 (placeOf s2 x) (compares X.L s1).1 0 [x, y]).lenle
      have ln := h0.ln
      simp only at l2
      have kc2 : Step X F 107 #[X.p] (addP s2 13 (placeOf s2 x) (compares X.L s1).1 0 [x, y]).1 (.tuple #[.string (compares X.L (addP s2 13 (placeOf s2 x) (compares X.L s1).1 0 [x, y]).1).1, .int .i64 (compares X.L (addP s2 13 (placeOf s2 x) (compares X.L s1).1 0 [x, y]).1).2]) (addP s2 13 (placeOf s2 x) (compares X.L s1).1 0 [x, y]).1 := compares_any
      have hx2 : In s2 x := (g1.2.mono gs).mono g2.1
      have l4 : s1.ns.length ≤ s2.ns.length := Nat.le_trans gs.lenle l2
      have hst : s1.at_ + (compares X.L s1).2 ≤ X.n := by omega
      split at hr
      ·rename_i hn2
       obtain rfl := Option.some.inj hr
       have lf := (fail_same (s := (addP s2 13 (placeOf s2 x) (compares X.L s1).1 0 [x, y]).1) 30 (addP s2 13 (placeOf s2 x) (compares X.L s1).1 0 [x, y]).1.at_).1
       simp only at hc
       rw [lf] at hc
       exact w103_two (tok_step 0 (by omega)) kt (hp F _ (s1, x) he (by simp only; omega)) kc (hp F _ (s2, y) hf (by simp only; omega)) kc2 (fail_step 30 _) (pair_rng hx2 g2.2 (Nat.le_trans l3 hc)) hc hz comp_small hst hn2 w h0
      ·rename_i hn2
       obtain rfl := Option.some.inj hr
       exact w103_cmp (tok_step 0 (by omega)) kt (hp F _ (s1, x) he (by simp only; omega)) kc (hp F _ (s2, y) hf (by simp only; omega)) kc2 (pair_rng hx2 g2.2 (Nat.le_trans l3 hc)) hc hz comp_small hst (by omega) w h0
end
section
open Go.RowKit
set_option linter.unusedVariables false
set_option linter.unusedSimpArgs false
theorem w113_index {X : Cx} {F : Nat → Prop} {s s1 s2 : PS} {x y a : Int}
  (k0 : Step X F 102 #[X.p, .string gColon, .int .i64 (0 : Nat)] s (.bool false) s)
  (k1 : Step X F 116 #[X.p, .string gColon] s (.int .i64 y) s1)
  (k2 : Step X F 77 #[X.p, .string gRb] s1 (.bool true) s2)
  (hi0 : ∀ q ∈ [x, y], -1 ≤ q ∧ q ≤ 4611686018427387904) (hc0 : (addP s2 19 (a) ⟨#[]⟩ 0 [x, y]).1.ns.length ≤ 1099511627776) :
  Step X F 113 #[X.p, .int .i64 x, .int .i64 a] s (.int .i64 (addP s2 19 (a) ⟨#[]⟩ 0 [x, y]).2) (addP s2 19 (a) ⟨#[]⟩ 0 [x, y]).1 := by
 intro w h
 have HP := qh h
 have K0 := qh k0
 have K1 := qh k1
 have K2 := qh k2
 have HK := qh (KeepE.refl X.B (fun _ => False) w)
 obtain ⟨c2, c4, c5, hlt⟩ := h.cells
 clear h k0 k1 k2
 have HI0 := qh hi0
 have HC0 := qh hc0
 clear hi0 hc0
 go_enter Tryd.func113, Tryd.ntmps113
 go_wp2_with (first | (go_at_call 102; go_must (first | (refine (K0.out _ HP.out).mono ?_; clear K0; rintro e w0 ⟨rfl, hp, hk⟩; replace HK := qh (HK.out.trans hk); replace HP := qh hp; clear hp hk; (try clear c2 c4 c5 hlt); obtain ⟨c2, c4, c5, hlt⟩ := HP.out.cells))) | (go_at_call 116; go_must (first | (refine (K1.out _ HP.out).mono ?_; clear K1; rintro e w1 ⟨rfl, hp, hk⟩; replace HK := qh (HK.out.trans hk); replace HP := qh hp; clear hp hk; (try clear c2 c4 c5 hlt); obtain ⟨c2, c4, c5, hlt⟩ := HP.out.cells))) | (go_at_call 77; go_must (first | (refine (K2.out _ HP.out).mono ?_; clear K2; rintro e w2 ⟨rfl, hp, hk⟩; replace HK := qh (HK.out.trans hk); replace HP := qh hp; clear hp hk; (try clear c2 c4 c5 hlt); obtain ⟨c2, c4, c5, hlt⟩ := HP.out.cells))) | (go_at_call 79; go_must (refine (add_any (s := s2) (HP.out.bel_ (Below.alloc (Below.refl _ _) (Nat.le_refl _) _)) (Rd.ints _ [x, y] _ 2 rfl rfl (by omega)) rfl (by omega) HI0.out 19 (a) 0 ⟨#[]⟩ HC0.out).mono ?_); rintro e w1 ⟨rfl, hp, hk⟩; replace hk := (KeepE.of_below X.B (fun _ => False) (Below.alloc (Below.refl _ _) (Nat.le_refl _) _)).trans hk; replace HK := qh (HK.out.trans hk); replace HP := qh hp; clear hp hk; (try clear c2 c4 c5 hlt); obtain ⟨c2, c4, c5, hlt⟩ := HP.out.cells))
 go_ret
 exact ⟨rfl, HP.out, HK.out⟩
theorem w113_slice {X : Cx} {F : Nat → Prop} {s s1 s2 s3 s4 s5 : PS} {x y z a : Int}
  (k0 : Step X F 102 #[X.p, .string gColon, .int .i64 (0 : Nat)] s (.bool false) s)
  (k1 : Step X F 116 #[X.p, .string gColon] s (.int .i64 y) s1)
  (k2 : Step X F 77 #[X.p, .string gRb] s1 (.bool false) s2)
  (k3 : Step X F 81 #[X.p, .string gColon] s2 (.tuple #[]) s3)
  (k4 : Step X F 116 #[X.p, .string gRb] s3 (.int .i64 z) s4)
  (k5 : Step X F 81 #[X.p, .string gRb] s4 (.tuple #[]) s5)
  (hi0 : ∀ q ∈ [x, y, z], -1 ≤ q ∧ q ≤ 4611686018427387904) (hc0 : (addP s5 20 (a) ⟨#[]⟩ 0 [x, y, z]).1.ns.length ≤ 1099511627776) :
  Step X F 113 #[X.p, .int .i64 x, .int .i64 a] s (.int .i64 (addP s5 20 (a) ⟨#[]⟩ 0 [x, y, z]).2) (addP s5 20 (a) ⟨#[]⟩ 0 [x, y, z]).1 := by
 intro w h
 have HP := qh h
 have K0 := qh k0
 have K1 := qh k1
 have K2 := qh k2
 have K3 := qh k3
 have K4 := qh k4
 have K5 := qh k5
 have HK := qh (KeepE.refl X.B (fun _ => False) w)
 obtain ⟨c2, c4, c5, hlt⟩ := h.cells
 clear h k0 k1 k2 k3 k4 k5
 have HI0 := qh hi0
 have HC0 := qh hc0
 clear hi0 hc0
 go_enter Tryd.func113, Tryd.ntmps113
 go_wp2_with (first | (go_at_call 102; go_must (first | (refine (K0.out _ HP.out).mono ?_; clear K0; rintro e w0 ⟨rfl, hp, hk⟩; replace HK := qh (HK.out.trans hk); replace HP := qh hp; clear hp hk; (try clear c2 c4 c5 hlt); obtain ⟨c2, c4, c5, hlt⟩ := HP.out.cells))) | (go_at_call 116; go_must (first | (refine (K1.out _ HP.out).mono ?_; clear K1; rintro e w1 ⟨rfl, hp, hk⟩; replace HK := qh (HK.out.trans hk); replace HP := qh hp; clear hp hk; (try clear c2 c4 c5 hlt); obtain ⟨c2, c4, c5, hlt⟩ := HP.out.cells) | (refine (K4.out _ HP.out).mono ?_; clear K4; rintro e w4 ⟨rfl, hp, hk⟩; replace HK := qh (HK.out.trans hk); replace HP := qh hp; clear hp hk; (try clear c2 c4 c5 hlt); obtain ⟨c2, c4, c5, hlt⟩ := HP.out.cells))) | (go_at_call 77; go_must (first | (refine (K2.out _ HP.out).mono ?_; clear K2; rintro e w2 ⟨rfl, hp, hk⟩; replace HK := qh (HK.out.trans hk); replace HP := qh hp; clear hp hk; (try clear c2 c4 c5 hlt); obtain ⟨c2, c4, c5, hlt⟩ := HP.out.cells))) | (go_at_call 81; go_must (first | (refine (K3.out _ HP.out).mono ?_; clear K3; rintro e w3 ⟨rfl, hp, hk⟩; replace HK := qh (HK.out.trans hk); replace HP := qh hp; clear hp hk; (try clear c2 c4 c5 hlt); obtain ⟨c2, c4, c5, hlt⟩ := HP.out.cells) | (refine (K5.out _ HP.out).mono ?_; clear K5; rintro e w5 ⟨rfl, hp, hk⟩; replace HK := qh (HK.out.trans hk); replace HP := qh hp; clear hp hk; (try clear c2 c4 c5 hlt); obtain ⟨c2, c4, c5, hlt⟩ := HP.out.cells))) | (go_at_call 79; go_must (refine (add_any (s := s5) (HP.out.bel_ (Below.alloc (Below.refl _ _) (Nat.le_refl _) _)) (Rd.ints _ [x, y, z] _ 3 rfl rfl (by omega)) rfl (by omega) HI0.out 20 (a) 0 ⟨#[]⟩ HC0.out).mono ?_); rintro e w1 ⟨rfl, hp, hk⟩; replace hk := (KeepE.of_below X.B (fun _ => False) (Below.alloc (Below.refl _ _) (Nat.le_refl _) _)).trans hk; replace HK := qh (HK.out.trans hk); replace HP := qh hp; clear hp hk; (try clear c2 c4 c5 hlt); obtain ⟨c2, c4, c5, hlt⟩ := HP.out.cells))
 go_ret
 exact ⟨rfl, HP.out, HK.out⟩
theorem w113_colon {X : Cx} {F : Nat → Prop} {s s2 s3 s4 s5 : PS} {x y z a : Int}
  (k0 : Step X F 102 #[X.p, .string gColon, .int .i64 (0 : Nat)] s (.bool true) s)
  (k1 : Step X F 116 #[X.p, .string gColon] s (.int .i64 y) s2)
  (k2 : Step X F 81 #[X.p, .string gColon] s2 (.tuple #[]) s3)
  (k3 : Step X F 116 #[X.p, .string gRb] s3 (.int .i64 z) s4)
  (k4 : Step X F 81 #[X.p, .string gRb] s4 (.tuple #[]) s5)
  (hi0 : ∀ q ∈ [x, y, z], -1 ≤ q ∧ q ≤ 4611686018427387904) (hc0 : (addP s5 20 (a) ⟨#[]⟩ 0 [x, y, z]).1.ns.length ≤ 1099511627776) :
  Step X F 113 #[X.p, .int .i64 x, .int .i64 a] s (.int .i64 (addP s5 20 (a) ⟨#[]⟩ 0 [x, y, z]).2) (addP s5 20 (a) ⟨#[]⟩ 0 [x, y, z]).1 := by
 intro w h
 have HP := qh h
 have K0 := qh k0
 have K1 := qh k1
 have K2 := qh k2
 have K3 := qh k3
 have K4 := qh k4
 have HK := qh (KeepE.refl X.B (fun _ => False) w)
 obtain ⟨c2, c4, c5, hlt⟩ := h.cells
 clear h k0 k1 k2 k3 k4
 have HI0 := qh hi0
 have HC0 := qh hc0
 clear hi0 hc0
 go_enter Tryd.func113, Tryd.ntmps113
 go_wp2_with (first | (go_at_call 102; go_must (first | (refine (K0.out _ HP.out).mono ?_; clear K0; rintro e w0 ⟨rfl, hp, hk⟩; replace HK := qh (HK.out.trans hk); replace HP := qh hp; clear hp hk; (try clear c2 c4 c5 hlt); obtain ⟨c2, c4, c5, hlt⟩ := HP.out.cells))) | (go_at_call 116; go_must (first | (refine (K1.out _ HP.out).mono ?_; clear K1; rintro e w1 ⟨rfl, hp, hk⟩; replace HK := qh (HK.out.trans hk); replace HP := qh hp; clear hp hk; (try clear c2 c4 c5 hlt); obtain ⟨c2, c4, c5, hlt⟩ := HP.out.cells) | (refine (K3.out _ HP.out).mono ?_; clear K3; rintro e w3 ⟨rfl, hp, hk⟩; replace HK := qh (HK.out.trans hk); replace HP := qh hp; clear hp hk; (try clear c2 c4 c5 hlt); obtain ⟨c2, c4, c5, hlt⟩ := HP.out.cells))) | (go_at_call 81; go_must (first | (refine (K2.out _ HP.out).mono ?_; clear K2; rintro e w2 ⟨rfl, hp, hk⟩; replace HK := qh (HK.out.trans hk); replace HP := qh hp; clear hp hk; (try clear c2 c4 c5 hlt); obtain ⟨c2, c4, c5, hlt⟩ := HP.out.cells) | (refine (K4.out _ HP.out).mono ?_; clear K4; rintro e w4 ⟨rfl, hp, hk⟩; replace HK := qh (HK.out.trans hk); replace HP := qh hp; clear hp hk; (try clear c2 c4 c5 hlt); obtain ⟨c2, c4, c5, hlt⟩ := HP.out.cells))) | (go_at_call 79; go_must (refine (add_any (s := s5) (HP.out.bel_ (Below.alloc (Below.refl _ _) (Nat.le_refl _) _)) (Rd.ints _ [x, y, z] _ 3 rfl rfl (by omega)) rfl (by omega) HI0.out 20 (a) 0 ⟨#[]⟩ HC0.out).mono ?_); rintro e w1 ⟨rfl, hp, hk⟩; replace hk := (KeepE.of_below X.B (fun _ => False) (Below.alloc (Below.refl _ _) (Nat.le_refl _) _)).trans hk; replace HK := qh (HK.out.trans hk); replace HP := qh hp; clear hp hk; (try clear c2 c4 c5 hlt); obtain ⟨c2, c4, c5, hlt⟩ := HP.out.cells))
 go_ret
 exact ⟨rfl, HP.out, HK.out⟩
theorem three_rng {s : PS} {x y z : Int} (h1 : In s x) (h2 : In s y) (h3 : In s z) (hs : s.ns.length ≤ 1099511627776) : ∀ q ∈ [x, y, z], -1 ≤ q ∧ q ≤ 4611686018427387904 := by
 intro q hq
 simp only [List.mem_cons, List.not_mem_nil, or_false] at hq
 rcases hq with rfl | rfl | rfl
 ·exact h1.rng hs
 ·exact h2.rng hs
 ·exact h3.rng hs
theorem index_any {X : Cx} {ex : Ex} (hex : Part X 55 ex) (hg : GdE X.L.length ex) {F : Nat → Prop} {s : PS} {x a : Int} {r : PS × Int} (hx : In s x) (h : indexE ex X.L x a s = some r) (hc : r.1.ns.length ≤ 1099511627776) : Step X F 113 #[X.p, .int .i64 x, .int .i64 a] s (.int .i64 r.2) r.1 := by
 have k0 : Step X F 102 #[X.p, .string gColon, .int .i64 (0 : Nat)] s (.bool (isP X.L s gColon 0)) s := is_step gColon (sml (by decide)) 0 (by omega)
 unfold indexE at h
 simp only at h
 split at h
 ·cases h
 rename_i s1 y he
 obtain ⟨g1, i1⟩ := boundE_gd hg he
 have kt : Step X F 77 #[X.p, .string gRb] s1 (.bool (takeP X.L gRb s1).2) (takeP X.L gRb s1).1 := take_step_ gRb (sml (by decide))
 have gt := take_gr (L := X.L) (s := s1) gRb
 split at h
 ·rename_i hy
  rw [hy.1] at k0
  rw [hy.2] at kt
  obtain rfl := Option.some.inj h
  have l1 := (add_gr (L := X.L) (s := (takeP X.L gRb s1).1) 19 a ⟨#[]⟩ 0 [x, y]).lenle
  have l2 := gt.lenle
  exact w113_index k0 (bound_any hex (sml (by decide)) he (by simp only; omega)) kt (pair_rng ((hx.mono g1).mono gt) (i1.mono gt) (Nat.le_trans l1 hc)) hc
 ·rename_i hy
  split at h
  ·cases h
  rename_i s4 z hz
  obtain rfl := Option.some.inj h
  obtain ⟨g4, i4⟩ := boundE_gd hg hz
  have g5 := need_gr (L := X.L) (s := s4) gRb
  have l1 := (add_gr (L := X.L) (s := needP X.L gRb s4) 20 a ⟨#[]⟩ 0 [x, y, z]).lenle
  have l2 := g5.lenle
  have l3 := g4.lenle
  cases hs : isP X.L s gColon 0 with
  | true =>
   rw [hs] at k0 hz g4 l3
   simp only [if_true] at hz g4 l3
   have g3 := need_gr (L := X.L) (s := s1) gColon
   have l4 := g3.lenle
   have gg := g3.trans g4
   exact w113_colon k0 (bound_any hex (sml (by decide)) he (by simp only at l3 ⊢; omega)) (need_step gColon (sml (by decide))) (bound_any hex (sml (by decide)) hz (by simp only; omega)) (need_step gRb (sml (by decide))) (three_rng (((hx.mono g1).mono gg).mono g5) ((i1.mono gg).mono g5) (i4.mono g5) (Nat.le_trans l1 hc)) hc
  | false =>
   rw [hs] at k0 hz g4 l3 hy
   have ht : (takeP X.L gRb s1).2 = false := by
    cases hq : (takeP X.L gRb s1).2 with
    | false => rfl
    | true => exact absurd ⟨rfl, hq⟩ hy
   rw [ht] at kt
   simp only [Bool.false_eq_true, if_false] at hz g4 l3
   have g3 := gt.trans (need_gr (L := X.L) (s := (takeP X.L gRb s1).1) gColon)
   have l4 := g3.lenle
   have gg := g3.trans g4
   exact w113_slice k0 (bound_any hex (sml (by decide)) he (by simp only at l3 ⊢; omega)) kt (need_step gColon (sml (by decide))) (bound_any hex (sml (by decide)) hz (by simp only; omega)) (need_step gRb (sml (by decide))) (three_rng (((hx.mono g1).mono gg).mono g5) ((i1.mono gg).mono g5) (i4.mono g5) (Nat.le_trans l1 hc)) hc
end
section
open Go.RowKit
set_option linter.unusedVariables false
set_option linter.unusedSimpArgs false
theorem PAt.mod3 {X : Cx} {F F' S : Nat → Prop} {w w' : World} {s : PS} (h : PAt X F w s) (hm : Mod S w w') (hS : ∀ k, k < w.heap.size → S k → F k ∧ X.B ≤ k ∧ ∃ cs, w.heap[k]? = some (.cells cs 3 (0, 0)))
  (hF : ∀ k, F' k → F k ∨ w.heap.size ≤ k) (hl : ∀ k, F' k → k < w'.heap.size) : PAt X F' w' s := by
 obtain ⟨v, h1, h2, h3⟩ := h.t
 have ne : ∀ {k : Nat} {t : TypeId} {cs : Array Value}, Blk w k t cs → t ≠ 3 → ¬ S k := fun hb ht hs => by
  obtain ⟨_, _, cs', hc⟩ := hS _ hb.lt hs
  exact hb.ne_ hc ht rfl
 obtain ⟨es, clock, em⟩ := h.m.isMap
 obtain ⟨Z, e, z1, z2⟩ := h3
 refine ⟨h.p.mod hm (ne h.p (by decide)), h.l.keep hm.size fun b o e hb => hm.block b hb fun hs => ?_, h.la, h.pB, h.bB, h.mB, Nat.le_trans h.wB hm.size, ⟨v, h1.mod hm (ne h1 (by decide)), h2, ?_⟩, h.m.keep (hm.block _ h.m.lt fun hs => ?_) rfl rfl, h.at_, h.dl, asp_block h.tab (hm.block 0 ?_ fun hs => ?_), h.ln, h.b0, h.big, h.ts, hl⟩
 ·have := h.la b o e
  have := (hS b hb hs).2.1
  omega
 ·refine ⟨Z, e, z1.keep fun b hb => hm.block b (z1.lt hb) fun hs => ?_, fun z hz => ⟨?_, fun b hb hf => ?_, (z2 z hz).2.2⟩⟩
  ·obtain ⟨_, _, cs', hc⟩ := hS _ (z1.lt hb) hs
   exact own_blk_ne z1 hc (by decide) hb
  ·exact Own.keep (z2 z hz).1 fun b hb => hm.block b ((z2 z hz).1.lt hb) fun hs => (z2 z hz).2.1 b hb (hS b ((z2 z hz).1.lt hb) hs).1
  ·have h8 := (z2 z hz).1.lt hb
   rcases hF b hf with h9 | h9
   ·exact (z2 z hz).2.1 b hb h9
   ·omega
 ·obtain ⟨_, _, cs', hc⟩ := hS _ h.m.lt hs
  rw [em] at hc
  cases hc
 ·have := h.wB; have := h.b0; omega
 ·have := (hS 0 (by have := h.wB; have := h.b0; omega) hs).2.1
  have := h.b0
  omega
abbrev withV (F : Nat → Prop) (v : Value) (k : Nat) : Prop := F k ∨ v.ownBlock = some k
theorem PAt.app {X : Cx} {F : Nat → Prop} {w W' w6 : World} {s : PS} {v1 v6 : Value} {xs xs' : List Int} (h : PAt X (withV F v1) w s) (hb : Below w.heap.size w W') (ho : OwnI w v1 xs) (hB : ∀ g, v1.ownBlock = some g → X.B ≤ g) (hg : W'.grownBy w6 v1.ownBlock)
  (hn : v6.ownBlock = v1.ownBlock ∨ v6.ownBlock = some W'.heap.size) (ho6 : OwnI w6 v6 xs') : PAt X (withV F v6) w6 s ∧ KeepE X.B (fun k => v1.ownBlock = some k) w w6 ∧ (∀ g, v6.ownBlock = some g → v1.ownBlock = some g ∨ w.heap.size ≤ g) := by
 have hn' : ∀ g, v6.ownBlock = some g → v1.ownBlock = some g ∨ w.heap.size ≤ g := fun g e => by
  rcases hn with h1 | h1
  ·exact .inl (h1 ▸ e)
  ·rw [h1] at e
   injection e with e
   have := hb.size
   exact .inr (by omega)
 have hm : Mod (fun k => v1.ownBlock = some k) w w6 := ⟨hg.os.trans hb.os, hg.tape.trans hb.tape, hg.output.trans hb.output, Nat.le_trans hb.size hg.size, fun i hi hne => (hg.block i (Nat.lt_of_lt_of_le hi hb.size) (fun e => hne e.symm)).trans (hb.block i hi)⟩
 refine ⟨h.mod3 hm (fun k hk e => ⟨.inr e, hB k e, ?_⟩) (fun k hk => ?_) (fun k hk => ?_), KeepE.of_mod hm fun k hk e => .inl e, hn'⟩
 ·rcases ho.2 with ⟨e2, _⟩ | ⟨g, c, cur, e2, hc, _⟩
  ·rw [e2] at e; cases e
  ·obtain rfl : g = k := by rw [e2] at e; simpa [Value.ownBlock] using e
   exact ⟨cur, hc⟩
 ·rcases hk with hk | hk
  ·exact .inl (.inl hk)
  ·rcases hn' k hk with h1 | h1
   ·exact .inl (.inr h1)
   ·exact .inr h1
 ·rcases hk with hk | hk
  ·exact Nat.lt_of_lt_of_le (h.fl k (.inl hk)) hm.size
  ·exact ho6.lt hk
theorem PAt.beside {X : Cx} {F : Nat → Prop} {w w' : World} {s : PS} {v : Value} {xs : List Int} (h : PAt X F w s) (hb : Below w.heap.size w w') (ho : OwnI w' v xs) (hv : ∀ g, v.ownBlock = some g → w.heap.size ≤ g) : PAt X (withV F v) w' s :=
 h.bel hb (fun k hk => hk.elim .inl fun e => .inr (hv k e)) fun k hk => hk.elim (fun h1 => Nat.lt_of_lt_of_le (h.fl k h1) hb.size) fun e => ho.lt e
theorem KeepE.ownI {B : Nat} {E : Nat → Prop} {w w1 : World} {v : Value} {xs : List Int} (h : KeepE B E w w1) (hb : OwnI w v xs) (hE : ∀ b, v.ownBlock = some b → ¬ E b) : OwnI w1 v xs := h.own hb hE (by decide)
def RetL (X : Cx) (F : Nat → Prop) (w : World) (v0 : Value) (r : PS × List Int) (e : Ending) (w' : World) : Prop :=
 ∃ v', e = .returned v' ∧ OwnI w' v' r.2 ∧ PAt X (withV F v') w' r.1 ∧ KeepE X.B (fun k => v0.ownBlock = some k) w w' ∧ ∀ g, v'.ownBlock = some g → v0.ownBlock = some g ∨ w.heap.size ≤ g
theorem row_any {X : Cx} {ex : Ex} (hex : Part X 55 ex) (hgx : GdE X.L.length ex) {F : Nat → Prop} {w : World} {s : PS} {fin : ByteArray} (hf : fin.size ≤ maxLen) {kids : List Int} {A0 : Option Addr} {c0 : Nat} {m : Nat} {r : PS × List Int}
  (h : PAt X (withV F (.slice A0 kids.length c0)) w s) (ho : OwnI w (.slice A0 kids.length c0) kids) (hB : ∀ g, (Value.slice A0 kids.length c0).ownBlock = some g → X.B ≤ g) (hin : ∀ k ∈ kids, In s k) (hkl : kids.length ≤ 9) (hr : rowE ex X.L fin m s kids = some r) (hc : r.1.ns.length ≤ 1099511627776) :
  Calls Tryd.prog 112 #[X.p, .string fin, .slice A0 kids.length c0] w (RetL X F w (.slice A0 kids.length c0) r) := by
 unfold RetL
 have HP0 := qh h
 have HO0 := qh ho
 have HB0 := qh hB
 have HI0 := qh hin
 have HR0 := qh hr
 have HC := qh hc
 have HEX := qh hex
 have HGX := qh hgx
 obtain ⟨c2, c4, c5, hlt⟩ := h.cells
 clear h ho hB hin hr hc hex hgx
 go_enter Tryd.func112, Tryd.ntmps112
 go_wp2_with fail
 go_loopw [2] (fun v wr => ∃ (m : Nat) (s1 : PS) (K1 : List Int) (A1 : Option Addr) (c1 : Nat), v = .slice A1 K1.length c1 ∧ Hid (rowE ex X.L fin m s1 K1 = some r) ∧ PAt X (withV F (.slice A1 K1.length c1)) wr s1 ∧ OwnI wr (.slice A1 K1.length c1) K1 ∧ KeepE X.B (fun k => (Value.slice A0 kids.length c0).ownBlock = some k) w wr ∧ Hid (∀ g, (Value.slice A1 K1.length c1).ownBlock = some g → (Value.slice A0 kids.length c0).ownBlock = some g ∨ w.heap.size ≤ g) ∧ Hid (∀ k ∈ K1, In s1 k) ∧ K1.length ≤ 9 + s1.at_) (fun _ wr => X.n + 1 - atW X.pb wr)
 case atStart => exact ⟨m, s, kids, A0, c0, rfl, HR0, HP0.out, HO0.out, KeepE.refl _ _ _, qh fun g e => .inl e, HI0, by omega⟩
 case round =>
  obtain ⟨m', s1, K1, A1, c1, rfl, HR1, hp1, ho1, hk1, HV1, HI1, hl1⟩ := hrel
  have hh := HR1.out
  have HP1 := qh hp1
  have HO1 := qh ho1
  have HK1 := qh hk1
  obtain ⟨c2, c4, c5, hlt⟩ := hp1.cells
  have hat := hp1.atW
  have han := hp1.at_
  have hbn := hp1.big
  clear hp1 ho1 hk1
  cases m' with
  | zero => cases hh
  | succ m' =>
   unfold rowE at hh
   by_cases he : s1.e = 0
   ·rw [if_neg (by simpa using he)] at hh
    rw [he] at c4
    have kt : Step X (withV F (.slice A1 K1.length c1)) 77 #[X.p, .string fin] s1 (.bool (takeP X.L fin s1).2) (takeP X.L fin s1).1 := take_step_ fin hf
    cases hy : (takeP X.L fin s1).2 with
    | true =>
     rw [hy] at hh kt
     simp only [if_true] at hh
     obtain rfl := Option.some.inj hh
     have K0 := qh kt
     clear hh kt hy
     go_wp2_with (go_at_call 77; go_must (refine (K0.out _ HP1.out).mono ?_); rintro e w3 ⟨rfl, hp, hk⟩; have HO3 := qh (hk.ownI HO1.out (fun _ _ => id)); have HP3 := qh hp; have HK3 := qh (HK1.out.then hk (fun _ => False.elim)); clear hp hk)
     go_ret
     exact ⟨_, rfl, HO3.out, HP3.out, HK3.out, HV1.out⟩
    | false =>
     rw [hy] at hh kt
     simp only [Bool.false_eq_true, if_false] at hh
     split at hh
     ·cases hh
     rename_i s3 x hx
     have g0 := take_gr (L := X.L) (s := s1) fin
     obtain ⟨g1, i1⟩ := HGX.out _ _ hx
     have g2 := g0.trans g1
     have gc := take_gr (L := X.L) (s := s3) gComma
     have hup := g2.up
     have HB1 : Hid (∀ g, (Value.slice A1 K1.length c1).ownBlock = some g → X.B ≤ g) := qh fun g e => (HV1.out g e).elim (HB0.out g) fun h => Nat.le_trans HP0.out.wB h
     have kc : ∀ F', Step X F' 77 #[X.p, .string gComma] s3 (.bool (takeP X.L gComma s3).2) (takeP X.L gComma s3).1 := fun F' => take_step_ gComma (sml (by decide))
     have hin3 := in_snoc (in_all HI1.out (g2.trans gc)) (i1.mono gc)
     have HI3 := qh hin3
     cases hy2 : (takeP X.L gComma s3).2 with
     | true =>
      rw [hy2] at hh kc
      simp only [if_true] at hh
      have lc := (rowE_gl HGX.out fin m' _ _ _ hin3 hh).1.lenle
      have l1 := gc.lenle
      have hcc := HC.out
      have KX := qh (HEX.out (withV F (.slice A1 K1.length c1)) _ (s3, x) hx (by simp only; omega))
      have hadv := any_adv (L := X.L) (s := s3) (l := [gComma]) hy2
      have HR3 := qh hh
      have K0 := qh kt
      have KC := qh kc
      have HAD := qh (show (takeP X.L gComma s3).1.at_ = s3.at_ + 1 from hadv)
      clear hh kt hy hy2 g0 g1 g2 gc i1 hin3 kc lc l1 hcc hx hadv
      go_wp2_with (first | (at_builtin; go_must (refine wpList_appendN _ rfl _ _ rfl (.slice A1 K1.length c1) K1 rfl (HO4.out.bel (Below.alloc (Below.refl _ _) (Nat.le_refl _) _)) _ 1 1 [x] rfl Rd.one rfl (by omega) ?_); intro v6 w6 ho6 hg6 hn6; generalize hG : K1 ++ [x] = G at ho6; obtain ⟨A6, c6, rfl, -, -⟩ := Own.rd ho6; have HG := qh hG; obtain ⟨hp6, hk6, hv6⟩ := HP4.out.app (Below.alloc (Below.refl _ _) (Nat.le_refl _) _) HO4.out HB1.out hg6 hn6 ho6; have HV6 := qh (show ∀ g, (Value.slice A6 G.length c6).ownBlock = some g → (Value.slice A0 kids.length c0).ownBlock = some g ∨ w.heap.size ≤ g from fun g e => (hv6 g e).elim (HV1.out g) fun h => .inr (Nat.le_trans HK4.out.size h)); have HP6 := qh hp6; have HO6 := qh ho6; have HK6 := qh (HK4.out.then hk6 (fun i e => HV1.out i e)); clear hp6 ho6 hk6 hv6 hG hg6 hn6) | (go_at_call 77; go_must (first | (refine (K0.out _ HP1.out).mono ?_; clear K0; rintro e w3 ⟨rfl, hp, hk⟩; have HO3 := qh (hk.ownI HO1.out (fun _ _ => id)); have HP3 := qh hp; have HK3 := qh (HK1.out.then hk (fun _ => False.elim)); clear hp hk) | (refine (KC.out _ _ HP6.out).mono ?_; rintro e w7 ⟨rfl, hp, hk⟩; have HO7 := qh (hk.ownI HO6.out (fun _ _ => id)); have HP7 := qh hp; have HK7 := qh (HK6.out.then hk (fun _ => False.elim)); clear hp hk))) | (go_at_call 55; go_must (refine (KX.out _ HP3.out).mono ?_); rintro e w4 ⟨rfl, hp, hk⟩; have HO4 := qh (hk.ownI HO3.out (fun _ _ => id)); have HP4 := qh hp; have HK4 := qh (HK3.out.then hk (fun _ => False.elim)); clear hp hk))
      go_round
      case rel => exact ⟨m', _, G, A6, c6, rfl, qh (by rw [← HG.out]; exact HR3.out), HP7.out, HO7.out, HK7.out, HV6, qh (by rw [← HG.out]; exact HI3.out), by rw [← HG.out, List.length_append, HAD.out]; show K1.length + 1 ≤ _; omega⟩
      case measure =>
       have h1 := HP7.out.atW
       have h2 := HAD.out
       have h5 := HP7.out.at_
       omega
     | false =>
      rw [hy2] at hh kc
      simp only [Bool.false_eq_true, if_false] at hh
      obtain rfl := Option.some.inj hh
      have gn := need_gr (L := X.L) (s := (takeP X.L gComma s3).1) fin
      have lc := gn.lenle
      have l1 := gc.lenle
      have hcc := HC.out
      simp only at hcc
      have KX := qh (HEX.out (withV F (.slice A1 K1.length c1)) _ (s3, x) hx (by simp only; omega))
      have KN := qh (show ∀ F', Step X F' 81 #[X.p, .string fin] (takeP X.L gComma s3).1 (.tuple #[]) (needP X.L fin (takeP X.L gComma s3).1) from fun F' => need_step fin hf)
      have K0 := qh kt
      have KC := qh kc
      clear hh kt hy hy2 g0 g1 g2 gc i1 hin3 kc lc l1 hcc hx gn
      go_wp2_with (first | (at_builtin; go_must (refine wpList_appendN _ rfl _ _ rfl (.slice A1 K1.length c1) K1 rfl (HO4.out.bel (Below.alloc (Below.refl _ _) (Nat.le_refl _) _)) _ 1 1 [x] rfl Rd.one rfl (by omega) ?_); intro v6 w6 ho6 hg6 hn6; generalize hG : K1 ++ [x] = G at ho6; obtain ⟨A6, c6, rfl, -, -⟩ := Own.rd ho6; have HG := qh hG; obtain ⟨hp6, hk6, hv6⟩ := HP4.out.app (Below.alloc (Below.refl _ _) (Nat.le_refl _) _) HO4.out HB1.out hg6 hn6 ho6; have HV6 := qh (show ∀ g, (Value.slice A6 G.length c6).ownBlock = some g → (Value.slice A0 kids.length c0).ownBlock = some g ∨ w.heap.size ≤ g from fun g e => (hv6 g e).elim (HV1.out g) fun h => .inr (Nat.le_trans HK4.out.size h)); have HP6 := qh hp6; have HO6 := qh ho6; have HK6 := qh (HK4.out.then hk6 (fun i e => HV1.out i e)); clear hp6 ho6 hk6 hv6 hG hg6 hn6) | (go_at_call 77; go_must (first | (refine (K0.out _ HP1.out).mono ?_; clear K0; rintro e w3 ⟨rfl, hp, hk⟩; have HO3 := qh (hk.ownI HO1.out (fun _ _ => id)); have HP3 := qh hp; have HK3 := qh (HK1.out.then hk (fun _ => False.elim)); clear hp hk) | (refine (KC.out _ _ HP6.out).mono ?_; rintro e w7 ⟨rfl, hp, hk⟩; have HO7 := qh (hk.ownI HO6.out (fun _ _ => id)); have HP7 := qh hp; have HK7 := qh (HK6.out.then hk (fun _ => False.elim)); clear hp hk))) | (go_at_call 55; go_must (refine (KX.out _ HP3.out).mono ?_); rintro e w4 ⟨rfl, hp, hk⟩; have HO4 := qh (hk.ownI HO3.out (fun _ _ => id)); have HP4 := qh hp; have HK4 := qh (HK3.out.then hk (fun _ => False.elim)); clear hp hk) | (go_at_call 81; go_must (refine (KN.out _ _ HP7.out).mono ?_); rintro e w8 ⟨rfl, hp, hk⟩; have HO8 := qh (hk.ownI HO7.out (fun _ _ => id)); have HP8 := qh hp; have HK8 := qh (HK7.out.then hk (fun _ => False.elim)); clear hp hk))
      go_ret
      rw [HG.out]
      exact ⟨_, rfl, HO8.out, HP8.out, HK8.out, HV6.out⟩
   ·rw [if_pos he] at hh
    obtain rfl := Option.some.inj hh
    have he' : (s1.e == 0) = false := by simpa using he
    clear hh
    go_wp2_with fail
    go_ret
    exact ⟨_, rfl, HO1.out, HP1.out, HK1.out, HV1.out⟩
end
end Go.Proofs.YtjdcicopjipmnaaDoor
