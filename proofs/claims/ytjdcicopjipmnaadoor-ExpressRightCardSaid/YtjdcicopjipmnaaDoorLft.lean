/- left: parts with operators between. -/
import Derived.Test.YtjdcicopjipmnaaDoorBnd
namespace Go.Proofs.YtjdcicopjipmnaaDoor
open Go.RowKit
set_option linter.unusedVariables false
set_option linter.unusedSimpArgs false
/-- where the parser stands, as memory tells it -/
def atW (pb : Nat) (w : World) : Nat := match w.cell? ⟨pb, 2, none⟩ with
  | some (.int _ a) => a.toNat
  | _ => 0
theorem PAt.atW {X : Cx} {F : Nat → Prop} {w : World} {s : PS} (h : PAt X F w s) : atW X.pb w = s.at_ := by
  unfold YtjdcicopjipmnaaDoor.atW
  rw [h.cells.1]
  simp
theorem any_ret' {X : Cx} {F : Nat → Prop} {w : World} {s s1 : PS} {q r : Nat} {B : Option Addr} {l : List ByteArray} {t : ByteArray} {b : Bool} (he : anyP X.L l s = (s1, t, b)) (h : PAt X F w s) (hB : Rd w B q r 1 (l.map Value.string)) (hl : l.length = q) (ht : ∀ t ∈ l, t.size ≤ maxLen) :
    Calls Tryd.prog 94 #[X.p, .slice B q r] w fun e w' => e = .returned (.tuple #[.string t, .bool b]) ∧ PAt X F w' s1 ∧ Keeps X.B w w' := by
  have := any_ret h hB hl ht
  rw [he] at this
  exact this
theorem any_adv {L : List TokD} {s : PS} {l : List ByteArray} (h : (anyP L l s).2.2 = true) : (anyP L l s).1.at_ = s.at_ + 1 := by
  rcases any_cases (L := L) (s := s) l with ⟨h1, _⟩ | ⟨t, _, _, h1⟩
  · rw [h1] at h; cases h
  · rw [h1]; rfl
theorem pair_rng {s : PS} {x y : Int} (h1 : In s x) (h2 : In s y) (hs : s.ns.length ≤ 1099511627776) : ∀ q ∈ [x, y], -1 ≤ q ∧ q ≤ 4611686018427387904 := by
  intro q hq
  simp only [List.mem_cons, List.not_mem_nil, or_false] at hq
  rcases hq with rfl | rfl
  · exact h1.rng hs
  · exact h2.rng hs
set_option maxRecDepth 100000 in
set_option maxHeartbeats 4000000 in
theorem left_any {X : Cx} {F : Nat → Prop} {part : Ex} {pf : FuncId} (hcf : ∀ w, Sem.run Tryd.prog (callFunc pf #[X.p]) w = .ok (.enter pf #[X.p]) w) (hpart : Part X pf part) (hg : GdE X.L.length part) {op : Int} {signs : List ByteArray} {m : Nat} {w : World} {s : PS} {r : PS × Int} {B : Option Addr} {q c : Nat}
    (hB : Own w 9 1 (.slice B q c) q (signs.map Value.string)) (hl : signs.length = q) (ht : ∀ t ∈ signs, t.size ≤ maxLen) (h : PAt X F w s) (hr : partsE X.L part op signs m s = some r) (hc : r.1.ns.length ≤ 1099511627776) :
    Calls Tryd.prog 98 #[X.p, .func (.func pf) #[X.p] #[], .int .i64 op, .slice B q c] w (Ret X F w r) := by
  unfold partsE at hr
  split at hr
  · cases hr
  rename_i s1 x hx
  have g1 := hg _ _ hx
  have g2 := leftE_gd hg op signs m _ _ _ g1.2 hr
  have K1 := Lib.hid (hpart F s _ hx (Nat.le_trans g2.1.lenle hc))
  have HR := Lib.hid hr
  have HI := Lib.hid g1.2
  have HP := Lib.hid h
  have HB := Lib.hid hB
  have HT := Lib.hid ht
  have HPA := Lib.hid hpart
  have HG := Lib.hid hg
  have HC := Lib.hid hc
  clear h hB ht hpart hg hc hr g1 g2 hx
  have HCF := Lib.hid hcf
  have hcw := hcf w
  clear hcf
  go_enter Tryd.func98, Tryd.ntmps98
  go_wp2_with (with_reducible refine (K1.out _ HP.out).mono ?_; (rintro e w1 ⟨rfl, hp, hk⟩); have HP1 := Lib.hid hp; have HK1 := Lib.hid hk; clear hp hk)
  go_loopw [9] (fun v wr => ∃ (m : Nat) (s1 : PS) (x : Int), v = .int .i64 x ∧ leftE X.L part op signs m s1 x = some r ∧ PAt X F wr s1 ∧ Keeps X.B w wr ∧ In s1 x) (fun _ wr => X.n + 1 - atW X.pb wr)
  case atStart => exact ⟨m, _, _, rfl, HR.out, HP1.out, HK1.out, HI.out⟩
  case round =>
    obtain ⟨m', s2, x2, rfl, hl2, hp2, hk2, hi2⟩ := hrel
    have HP2 := Lib.hid hp2
    have HK2 := Lib.hid hk2
    have HI2 := Lib.hid hi2
    have HB2 := Lib.hid (hk2.own HB.out (fun _ _ => id) (by decide))
    have hat := hp2.atW
    clear hp2 hk2 hi2 hcw
    cases m' with
    | zero => cases hl2
    | succ m' =>
      unfold leftE at hl2
      simp only at hl2
      obtain ⟨⟨s3, t, b⟩, hA⟩ : ∃ a, anyP X.L signs s2 = a := ⟨_, rfl⟩
      rw [hA] at hl2
      obtain ⟨A2, c2', hBe, hBr, _⟩ := Own.rd HB2.out
      injection hBe with e1 e2 e3
      subst e1 e3
      have KA := Lib.hid (any_ret' hA HP2.out hBr hl HT.out)
      clear hBr
      cases b with
      | false =>
        simp only [if_true] at hl2
        obtain rfl := Option.some.inj hl2
        go_wp2_with (go_at_call 94; refine KA.out.mono ?_; rintro e w3 ⟨rfl, hp, hk⟩; have HP3 := Lib.hid hp; have HK3 := Lib.hid (HK2.out.trans hk); clear hp hk)
        go_ret
        have e3 : s3 = s2 := by
          rcases any_cases (L := X.L) (s := s2) signs with ⟨h, _⟩ | ⟨_, _, _, h⟩
          · rw [h] at hA; injection hA with hA; exact hA.symm
          · rw [h] at hA; injection hA with _ hA; injection hA with _ hA; cases hA
        exact ⟨rfl, e3 ▸ HP3.out, HK3.out⟩
      | true =>
        simp only [Bool.true_eq_false, if_false] at hl2
        split at hl2
        · cases hl2
        rename_i s4 y he
        have ga := any_any_gr (L := X.L) (s := s2) signs
        have gs := any_yes (L := X.L) (s := s2) (l := signs) (by rw [hA])
        rw [hA] at ga gs
        have gp := HG.out _ _ he
        have gl := leftE_gd HG.out op signs m' _ _ _ (add_in ..) hl2
        have gd := add_gr (L := X.L) (s := s4) op (placeOf s4 x2) (if op = 12 then t else ⟨#[]⟩) 0 [x2, y]
        have hcp := HC.out
        have l1 := gl.1.lenle
        have l2 := gd.lenle
        have KB := Lib.hid (HPA.out F s3 _ he (by simp only; omega))
        have HQ := Lib.hid (pair_rng ((HI2.out.mono ga).mono gp.1) gp.2 (by simp only; omega))
        have HL2 := Lib.hid hl2
        have hadv := any_adv (L := X.L) (s := s2) (l := signs) (by rw [hA])
        rw [hA] at hadv
        have HGS := Lib.hid (show s2.at_ + 1 ≤ s4.at_ from hadv ▸ gp.1.up)
        have HAI := Lib.hid (add_in (s := s4) op (placeOf s4 x2) (if op = 12 then t else ⟨#[]⟩) 0 [x2, y])
        have HCA : Hid ((addP s4 op (placeOf s4 x2) (if op = 12 then t else ⟨#[]⟩) 0 [x2, y]).1.ns.length ≤ 1099511627776) := Lib.hid (by omega)
        have HUP := Lib.hid gd.up
        have h0 := HP2.out.atW
        clear hl2 he ga gs gp gl gd hcp l1 l2 hA hadv
        by_cases hop : op = 12
        · subst hop
          simp only [if_true] at HCA HAI HL2 HUP
          go_wp2_with (first | (go_at_call 94; refine KA.out.mono ?_; rintro e w3 ⟨rfl, hp, hk⟩; have hcw := HCF.out w3; have HP3 := Lib.hid hp; have HK3 := Lib.hid (HK2.out.trans hk); clear hp hk) | (go_at_call 79; refine (add_any (s := s4) (HP4.out.bel_ (Below.alloc (Below.refl _ _) (Nat.le_refl _) _)) (Rd.ints _ [x2, y] _ 2 rfl rfl (by omega)) rfl (by omega) HQ.out 12 _ 0 t HCA.out).mono ?_; rintro e w5 ⟨rfl, hp, hk⟩; have HP5 := Lib.hid hp; have HK5 := Lib.hid (HK4.out.trans ((KeepE.of_below X.B (fun _ => False) (Below.alloc (Below.refl _ _) (Nat.le_refl _) _)).trans hk)); clear hp hk) | (with_reducible refine (KB.out _ HP3.out).mono ?_; (rintro e w4 ⟨rfl, hp, hk⟩); obtain ⟨hlk, hfd⟩ := hp.look (HQ.out x2 (by simp)); obtain ⟨c2, c4, c5, hlt⟩ := hp.cells; have HP4 := Lib.hid hp; have HK4 := Lib.hid (HK3.out.trans hk); clear hp hk))
          go_round
          case rel => exact ⟨m', _, _, rfl, HL2.out, HP5.out, HK5.out, HAI.out⟩
          case measure =>
            have h1 := HP5.out.atW
            have h2 := HGS.out
            have h4 := HUP.out
            have h5 := HP5.out.at_
            omega
        · have hop' : (op == 12) = false := by simpa using hop
          rw [if_neg hop] at HCA HAI HL2 HUP
          go_wp2_with (first | (go_at_call 94; refine KA.out.mono ?_; rintro e w3 ⟨rfl, hp, hk⟩; have hcw := HCF.out w3; have HP3 := Lib.hid hp; have HK3 := Lib.hid (HK2.out.trans hk); clear hp hk) | (go_at_call 79; refine (add_any (s := s4) (HP4.out.bel_ (Below.alloc (Below.refl _ _) (Nat.le_refl _) _)) (Rd.ints _ [x2, y] _ 2 rfl rfl (by omega)) rfl (by omega) HQ.out op _ 0 ⟨#[]⟩ HCA.out).mono ?_; rintro e w5 ⟨rfl, hp, hk⟩; have HP5 := Lib.hid hp; have HK5 := Lib.hid (HK4.out.trans ((KeepE.of_below X.B (fun _ => False) (Below.alloc (Below.refl _ _) (Nat.le_refl _) _)).trans hk)); clear hp hk) | (with_reducible refine (KB.out _ HP3.out).mono ?_; (rintro e w4 ⟨rfl, hp, hk⟩); obtain ⟨hlk, hfd⟩ := hp.look (HQ.out x2 (by simp)); obtain ⟨c2, c4, c5, hlt⟩ := hp.cells; have HP4 := Lib.hid hp; have HK4 := Lib.hid (HK3.out.trans hk); clear hp hk))
          go_round
          case rel => exact ⟨m', _, _, rfl, HL2.out, HP5.out, HK5.out, HAI.out⟩
          case measure =>
            have h1 := HP5.out.atW
            have h2 := HGS.out
            have h4 := HUP.out
            have h5 := HP5.out.at_
            omega
end Go.Proofs.YtjdcicopjipmnaaDoor
