/- VerifyPaths: the walk of the law. -/
import Derived.Test.YtgnejkmojfhfpaaLwa
import Derived.Test.YtgnejkmojfhfpaaKno
import Derived.Deep.RegionHeld3
import Derived.IntWalk
import Derived.Deep.QuietTactic
import Derived.BigQuiet
import Derived.StillTailTactics
namespace Go.Proofs.Ytgnejkmojfhfpaa
open Go.RowKit
set_option linter.unusedVariables false
set_option linter.unusedSimpArgs false
attribute [local go_sem] Oper.semAt_some

theorem rowp_cell {w : World} {A : Option Addr} {n c : Nat} {l : List Int} (h : Rd w A n c 1 (l.map (Value.int .i64))) {i : Nat} {v : Int} (hi : l[i]? = some v) (hl : l.length = n) :
    ∃ b o, A = some ⟨b, o, none⟩ ∧ b < w.heap.size ∧ w.cell? ⟨b, o + i, none⟩ = some (.int .i64 v) := by
  have hlt := (List.getElem?_eq_some_iff.1 hi).1
  obtain ⟨b, o, e, hb, hc⟩ := h.2.2.2 (by omega)
  exact ⟨b, o, e, hb, hc i _ (by rw [List.getElem?_map, hi]; rfl)⟩
/-- where a block is open, the stack is no lower -/
theorem look_top {T lv op a : Int} {i : Nat} {h : Int} {b : Int × Int} {r : List (Int × Int)} {ways : List (Int × St)} (hT : 0 ≤ T) (hl : lookE T lv op a i ⟨h, b :: r⟩ = some ways) : b.2 ≤ h := by
  unfold lookE at hl
  split at hl
  · cases hl
  rename_i hno
  rcases Int.lt_or_le (h - T) b.2 with h1 | h1
  · exact absurd (.inr (.inr (.inr ⟨b, by simp, h1⟩))) hno
  · omega
/-- where a walk through the code stands -/
structure AtP (sbx : Nat) (W : World) (st : List (Option St)) (t : Nat) (s : St) (Ab : Option Addr) (nb cb : Nat) : Prop where
  kn : st[t]? = some (some s)
  box : Blk W sbx 41 #[.int .i64 s.h, .slice Ab nb cb]
  bl : BlAt W Ab nb cb s.bl
  far : ∀ b o, Ab = some ⟨b, o, none⟩ → b ≠ sbx
theorem AtP.new {sbx : Nat} {W W' : World} {st : List (Option St)} {t : Nat} {s : St} {Ab : Option Addr} {nb cb : Nat} (h : AtP sbx W st t s Ab nb cb) (hb : Below W.heap.size W W') : AtP sbx W' st t s Ab nb cb :=
  ⟨h.kn, h.box.new' hb, h.bl.new hb, h.far⟩
theorem BlAt.farset {W : World} {A : Option Addr} {n c : Nat} {bl : List (Int × Int)} (h : BlAt W A n c bl) {p : Addr} (hp : ∀ b o, A = some ⟨b, o, none⟩ → b ≠ p.block) (v : Value) : BlAt (W.setCell p v) A n c bl :=
  BlAt.mod (S := fun b => b = p.block) h (Mod.setCell (S := fun b => b = p.block) (Mod.refl _ _) (fun _ => rfl) _) (fun b o e => hp b o e)
/-- the state is written anew -/
theorem AtP.put {sbx : Nat} {W : World} {st : List (Option St)} {t t' : Nat} {s s' : St} {Ab Ab' : Option Addr} {nb cb nb' cb' : Nat} (h : AtP sbx W st t s Ab nb cb) (hk : st[t']? = some (some s')) (hb : BlAt W Ab' nb' cb' s'.bl) (hf : ∀ b o, Ab' = some ⟨b, o, none⟩ → b ≠ sbx) :
    AtP sbx ((W.setCell ⟨sbx, 0, none⟩ (.int .i64 s'.h)).setCell ⟨sbx, 1, none⟩ (.slice Ab' nb' cb')) st t' s' Ab' nb' cb' :=
  ⟨hk, by simpa using (h.box.set_ 0 (.int .i64 s'.h)).set_ 1 (.slice Ab' nb' cb'), (hb.farset (p := ⟨sbx, 0, none⟩) hf _).farset (p := ⟨sbx, 1, none⟩) hf _, hf⟩
set_option maxRecDepth 100000 in
set_option maxHeartbeats 8000000 in
theorem law_paths {w : World} {A Ap : Option Addr} {n c m cp : Nat} {p : ProgD} {picks : List Int} (h : ProgAt w A n c p) (k : Int) (hpl : picks.length = m) (hpk : Rd w Ap m cp 1 (picks.map (Value.int .i64))) :
    Calls Try.prog 5 #[.slice A n c, .int .i64 k, .slice Ap m cp] w (LawR w) := by
  have hl := h.len
  have hmost := h.most
  have hm63 := hpk.le
  unfold Most at hmost
  have H := Lib.hid h
  have HLN := Lib.hid hl
  have HPL := Lib.hid hpl
  have HPK := Lib.hid hpk
  have KH := Lib.hid (heights_any h k)
  have KB : Hid (∀ w', Below w.heap.size w w' → Calls Try.prog 10 #[.slice A n c] w' fun e w2 => e = .returned (.bool (bigB p)) ∧ w' = w2) := Lib.hid fun w' hb => big_any (h.new hb)
  clear hpl hpk
  cases hb : bigB p with
  | true =>
    rw [hb] at KB
    generalize heightsE p k = r at *
    obtain ⟨r1, r2, r3⟩ := r
    clear hb h hl
    go_enter Try.func5, Try.ntmps5
    go_wp2_with (first | ((with_reducible refine KH.out.mono ?_); rintro e w1 ⟨hb1, Ar, nr, cr, rfl, -, -⟩; have HB1 := Lib.hid hb1; clear hb1) | ((with_reducible refine (KB.out _ HB1.out).mono ?_); rintro e w2 ⟨rfl, rfl⟩))
    refine (seen_any w1).mono ?_
    rintro e w3 ⟨rfl, hb3⟩
    have HB3 := Lib.hid (HB1.out.trans (hb3.mono HB1.out.size))
    clear hb3
    go_wp2_with fail
    go_ret
    exact ⟨rfl, HB3.out⟩
  | false =>
    rw [hb] at KB
    have hsm := small_of hb
    clear hb
    by_cases hm : 500 < m
    · have d0 : decide (500 < m) = true := decide_eq_true hm
      have d1 : decide ((500 : Int) < (m : Int)) = true := decide_eq_true (by omega)
      generalize heightsE p k = r at *
      obtain ⟨r1, r2, r3⟩ := r
      clear h hl hm hsm
      go_enter Try.func5, Try.ntmps5
      go_wp2_with (first | ((with_reducible refine KH.out.mono ?_); rintro e w1 ⟨hb1, Ar, nr, cr, rfl, -, -⟩; have HB1 := Lib.hid hb1; clear hb1) | ((with_reducible refine (KB.out _ HB1.out).mono ?_); rintro e w2 ⟨rfl, rfl⟩))
      refine (seen_any w1).mono ?_
      rintro e w3 ⟨rfl, hb3⟩
      have HB3 := Lib.hid (HB1.out.trans (hb3.mono HB1.out.size))
      clear hb3
      go_wp2_with fail
      go_ret
      exact ⟨rfl, HB3.out⟩
    have d0 : decide (500 < m) = false := decide_eq_false hm
    have d1 : decide ((500 : Int) < (m : Int)) = false := decide_eq_false (by omega)
    obtain ⟨⟨r1, r2, r3⟩, hr⟩ : ∃ r, r = heightsE p k := ⟨_, rfl⟩
    rw [← hr] at KH
    by_cases he : r2 = 0
    case neg =>
      have he1 : (r2 == 0) = false := by simpa using he
      have he2 : (r2 != 0) = true := by simpa using he
      clear h hl hm hsm hr he
      go_enter Try.func5, Try.ntmps5
      go_wp2_with (first | ((with_reducible refine KH.out.mono ?_); rintro e w1 ⟨hb1, Ar, nr, cr, rfl, -, -⟩; have HB1 := Lib.hid hb1; clear hb1) | ((with_reducible refine (KB.out _ HB1.out).mono ?_); rintro e w2 ⟨rfl, rfl⟩))
      refine (seen_any w1).mono ?_
      rintro e w3 ⟨rfl, hb3⟩
      have HB3 := Lib.hid (HB1.out.trans (hb3.mono HB1.out.size))
      clear hb3
      go_wp2_with fail
      go_ret
      exact ⟨rfl, HB3.out⟩
    case pos =>
      subst he
      have hk : ¬ (k < 0 ∨ (n : Int) ≤ k) := fun hk => by
        rw [heightsE_out (by rw [hl]; exact hk)] at hr
        cases hr
      obtain ⟨k, rfl⟩ := Int.eq_ofNat_of_zero_le (show 0 ≤ k by omega)
      have hkn : k < n := by omega
      have d2 : decide ((k : Int) < 0) = false := decide_eq_false (by omega)
      have d3 : decide ((n : Int) ≤ (k : Int)) = false := decide_eq_false (by omega)
      have d4 : decide (n ≤ k) = false := decide_eq_false (by omega)
      obtain ⟨x, hx⟩ : ∃ x, p[k]? = some x := ⟨_, List.getElem?_eq_getElem (by rw [hl]; exact hkn)⟩
      rw [heightsE_at hx] at hr
      have hxs := (hsm.2 x (List.mem_of_getElem? hx)).1
      obtain ⟨be, oe, cs, rfl, hbe, hca, hce⟩ := h.at_ hx
      obtain ⟨A1, n1, c1, A2, n2, c2, A3, n3, c3, A4, n4, c4, A5, n5, c5, A6, n6, c6, rfl, -, -, -, -, -, r6, -⟩ := hca.parts
      have R6 := Lib.hid r6
      have hl6 := r6.1
      have HL6 := Lib.hid hl6
      have hn6 : n6 ≤ 600 := by omega
      have HE10 : Hid (w.cell? ⟨be, oe + k * 11 + 10, none⟩ = some (.slice A6 n6 c6)) := Lib.hid (hce 10 _ rfl)
      obtain ⟨hk0, -⟩ := fixed_of hr.symm
      subst hk0
      obtain ⟨st, hst, hsmall⟩ := fixed_small hr.symm
      have hlen : r1.length = n6 := by rw [hst.heights, List.length_map, hst.len, HL6.out]
      have hpos : 0 < n6 := by have := hst.pos; have := HL6.out; omega
      have HST := Lib.hid hst
      have HSM : Hid (∀ (i : Nat) s, st[i]? = some (some s) → s.h < 1000000 ∧ s.bl.length ≤ 1000) := Lib.hid fun i s hi => by
        obtain ⟨h1, h3⟩ := hsmall i s hi
        have h2 := HL6.out
        omega
      have HLR := Lib.hid hlen
      have hm5 : m ≤ 500 := by omega
      clear hst hsmall hlen hr hca hce r6 hl6 hx h hl hk hsm hxs hm
      go_enter Try.func5, Try.ntmps5
      go_wp2_with (first | ((with_reducible refine KH.out.mono ?_); rintro e w1 ⟨hb1, Ar, nr, cr, rfl, hlr, hrd⟩; obtain rfl : n6 = nr := (by have := HLR.out; simp only at hlr; omega); have HRD := Lib.hid hrd; have HB1 := Lib.hid hb1; have e10 := (HB1.out.cell (p := ⟨be, oe + k * 11 + 10, none⟩) hbe).trans HE10.out; have hbe1 : be < w1.heap.size := (by have := HB1.out.size; omega); clear hb1 hlr hrd) | ((with_reducible refine (KB.out _ HB1.out).mono ?_); rintro e w2 ⟨rfl, rfl⟩))
      clear e10 hbe1
      go_loopw [10, 12] (fun u v wr => ∃ (t j : Nat) (s : St) (Ab : Option Addr) (nb cb : Nat), u = .int .i64 t ∧ v = .int .i64 j ∧ j ≤ m ∧ AtP w1.heap.size wr st t s Ab nb cb ∧ Below w1.heap.size w1 wr) (fun _ v _ => m - (intOf v).toNat)
      case atStart =>
        refine ⟨0, 0, ⟨0, []⟩, none, 0, 0, rfl, rfl, by omega, ⟨HST.out.first, Blk.new w1 41 _, ⟨rfl, Rd.nil_.2 (by omega)⟩, fun b o e => by cases e⟩, (by repeat (first | exact Below.refl _ _ | assumption | refine Below.setCell ?_ (by first | (simp; done) | (simp; omega) | omega) _ | refine below_drewN ?_ _ | refine Below.drew ?_ | refine Below.alloc ?_ (by first | (simp; done) | (simp; omega) | omega) _))⟩
      case round =>
        obtain ⟨t, j, s, Ab, nb, cb, rfl, rfl, hj, hat, hb⟩ := hrel
        have HAT := Lib.hid hat
        have HBr := Lib.hid hb
        have HBw := Lib.hid (HB1.out.trans (hb.mono HB1.out.size))
        have hzr := hb.size
        by_cases hlt : j < m
        · have hdj : decide (j < m) = true := decide_eq_true hlt
          obtain ⟨pk, hpk⟩ : ∃ v, picks[j]? = some v := ⟨_, List.getElem?_eq_getElem (by have := HPL.out; omega)⟩
          have htn : t < n6 := by have h8 := (List.getElem?_eq_some_iff.1 hat.kn).1; rw [HST.out.len, HL6.out] at h8; exact h8
          obtain ⟨⟨op, a⟩, hy⟩ : ∃ y, x.ins[t]? = some y := ⟨_, List.getElem?_eq_getElem (by have := HL6.out; omega)⟩
          obtain ⟨bi, oi, rfl, hbi, hci⟩ := R6.out.at_ (f := insCs) (m := 2) (fun _ => rfl) hy
          obtain ⟨y', ways, hy2, hwe, hcl⟩ := HST.out.closed t s hat.kn
          rw [hy] at hy2
          cases hy2
          obtain ⟨hlj, -⟩ := height_low HST.out hat.kn
          have hs0 := HST.out.low t s hat.kn
          obtain ⟨hs1, hs2⟩ := HSM.out t s hat.kn
          have hnb : nb ≤ 1000 := by rw [← hat.bl.len]; exact hs2
          have hxr := HST.out.right _ (List.mem_of_getElem? hy)
          obtain ⟨sh, sbl⟩ := s
          simp only [heightOf] at hlj hs0 hs1 hs2
          rw [← ways_same (i := t) (s := ⟨sh, sbl⟩) hxr hs0 (by unfold many; simp only; omega)] at hwe
          have HWE := Lib.hid hwe
          have HCL := Lib.hid hcl
          have HXR := Lib.hid hxr
          obtain ⟨lb, lo, rfl, hlb, hlc⟩ := rowp_cell HRD.out hlj HLR.out
          obtain ⟨pb, po, rfl, hpb, hpc⟩ := rowp_cell HPK.out hpk HPL.out
          have i0 : wr.cell? ⟨bi, oi + t * 2, none⟩ = some (.int .i64 op) := (HBw.out.cell (p := ⟨bi, oi + t * 2, none⟩) hbi).trans (hci 0 _ rfl)
          have i1 : wr.cell? ⟨bi, oi + t * 2 + 1, none⟩ = some (.int .i64 a) := (HBw.out.cell (p := ⟨bi, oi + t * 2 + 1, none⟩) hbi).trans (hci 1 _ rfl)
          have e10 := (HBw.out.cell (p := ⟨be, oe + k * 11 + 10, none⟩) hbe).trans HE10.out
          have lc : wr.cell? ⟨lb, lo + t, none⟩ = some (.int .i64 sh) := (HBr.out.cell (p := ⟨lb, lo + t, none⟩) hlb).trans hlc
          have pc : wr.cell? ⟨pb, po + j, none⟩ = some (.int .i64 pk) := (HBw.out.cell (p := ⟨pb, po + j, none⟩) hpb).trans hpc
          have z1 : bi < wr.heap.size := by have := HBw.out.size; omega
          have z2 : be < wr.heap.size := by have := HBw.out.size; omega
          have z3 : lb < wr.heap.size := by omega
          have z4 : pb < wr.heap.size := by have := HBw.out.size; omega
          have b0 : wr.cell? ⟨w1.heap.size, 0, none⟩ = some (.int .i64 sh) := hat.box.cell 0
          have b1 : wr.cell? ⟨w1.heap.size, 1, none⟩ = some (.slice Ab nb cb) := hat.box.cell 1
          have zb := hat.box.lt
          have g0 : decide (n6 ≤ t) = false := decide_eq_false (by omega)
          have g1 : decide ((n6 : Int) ≤ (t : Int)) = false := decide_eq_false (by omega)
          have HIN : Hid (j + 1 ≤ m) := Lib.hid (by omega)
          clear hy hci hat hb hlc hpc hwe hcl hxr hs2 hlj hpk
          go_wp2_with fail
          go_quiet (fail)
          generalize hWD : wr.drewN nq = wd
          have hbd : Below wr.heap.size wr wd := by rw [← hWD]; exact below_drewN (Below.refl _ _) _
          have i0 := (hbd.cell (p := ⟨bi, oi + t * 2, none⟩) z1).trans i0
          have i1 := (hbd.cell (p := ⟨bi, oi + t * 2 + 1, none⟩) z1).trans i1
          have e10 := (hbd.cell (p := ⟨be, oe + k * 11 + 10, none⟩) z2).trans e10
          have hbx : Below wr.heap.size wr (wd.alloc (.cells #[.int .i64 op, .int .i64 a] 43)) := hbd.trans (by have h8 : Below wd.heap.size wd (wd.alloc (.cells #[.int .i64 op, .int .i64 a] 43)) := (by repeat (first | exact Below.refl _ _ | assumption | refine Below.setCell ?_ (by first | (simp; done) | (simp; omega) | omega) _ | refine below_drewN ?_ _ | refine Below.drew ?_ | refine Below.alloc ?_ (by first | (simp; done) | (simp; omega) | omega) _)); exact h8.mono hbd.size)
          have HX := Lib.hid (HAT.out.new hbx)
          have b0 : wd.cell? ⟨w1.heap.size, 0, none⟩ = some (.int .i64 sh) := (hbd.cell (p := ⟨w1.heap.size, 0, none⟩) zb).trans b0
          have b1 : wd.cell? ⟨w1.heap.size, 1, none⟩ = some (.slice Ab nb cb) := (hbd.cell (p := ⟨w1.heap.size, 1, none⟩) zb).trans b1
          have y1 : bi < wd.heap.size := by have := hbd.size; omega
          have y2 : be < wd.heap.size := by have := hbd.size; omega
          have yb : w1.heap.size < wd.heap.size := by have := hbd.size; omega
          have HBX := Lib.hid hbx
          have KL := Lib.hid (look_ref (i := t) (H.out.new (HBw.out.trans (HBX.out.mono HBw.out.size))) HXR.out hs0 (by omega) (by omega) HX.out.bl (by omega))
          rw [HWE.out] at KL
          have PC := Lib.hid pc
          clear hWD hbd hbx pc lc
          obtain ⟨nw, hnw⟩ : ∃ nw, ways.length = nw := ⟨_, rfl⟩
          have HNL := Lib.hid hnw
          clear hnw
          have HYB := Lib.hid yb
          by_cases hc1 : 0 < nb ∧ pk < 0
          · have q3 : decide (0 < nb) = true := decide_eq_true hc1.1
            have q4 : decide ((0 : Int) < (nb : Int)) = true := decide_eq_true (by omega)
            have q5 : decide (pk < 0) = true := decide_eq_true hc1.2
            obtain ⟨mm, hmm⟩ : ∃ mm, nb = mm + 1 := ⟨nb - 1, by omega⟩
            obtain ⟨⟨ba, bh⟩, r, rfl⟩ : ∃ b r, sbl = b :: r := by
              cases sbl with
              | nil => have h8 := HAT.out.bl.len; simp at h8; omega
              | cons b r => exact ⟨b, r, rfl⟩
            have hbl2 : BlAt (wd.alloc (.cells #[.int .i64 op, .int .i64 a] 43)) Ab (mm + 1) cb ((ba, bh) :: r) := hmm ▸ HX.out.bl
            obtain ⟨ab, ao, rfl, hab, g0t, g1t⟩ := hbl2.top
            simp only at g0t g1t
            have HPOP := Lib.hid hbl2.pop
            obtain ⟨hba, hkn2⟩ := HST.out.blocks t _ HAT.out.kn (ba, bh) r rfl
            obtain ⟨t2, rfl⟩ := Int.eq_ofNat_of_zero_le hba
            have HKN := Lib.hid hkn2
            have hle : bh ≤ sh := by
              have h8 := HWE.out
              unfold waysR at h8
              exact look_top (takes_bound H.out HXR.out hs0 (by omega)).1.1 h8
            have hbs := HSM.out _ _ hkn2
            have hb0 := HST.out.low _ _ hkn2
            simp only at hbs hb0
            have q6 : decide (sh < bh) = false := decide_eq_false (by omega)
            have m0 : mm < nb := by omega
            have mc : mm ≤ cb := by have h8 := HAT.out.bl.2.1; omega
            have s6 : (nb : Int) - 1 = (mm : Int) := by omega
            have HMM := Lib.hid hmm
            have G0T := Lib.hid g0t
            have G1T := Lib.hid g1t
            clear hc1 hmm hbl2 hba hkn2 hle g0t g1t
            go_wp2_with ((with_reducible refine KL.out.mono ?_); rintro e w4 ⟨hb4, A4, n4w, c4w, rfl, hwy, hnw⟩; have HB4 := Lib.hid hb4; obtain rfl : n4w = nw := (by have h8 := hwy.len; have h9 := HNL.out; omega); have HWY := Lib.hid hwy; have HNW := Lib.hid hnw; have HA4 := Lib.hid (HX.out.new hb4); have HBF := Lib.hid (HBX.out.trans (hb4.mono HBX.out.size)); have b0 : w4.cell? ⟨w1.heap.size, 0, none⟩ = some (.int .i64 sh) := HA4.out.box.cell 0; have b1 : w4.cell? ⟨w1.heap.size, 1, none⟩ = some (.slice (some ⟨ab, ao, none⟩) nb cb) := HA4.out.box.cell 1; have zb4 := HA4.out.box.lt; have fz0 := HA4.out.box.frozen 0; have fz1 := HA4.out.box.frozen 1; have pc : w4.cell? ⟨pb, po + j, none⟩ = some (.int .i64 pk) := (HBF.out.cell (p := ⟨pb, po + j, none⟩) z4).trans PC.out; have zp4 : pb < w4.heap.size := (by have := HBF.out.size; omega); have y0 := (HB4.out.cell (p := ⟨ab, ao + mm * 2, none⟩) hab).trans G0T.out; have y1 := (HB4.out.cell (p := ⟨ab, ao + mm * 2 + 1, none⟩) hab).trans G1T.out; have yl : ab < w4.heap.size := (by have := HB4.out.size; omega); clear hb4 hwy hnw)
            generalize hW5 : w4.alloc (.cells #[.int .i64 (t2 : Int), .int .i64 bh] 48) = w5
            have hb5 : Below w4.heap.size w4 w5 := by rw [← hW5]; exact (by repeat (first | exact Below.refl _ _ | assumption | refine Below.setCell ?_ (by first | (simp; done) | (simp; omega) | omega) _ | refine below_drewN ?_ _ | refine Below.drew ?_ | refine Below.alloc ?_ (by first | (simp; done) | (simp; omega) | omega) _))
            have hx5 : Blk w5 w4.heap.size 48 #[.int .i64 (t2 : Int), .int .i64 bh] := by rw [← hW5]; exact Blk.new _ _ _
            have HB5 := Lib.hid hb5
            have x1 := hx5.cell 1
            have xl := hx5.lt
            simp only [List.getElem?_toArray, List.getElem?_cons_zero, List.getElem?_cons_succ] at x1
            have HA5 := Lib.hid (HA4.out.new hb5)
            have b0 : w5.cell? ⟨w1.heap.size, 0, none⟩ = some (.int .i64 sh) := HA5.out.box.cell 0
            have b1 : w5.cell? ⟨w1.heap.size, 1, none⟩ = some (.slice (some ⟨ab, ao, none⟩) nb cb) := HA5.out.box.cell 1
            have zb5 := HA5.out.box.lt
            have fz0 := HA5.out.box.frozen 0
            have fz1 := HA5.out.box.frozen 1
            have s7 : IntKind.i64.wrap (bh + 1) = bh + 1 := IntWalk.i64_in _ (by omega)
            have s9 : IntKind.i64.wrap (mm : Int) = (mm : Int) := IntWalk.i64_in _ (by omega)
            clear hb5 hW5 hx5 y0 y1
            go_still_tail 9, (by kernel_rfl)
            change wpList _ _ _ _ _ w5.drew
            clear b0 b1 fz0 fz1 zb5 x1 xl s7 s9 s6
            generalize hW6 : w5.drew = w6
            have hb6 : Below w5.heap.size w5 w6 := by rw [← hW6]; exact (by repeat (first | exact Below.refl _ _ | assumption | refine Below.setCell ?_ (by first | (simp; done) | (simp; omega) | omega) _ | refine below_drewN ?_ _ | refine Below.drew ?_ | refine Below.alloc ?_ (by first | (simp; done) | (simp; omega) | omega) _))
            have HA6 := Lib.hid (HA5.out.new hb6)
            have HPO6 := Lib.hid (((HPOP.out.new HB4.out).new HB5.out).new hb6)
            have HB6 := Lib.hid (HBF.out.trans ((HB5.out.trans (hb6.mono HB5.out.size)).mono HBF.out.size))
            have b0 : w6.cell? ⟨w1.heap.size, 0, none⟩ = some (.int .i64 sh) := HA6.out.box.cell 0
            have b1 : w6.cell? ⟨w1.heap.size, 1, none⟩ = some (.slice (some ⟨ab, ao, none⟩) nb cb) := HA6.out.box.cell 1
            have zb6 := HA6.out.box.lt
            have fz0 := HA6.out.box.frozen 0
            have fz1 := HA6.out.box.frozen 1
            clear hb6 hW6
            go_wp2_with fail
            go_roundw
            case rel => exact ⟨t2, j + 1, ⟨bh + 1, r⟩, some ⟨ab, ao, none⟩, mm, cb, by go_num, by go_num, HIN.out, HA6.out.put HKN.out HPO6.out HAT.out.far, ((HBr.out.trans (HB6.out.mono HBr.out.size)).setCell (Nat.le_refl _) _).setCell (Nat.le_refl _) _⟩
            case measure => simp [intOf]; omega
          by_cases hnw0 : nw = 0
          · subst hnw0
            by_cases hnb0 : 0 < nb
            · have q3 : decide (0 < nb) = true := decide_eq_true hnb0
              have q4 : decide ((0 : Int) < (nb : Int)) = true := decide_eq_true (by omega)
              have q5 : decide (pk < 0) = false := decide_eq_false (by omega)
              clear hc1
              go_wp2_with ((with_reducible refine KL.out.mono ?_); rintro e w4 ⟨hb4, A4, n4w, c4w, rfl, hwy, hnw⟩; have HB4 := Lib.hid hb4; obtain rfl : n4w = 0 := (by have h8 := hwy.len; have h9 := HNL.out; omega); have HWY := Lib.hid hwy; have HNW := Lib.hid hnw; have HA4 := Lib.hid (HX.out.new hb4); have HBF := Lib.hid (HBX.out.trans (hb4.mono HBX.out.size)); have b0 : w4.cell? ⟨w1.heap.size, 0, none⟩ = some (.int .i64 sh) := HA4.out.box.cell 0; have b1 : w4.cell? ⟨w1.heap.size, 1, none⟩ = some (.slice Ab nb cb) := HA4.out.box.cell 1; have zb4 := HA4.out.box.lt; have fz0 := HA4.out.box.frozen 0; have fz1 := HA4.out.box.frozen 1; have pc : w4.cell? ⟨pb, po + j, none⟩ = some (.int .i64 pk) := (HBF.out.cell (p := ⟨pb, po + j, none⟩) z4).trans PC.out; have zp4 : pb < w4.heap.size := (by have := HBF.out.size; omega); clear hb4 hwy hnw)
              refine (seen_any w4).mono ?_
              rintro e w5 ⟨rfl, hb5⟩
              have HB5 := Lib.hid (HBw.out.trans ((HBF.out.trans (hb5.mono HBF.out.size)).mono HBw.out.size))
              clear hb5
              go_wp2_with fail
              go_ret
              exact ⟨rfl, HB5.out⟩
            · obtain rfl : nb = 0 := by omega
              clear hc1 hnb0
              go_wp2_with ((with_reducible refine KL.out.mono ?_); rintro e w4 ⟨hb4, A4, n4w, c4w, rfl, hwy, hnw⟩; have HB4 := Lib.hid hb4; obtain rfl : n4w = 0 := (by have h8 := hwy.len; have h9 := HNL.out; omega); have HWY := Lib.hid hwy; have HNW := Lib.hid hnw; have HA4 := Lib.hid (HX.out.new hb4); have HBF := Lib.hid (HBX.out.trans (hb4.mono HBX.out.size)); have b0 : w4.cell? ⟨w1.heap.size, 0, none⟩ = some (.int .i64 sh) := HA4.out.box.cell 0; have b1 : w4.cell? ⟨w1.heap.size, 1, none⟩ = some (.slice Ab 0 cb) := HA4.out.box.cell 1; have zb4 := HA4.out.box.lt; have fz0 := HA4.out.box.frozen 0; have fz1 := HA4.out.box.frozen 1; have pc : w4.cell? ⟨pb, po + j, none⟩ = some (.int .i64 pk) := (HBF.out.cell (p := ⟨pb, po + j, none⟩) z4).trans PC.out; have zp4 : pb < w4.heap.size := (by have := HBF.out.size; omega); clear hb4 hwy hnw)
              refine (seen_any w4).mono ?_
              rintro e w5 ⟨rfl, hb5⟩
              have HB5 := Lib.hid (HBw.out.trans ((HBF.out.trans (hb5.mono HBF.out.size)).mono HBw.out.size))
              clear hb5
              go_wp2_with fail
              go_ret
              exact ⟨rfl, HB5.out⟩
          have hnwp : 0 < nw := by omega
          have q0 : ((nw : Int) == 0) = false := by simp; omega
          have q1 : ¬ ((nw : Int) = 0) := by omega
          by_cases hpk0 : 0 ≤ pk
          · obtain ⟨qk, rfl⟩ := Int.eq_ofNat_of_zero_le hpk0
            have q2 : decide ((qk : Int) < 0) = false := decide_eq_false (by omega)
            obtain ⟨kk, hkk, hkq⟩ : ∃ kk : Nat, kk < nw ∧ (qk : Int) % (nw : Int) = (kk : Int) := ⟨qk % nw, Nat.mod_lt qk hnwp, by rw [Int.natCast_emod]⟩
            have q6 : decide ((kk : Int) < 0) = false := decide_eq_false (by omega)
            obtain ⟨⟨to, zh, zl⟩, hq⟩ : ∃ q, ways[kk]? = some q := ⟨_, List.getElem?_eq_getElem (by rw [HNL.out]; exact hkk)⟩
            obtain ⟨h1, h2, h3⟩ := HCL.out _ (List.mem_of_getElem? hq)
            obtain ⟨t2, rfl⟩ := Int.eq_ofNat_of_zero_le h1
            have HKN := Lib.hid h3
            have HQ := Lib.hid hq
            clear hq h1 h2 h3
            by_cases hnb0 : 0 < nb
            · have q3 : decide (0 < nb) = true := decide_eq_true hnb0
              have q4 : decide ((0 : Int) < (nb : Int)) = true := decide_eq_true (by omega)
              clear hc1 hnw0 hpk0
              go_wp2_with ((with_reducible refine KL.out.mono ?_); rintro e w4 ⟨hb4, A4, n4w, c4w, rfl, hwy, hnw⟩; have HB4 := Lib.hid hb4; obtain rfl : n4w = nw := (by have h8 := hwy.len; have h9 := HNL.out; omega); have HWY := Lib.hid hwy; have HNW := Lib.hid hnw; have HA4 := Lib.hid (HX.out.new hb4); have HBF := Lib.hid (HBX.out.trans (hb4.mono HBX.out.size)); have b0 : w4.cell? ⟨w1.heap.size, 0, none⟩ = some (.int .i64 sh) := HA4.out.box.cell 0; have b1 : w4.cell? ⟨w1.heap.size, 1, none⟩ = some (.slice Ab nb cb) := HA4.out.box.cell 1; have zb4 := HA4.out.box.lt; have fz0 := HA4.out.box.frozen 0; have fz1 := HA4.out.box.frozen 1; have pc : w4.cell? ⟨pb, po + j, none⟩ = some (.int .i64 (qk : Int)) := (HBF.out.cell (p := ⟨pb, po + j, none⟩) z4).trans PC.out; have zp4 : pb < w4.heap.size := (by have := HBF.out.size; omega); obtain ⟨wb, wo, A1w, n1w, c1w, rfl, hwb, v0, v1, v2, v3, v4⟩ := HWY.out.at_ HQ.out; have V3 := Lib.hid v3; have V4 := Lib.hid v4; clear v3 v4; clear hb4 hwy hnw)
              go_wp2_with fail
              go_roundw
              case rel =>
                exact ⟨t2, j + 1, ⟨zh, zl⟩, A1w, n1w, c1w, by go_num, by go_num, HIN.out, HA4.out.put HKN.out V3.out (fun b o e => by
                  rcases V4.out b o e with h8 | ⟨o', h8⟩
                  · have h9 := HYB.out
                    simp at h8
                    omega
                  · exact HAT.out.far b o' h8), ((HBr.out.trans (HBF.out.mono HBr.out.size)).setCell (Nat.le_refl _) _).setCell (Nat.le_refl _) _⟩
              case measure => simp [intOf]; omega
            · obtain rfl : nb = 0 := by omega
              clear hc1 hnw0 hpk0 hnb0
              go_wp2_with ((with_reducible refine KL.out.mono ?_); rintro e w4 ⟨hb4, A4, n4w, c4w, rfl, hwy, hnw⟩; have HB4 := Lib.hid hb4; obtain rfl : n4w = nw := (by have h8 := hwy.len; have h9 := HNL.out; omega); have HWY := Lib.hid hwy; have HNW := Lib.hid hnw; have HA4 := Lib.hid (HX.out.new hb4); have HBF := Lib.hid (HBX.out.trans (hb4.mono HBX.out.size)); have b0 : w4.cell? ⟨w1.heap.size, 0, none⟩ = some (.int .i64 sh) := HA4.out.box.cell 0; have b1 : w4.cell? ⟨w1.heap.size, 1, none⟩ = some (.slice Ab 0 cb) := HA4.out.box.cell 1; have zb4 := HA4.out.box.lt; have fz0 := HA4.out.box.frozen 0; have fz1 := HA4.out.box.frozen 1; have pc : w4.cell? ⟨pb, po + j, none⟩ = some (.int .i64 (qk : Int)) := (HBF.out.cell (p := ⟨pb, po + j, none⟩) z4).trans PC.out; have zp4 : pb < w4.heap.size := (by have := HBF.out.size; omega); obtain ⟨wb, wo, A1w, n1w, c1w, rfl, hwb, v0, v1, v2, v3, v4⟩ := HWY.out.at_ HQ.out; have V3 := Lib.hid v3; have V4 := Lib.hid v4; clear v3 v4; clear hb4 hwy hnw)
              go_wp2_with fail
              go_roundw
              case rel =>
                exact ⟨t2, j + 1, ⟨zh, zl⟩, A1w, n1w, c1w, by go_num, by go_num, HIN.out, HA4.out.put HKN.out V3.out (fun b o e => by
                  rcases V4.out b o e with h8 | ⟨o', h8⟩
                  · have h9 := HYB.out
                    simp at h8
                    omega
                  · exact HAT.out.far b o' h8), ((HBr.out.trans (HBF.out.mono HBr.out.size)).setCell (Nat.le_refl _) _).setCell (Nat.le_refl _) _⟩
              case measure => simp [intOf]; omega
          · obtain rfl : nb = 0 := by omega
            have q2 : decide (pk < 0) = true := decide_eq_true (by omega)
            clear hc1 hnw0
            obtain ⟨kk, hkk⟩ : ∃ kk : Nat, kk = 0 := ⟨0, rfl⟩
            subst hkk
            have hkk : 0 < nw := hnwp
            obtain ⟨⟨to, zh, zl⟩, hq⟩ : ∃ q, ways[0]? = some q := ⟨_, List.getElem?_eq_getElem (by rw [HNL.out]; exact hkk)⟩
            obtain ⟨h1, h2, h3⟩ := HCL.out _ (List.mem_of_getElem? hq)
            obtain ⟨t2, rfl⟩ := Int.eq_ofNat_of_zero_le h1
            have HKN := Lib.hid h3
            have HQ := Lib.hid hq
            clear hq h1 h2 h3
            have htm : Int.tmod pk (nw : Int) ≤ 0 := by
              obtain ⟨a9, ha9⟩ : ∃ a9 : Int, pk = -a9 ∧ 0 ≤ a9 := ⟨-pk, by omega, by omega⟩
              rw [ha9.1, Int.neg_tmod, Int.tmod_eq_emod_of_nonneg ha9.2]
              have := Int.emod_nonneg a9 (show (nw : Int) ≠ 0 by omega)
              omega
            by_cases hneg : Int.tmod pk (nw : Int) < 0
            · have q6 : decide (Int.tmod pk (nw : Int) < 0) = true := decide_eq_true hneg
              clear htm hneg
              go_wp2_with ((with_reducible refine KL.out.mono ?_); rintro e w4 ⟨hb4, A4, n4w, c4w, rfl, hwy, hnw⟩; have HB4 := Lib.hid hb4; obtain rfl : n4w = nw := (by have h8 := hwy.len; have h9 := HNL.out; omega); have HWY := Lib.hid hwy; have HNW := Lib.hid hnw; have HA4 := Lib.hid (HX.out.new hb4); have HBF := Lib.hid (HBX.out.trans (hb4.mono HBX.out.size)); have b0 : w4.cell? ⟨w1.heap.size, 0, none⟩ = some (.int .i64 sh) := HA4.out.box.cell 0; have b1 : w4.cell? ⟨w1.heap.size, 1, none⟩ = some (.slice Ab 0 cb) := HA4.out.box.cell 1; have zb4 := HA4.out.box.lt; have fz0 := HA4.out.box.frozen 0; have fz1 := HA4.out.box.frozen 1; have pc : w4.cell? ⟨pb, po + j, none⟩ = some (.int .i64 pk) := (HBF.out.cell (p := ⟨pb, po + j, none⟩) z4).trans PC.out; have zp4 : pb < w4.heap.size := (by have := HBF.out.size; omega); obtain ⟨wb, wo, A1w, n1w, c1w, rfl, hwb, v0, v1, v2, v3, v4⟩ := HWY.out.at_ HQ.out; rw [Nat.zero_mul, Nat.add_zero] at v0 v1 v2; have V3 := Lib.hid v3; have V4 := Lib.hid v4; clear v3 v4; clear hb4 hwy hnw)
              go_wp2_with fail
              go_roundw
              case rel =>
                exact ⟨t2, j + 1, ⟨zh, zl⟩, A1w, n1w, c1w, by go_num, by go_num, HIN.out, HA4.out.put HKN.out V3.out (fun b o e => by
                  rcases V4.out b o e with h8 | ⟨o', h8⟩
                  · have h9 := HYB.out
                    simp at h8
                    omega
                  · exact HAT.out.far b o' h8), ((HBr.out.trans (HBF.out.mono HBr.out.size)).setCell (Nat.le_refl _) _).setCell (Nat.le_refl _) _⟩
              case measure => simp [intOf]; omega
            · have hz0 : Int.tmod pk (nw : Int) = 0 := by omega
              clear htm hneg
              go_wp2_with ((with_reducible refine KL.out.mono ?_); rintro e w4 ⟨hb4, A4, n4w, c4w, rfl, hwy, hnw⟩; have HB4 := Lib.hid hb4; obtain rfl : n4w = nw := (by have h8 := hwy.len; have h9 := HNL.out; omega); have HWY := Lib.hid hwy; have HNW := Lib.hid hnw; have HA4 := Lib.hid (HX.out.new hb4); have HBF := Lib.hid (HBX.out.trans (hb4.mono HBX.out.size)); have b0 : w4.cell? ⟨w1.heap.size, 0, none⟩ = some (.int .i64 sh) := HA4.out.box.cell 0; have b1 : w4.cell? ⟨w1.heap.size, 1, none⟩ = some (.slice Ab 0 cb) := HA4.out.box.cell 1; have zb4 := HA4.out.box.lt; have fz0 := HA4.out.box.frozen 0; have fz1 := HA4.out.box.frozen 1; have pc : w4.cell? ⟨pb, po + j, none⟩ = some (.int .i64 pk) := (HBF.out.cell (p := ⟨pb, po + j, none⟩) z4).trans PC.out; have zp4 : pb < w4.heap.size := (by have := HBF.out.size; omega); obtain ⟨wb, wo, A1w, n1w, c1w, rfl, hwb, v0, v1, v2, v3, v4⟩ := HWY.out.at_ HQ.out; rw [Nat.zero_mul, Nat.add_zero] at v0 v1 v2; have V3 := Lib.hid v3; have V4 := Lib.hid v4; clear v3 v4; clear hb4 hwy hnw)
              go_wp2_with fail
              go_roundw
              case rel =>
                exact ⟨t2, j + 1, ⟨zh, zl⟩, A1w, n1w, c1w, by go_num, by go_num, HIN.out, HA4.out.put HKN.out V3.out (fun b o e => by
                  rcases V4.out b o e with h8 | ⟨o', h8⟩
                  · have h9 := HYB.out
                    simp at h8
                    omega
                  · exact HAT.out.far b o' h8), ((HBr.out.trans (HBF.out.mono HBr.out.size)).setCell (Nat.le_refl _) _).setCell (Nat.le_refl _) _⟩
              case measure => simp [intOf]; omega
        · obtain rfl : j = m := by omega
          go_wp2_with fail
          refine (seen_any wr).mono ?_
          rintro e w4 ⟨rfl, hb4⟩
          have HB4 := Lib.hid (HBw.out.trans (hb4.mono HBw.out.size))
          clear hb4
          go_wp2_with fail
          go_ret
          exact ⟨rfl, HB4.out⟩
end Go.Proofs.Ytgnejkmojfhfpaa
