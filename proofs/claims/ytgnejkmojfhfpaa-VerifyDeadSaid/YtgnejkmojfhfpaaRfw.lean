/- The reference's flow: the walk. -/
import Derived.Test.YtgnejkmojfhfpaaRft
import Derived.Deep.LoopGhost
import Derived.Deep.RegionHeld3
namespace Go.Proofs.Ytgnejkmojfhfpaa
open Go.RowKit
set_option linter.unusedVariables false
set_option linter.unusedSimpArgs false
attribute [local go_sem] Oper.semAt_some

theorem flow_telE {p : ProgD} {c : CodeD} (hr : AllRight p c) (hn : 0 < c.ins.length) {e : Int} {i : Nat} (h : runE p c.ins (startF c.ins.length) = .inr (e, i)) : flowE p c.ins = ([], e, (i : Int)) := by
  rw [flow_run hr hn, h]
theorem flow_telK {p : ProgD} {c : CodeD} (hr : AllRight p c) (hn : 0 < c.ins.length) {st : List (Option St)} (h : runE p c.ins (startF c.ins.length) = .inl st) : flowE p c.ins = (st.map heightOf, 0, 0) := by
  rw [flow_run hr hn, h]
theorem WaysR.at_ {w0 W : World} {Ab A : Option Addr} {n c : Nat} {ways : List (Int × St)} (h : WaysR w0 Ab W A n c ways) {j : Nat} {q : Int × St} (hq : ways[j]? = some q) :
    ∃ b o A1 n1 c1, A = some ⟨b, o, none⟩ ∧ b < W.heap.size ∧ W.cell? ⟨b, o + j * 3, none⟩ = some (.int .i64 q.1) ∧ W.cell? ⟨b, o + j * 3 + 1, none⟩ = some (.int .i64 q.2.h) ∧ W.cell? ⟨b, o + j * 3 + 2, none⟩ = some (.slice A1 n1 c1) ∧
      BlAt W A1 n1 c1 q.2.bl ∧ ∀ b o, A1 = some ⟨b, o, none⟩ → w0.heap.size ≤ b ∨ ∃ o', Ab = some ⟨b, o', none⟩ := by
  obtain ⟨h1, css, h2, h3, h4, _, _, _, h5⟩ := h
  have hj : j < n := by rw [← h1]; exact (List.getElem?_eq_some_iff.1 hq).1
  obtain ⟨b, o, rfl, hb, hc⟩ := h5 (by omega)
  have hcs : css[j]? = some css[j] := List.getElem?_eq_getElem (by omega)
  obtain ⟨A1, n1, c1, e, h6, h7⟩ := h4 j q _ hq hcs
  have hat : ∀ i u, (css[j])[i]? = some u → W.cell? ⟨b, o + (j * 3 + i), none⟩ = some u := fun i u hu => hc _ _ (flat_at css j i _ u h3 hcs hu)
  exact ⟨b, o, A1, n1, c1, rfl, hb, hat 0 _ (by rw [e]; rfl), hat 1 _ (by rw [e]; rfl), hat 2 _ (by rw [e]; rfl), h6, h7⟩
theorem WaysR.set_ {w0 W : World} {Ab A : Option Addr} {n c : Nat} {ways : List (Int × St)} (h : WaysR w0 Ab W A n c ways) {p : Addr} (hA : ∀ b o, A = some ⟨b, o, none⟩ → b ≠ p.block) (hp : p.block < w0.heap.size) (hAb : ∀ b o, Ab = some ⟨b, o, none⟩ → b ≠ p.block) (v : Value) : WaysR w0 Ab (W.setCell p v) A n c ways := by
  obtain ⟨h1, css, h2, h3, h4, h5⟩ := h
  refine ⟨h1, css, h2, h3, fun j q cs hq hc => ?_, h5.keep (by simp [World.setCell]) fun b o e hlt => Below.heap_setCell _ _ _ _ (hA b o e)⟩
  obtain ⟨A1, n1, c1, e, h6, h7⟩ := h4 j q cs hq hc
  refine ⟨A1, n1, c1, e, h6.set_ (fun b o e => ?_) v, h7⟩
  rcases h7 b o e with h8 | ⟨o', h8⟩
  · omega
  · exact hAb b o' h8
theorem own_new {v v2 : Value} {wq wr : World} {cs : Array Value} (h : ∀ b, v.ownBlock = some b → wq.heap.size ≤ b) (hs : wq.heap.size ≤ wr.heap.size) (ha : v2.ownBlock = v.ownBlock ∨ v2.ownBlock = some (wr.alloc (.cells cs 3)).heap.size) : ∀ b, v2.ownBlock = some b → wq.heap.size ≤ b := by
  intro b e
  rcases ha with h1 | h1
  · exact h b (h1 ▸ e)
  · rw [h1] at e
    simp at e
    omega
theorem grown_below {v : Value} {wq wr w2 : World} {cs : Array Value} (hb : Below wq.heap.size wq wr) (h : ∀ b, v.ownBlock = some b → wq.heap.size ≤ b) (hg : (wr.alloc (.cells cs 3)).grownBy w2 v.ownBlock) : Below wq.heap.size wq w2 := by
  have h1 : Mod (fun i => wq.heap.size ≤ i) wq w2 := ((Mod.of_below hb (fun i _ h => h)).alloc _).grown hg (fun k e _ => h k e)
  exact h1.below (Nat.le_refl _) (fun i hi h => absurd h (by omega))
set_option maxRecDepth 100000 in
set_option maxHeartbeats 8000000 in
theorem flow_ref {w : World} {A : Option Addr} {n c : Nat} {p : ProgD} {x : CodeD} {cs : List Value} (hp : ProgAt w A n c p) (hc : CodeAt w x cs) (hr : AllRight p x) (hN : x.ins.length ≤ 600) :
    Calls Try.prog 29 #[.slice A n c, .agg cs.toArray] w (HtR w (flowE p x.ins)) := by
  obtain ⟨A1, n1, c1, A2, n2, c2, A3, n3, c3, A4, n4, c4, A5, n5, c5, A6, n6, c6, rfl, -, -, -, -, -, r6, -⟩ := hc.parts
  have R6 := Lib.hid r6
  have hl6 := r6.1
  have HL6 := Lib.hid hl6
  have hn6 : n6 ≤ 600 := by omega
  have HP := Lib.hid hp
  have HR := Lib.hid hr
  have m0 := make_B n6 (by omega)
  have m1 := make_S n6 (by omega)
  clear r6 hl6 hc hp hr hN
  by_cases h0 : n6 = 0
  · subst h0
    have HE : Hid (flowE p x.ins = ([], 51, 0)) := Lib.hid (by unfold flowE; rw [if_pos HL6.out])
    rw [HE.out]
    have m2 : ∀ w, (Instr.makeSlice 64 (.int .i64 0) (.int .i64 0)).run Try.prog w = .ok (.slice (some ⟨w.heap.size, 0, none⟩) 0 0) (w.alloc (.cells #[] 4)) := fun w => make_B 0 (by omega) w
    have m3 : ∀ w, (Instr.makeSlice 100 (.int .i64 0) (.int .i64 0)).run Try.prog w = .ok (.slice (some ⟨w.heap.size, 0, none⟩) 0 0) (w.alloc (.cells #[] 41)) := fun w => make_S 0 (by omega) w
    clear HE R6 HL6 HP HR m0 m1
    go_enter Try.func29, Try.ntmps29
    go_wp2_with fail
    exact bodyPost_ret (v := .tuple #[.slice none 0 0, .int .i64 51, .int .i64 0]) (by simp [results, Try.results29, go_sem]) rfl (HtR.bad (by exact (by repeat (first | exact Below.refl _ _ | assumption | refine Below.setCell ?_ (by first | (simp; done) | (simp; omega) | omega) _ | refine below_drewN ?_ _ | refine Below.drew ?_ | refine Below.alloc ?_ (by first | (simp; done) | (simp; omega) | omega) _))) 51 0)
  · have hpos : 0 < n6 := by omega
    have hne : ((n6 : Int) == 0) = false := by simp; omega
    obtain ⟨kb, hkb⟩ : ∃ kb, kb = w.heap.size + 1 := ⟨_, rfl⟩
    obtain ⟨db, hdb⟩ : ∃ db, db = w.heap.size + 1 + 1 := ⟨_, rfl⟩
    obtain ⟨sb, hsb⟩ : ∃ sb, sb = w.heap.size + 1 + 1 + 1 := ⟨_, rfl⟩
    obtain ⟨WB, hWB⟩ : ∃ WB, WB = w.alloc (.cells #[.string x.name, .int .i64 x.kind, .int .i64 x.params, .int .i64 x.defaults, .bool x.gen, .slice A1 n1 c1, .slice A2 n2 c2, .slice A3 n3 c3, .slice A4 n4 c4, .slice A5 n5 c5, .slice A6 n6 c6] 38) := ⟨_, rfl⟩
    have HBX : Hid (Blk WB w.heap.size 38 #[.string x.name, .int .i64 x.kind, .int .i64 x.params, .int .i64 x.defaults, .bool x.gen, .slice A1 n1 c1, .slice A2 n2 c2, .slice A3 n3 c3, .slice A4 n4 c4, .slice A5 n5 c5, .slice A6 n6 c6]) := Lib.hid (by rw [hWB]; exact Blk.new w 38 _)
    have HBW : Hid (Below w.heap.size w WB) := Lib.hid (by rw [hWB]; exact (by repeat (first | exact Below.refl _ _ | assumption | refine Below.setCell ?_ (by first | (simp; done) | (simp; omega) | omega) _ | refine below_drewN ?_ _ | refine Below.drew ?_ | refine Below.alloc ?_ (by first | (simp; done) | (simp; omega) | omega) _)))
    have hz : WB.heap.size = w.heap.size + 1 := by rw [hWB]; simp
    have HST := Lib.hid (rstart WB n6 hpos)
    rw [hz, ← hsb, ← hdb, ← hkb] at HST
    have HWB := Lib.hid hWB
    have HZ : Hid (WB.heap.size = w.heap.size + 1) := Lib.hid hz
    obtain ⟨g0, k0, -⟩ := start_good p x.ins (by have := HL6.out; omega)
    have G0 := Lib.hid g0
    have U0 := Lib.hid (start_undone (p := p) (ins := x.ins))
    rw [HL6.out] at G0 U0
    have HK := Lib.hid (And.intro hkb (And.intro hdb hsb))
    clear h0 hWB hz g0 k0 hkb hdb hsb
    go_enter Try.func29, Try.ntmps29
    go_wp2_with fail
    rw [← HK.out.2.2, ← HK.out.2.1, ← HK.out.1, ← HWB.out]
    clear m0 m1
    go_loopg [11] ((n6 + 1) * (n6 + 1)) (fun k v W => ∃ i : Nat, v = .int .i64 i ∧ i ≤ n6 ∧ FlowI WB n6 sb kb db p x.ins W i k)
    case atStart =>
      refine ⟨0, rfl, by omega, startF n6, _, _, _, 0, HST.out, G0.out, start_deep n6, by have := U0.out; omega, fun j hj => by omega, ?_, rfl⟩
      have h1 := Nat.mul_le_mul_right (n6 + 1) U0.out
      have h2 : (n6 + 1) * (n6 + 1) = n6 * (n6 + 1) + (n6 + 1) := Nat.succ_mul _ _
      omega
    case round =>
      obtain ⟨i, rfl, hi, f, kn, dn, ss, q, hrf, hgood, hdeep, hqu, hshut, hmeas, hrun⟩ := hrel
      have RF := Lib.hid hrf
      have GD := Lib.hid hgood
      have DP := Lib.hid hdeep
      have QU := Lib.hid hqu
      have SH := Lib.hid hshut
      have ME := Lib.hid hmeas
      have RU := Lib.hid hrun
      clear hrf hgood hdeep hqu hshut hmeas hrun HST G0 U0
      by_cases hlt : i < n6
      · have hdi : decide (i < n6) = true := decide_eq_true hlt
        obtain ⟨op0, b, d, pp, qs, e1, e2, e3, e4, e5, e6, y1, y2, y3, y4⟩ := RF.out.get hlt
        have l1 := RF.out.kn_.lt
        have l2 := RF.out.dn_.lt
        have l3 := RF.out.ss_.lt
        have E1 := Lib.hid e1
        have E4 := Lib.hid e4
        clear e1 e2 e3 e4 e5
        cases pp with
        | false =>
          have HN1 : Hid (∀ j : Nat, j < i + 1 → f.op[j]? ≠ some true) := Lib.hid fun j hj => by
            by_cases e : j = i
            · rw [e, E4.out]; decide
            · exact SH.out j (by omega)
          have HM1 : Hid (undone f * (n6 + 1) + (n6 - (i + 1)) < gk - 1) := Lib.hid (by have := ME.out; omega)
          have HG1 : Hid (gk - 1 < gk) := Lib.hid (by have := ME.out; omega)
          cases op0 with
          | none =>
            obtain ⟨rfl, rfl, -⟩ := e6
            clear y3 y4
            go_wp2_with fail
            go_roundg (gk - 1)
            case measure => exact HG1.out
            case rel => exact ⟨i + 1, by go_num, by omega, f, kn, dn, ss, q, RF.out, GD.out, DP.out, QU.out, HN1.out, HM1.out, RU.out⟩
          | some s =>
            obtain ⟨rfl, hd, -⟩ := e6
            obtain rfl : d = true := by
              cases d with
              | true => rfl
              | false => exact absurd hd (by decide)
            clear y3 y4 hd
            go_wp2_with fail
            go_roundg (gk - 1)
            case measure => exact HG1.out
            case rel => exact ⟨i + 1, by go_num, by omega, f, kn, dn, ss, q, RF.out, GD.out, DP.out, QU.out, HN1.out, HM1.out, RU.out⟩
        | true =>
          cases op0 with
          | none =>
            obtain ⟨_, _, h9⟩ := e6
            cases h9
          | some s =>
            obtain ⟨rfl, hd, hqh, hbl, hfar⟩ := e6
            obtain rfl : d = false := by
              cases d with
              | false => rfl
              | true => exact absurd hd (by decide)
            obtain ⟨qh, Ab, nb, cb⟩ := qs
            simp only at hqh hbl hfar y3 y4
            subst hqh
            obtain ⟨sh, sbl⟩ := s
            simp only at hbl y3
            have HKS : Hid (Kn f i ⟨sh, sbl⟩) := Lib.hid E1.out
            have HFO := Lib.hid (first_of E4.out SH.out)
            have FM := Lib.hid (RF.out.done HKS.out E4.out)
            have HBL := Lib.hid hbl
            have HFA := Lib.hid hfar
            have HFAR := Lib.hid hfar
            obtain ⟨y, hy⟩ : ∃ y, x.ins[i]? = some y := ⟨_, List.getElem?_eq_getElem (by have := HL6.out; omega)⟩
            obtain ⟨bi, oi, rfl, hbi, hci⟩ := R6.out.at_ (f := insCs) (m := 2) (fun _ => rfl) hy
            obtain ⟨op, a⟩ := y
            have HY := Lib.hid hy
            have df := RF.out.dn_.frozen i
            have HBM := Lib.hid (HBW.out.trans (FM.out.bel.mono HBW.out.size))
            have i0 : (wr.setCell ⟨db, i, none⟩ (.bool true)).cell? ⟨bi, oi + i * 2, none⟩ = some (.int .i64 op) := (HBM.out.cell (p := ⟨bi, oi + i * 2, none⟩) hbi).trans (hci 0 _ rfl)
            have i1 : (wr.setCell ⟨db, i, none⟩ (.bool true)).cell? ⟨bi, oi + i * 2 + 1, none⟩ = some (.int .i64 a) := (HBM.out.cell (p := ⟨bi, oi + i * 2 + 1, none⟩) hbi).trans (hci 1 _ rfl)
            have hub := HBX.out.new' FM.out.bel
            have u10 := hub.cell 10
            have ul := hub.lt
            simp only [List.getElem?_toArray, List.getElem?_cons_zero, List.getElem?_cons_succ] at u10
            have hbil : bi < (wr.setCell ⟨db, i, none⟩ (.bool true)).heap.size := by have := HBM.out.size; omega
            clear hbl hfar hy hci hub hd E1 E4
            go_wp2_with fail
            have hbl4 : BlAt (wr.setCell ⟨db, i, none⟩ (.bool true)) Ab nb cb sbl := HBL.out.set_ (fun b o e => (HFA.out b o e).2.2) _
            have s1 : (wr.setCell ⟨db, i, none⟩ (.bool true)).cell? ⟨sb, i * 2, none⟩ = some (.int .i64 sh) := by
              rw [World.cell?_of_block (Below.heap_setCell _ _ _ sb RF.out.sd)]; exact y3
            have s2 : (wr.setCell ⟨db, i, none⟩ (.bool true)).cell? ⟨sb, i * 2 + 1, none⟩ = some (.slice Ab nb cb) := by
              rw [World.cell?_of_block (Below.heap_setCell _ _ _ sb RF.out.sd)]; exact y4
            clear y1 y2 y3 y4 df
            generalize wr.setCell ⟨db, i, none⟩ (.bool true) = W4 at *
            have HB4L := Lib.hid hbl4
            have hsl := GD.out.low i _ HKS.out
            have hsh := GD.out.high i _ HKS.out
            have hdp := DP.out i _ HKS.out
            have hqu := QU.out
            have hnb : nb ≤ 600 := by have h8 := hbl4.len; simp only at hdp; omega
            simp only at hsl hsh
            have HD4 : Hid (Below W4.heap.size W4 W4.drew) := Lib.hid (by repeat (first | exact Below.refl _ _ | assumption | refine Below.setCell ?_ (by first | (simp; done) | (simp; omega) | omega) _ | refine below_drewN ?_ _ | refine Below.drew ?_ | refine Below.alloc ?_ (by first | (simp; done) | (simp; omega) | omega) _))
            have hsbl := FM.out.ss_.lt
            have HALLS : Hid (∀ w', Below W4.heap.size W4 w' → (fun w' => w'.cell? ⟨w.heap.size, 10, none⟩ = some (.slice (some ⟨bi, oi, none⟩) n6 c6) ∧ w'.cell? ⟨bi, oi + i * 2, none⟩ = some (.int .i64 op) ∧ w'.cell? ⟨bi, oi + i * 2 + 1, none⟩ = some (.int .i64 a) ∧ w'.cell? ⟨sb, i * 2, none⟩ = some (.int .i64 sh) ∧ w'.cell? ⟨sb, i * 2 + 1, none⟩ = some (.slice Ab nb cb)) w') := Lib.hid fun w' hb => ⟨(hb.cell (p := ⟨w.heap.size, 10, none⟩) ul).trans u10, (hb.cell (p := ⟨bi, oi + i * 2, none⟩) hbil).trans i0, (hb.cell (p := ⟨bi, oi + i * 2 + 1, none⟩) hbil).trans i1, (hb.cell (p := ⟨sb, i * 2, none⟩) hsbl).trans s1, (hb.cell (p := ⟨sb, i * 2 + 1, none⟩) hsbl).trans s2⟩
            have HS0 := Lib.hid (HALLS.out _ HD4.out)
            have KLD : Hid (Calls Try.prog 17 #[.slice A n c, .agg #[.int .i64 op, .int .i64 a], .int .i64 i, .agg #[.int .i64 sh, .slice Ab nb cb]] W4.drew (LookRR W4.drew Ab (waysE p (op, a) i ⟨sh, sbl⟩))) := Lib.hid (by
              have hx := HR.out (op, a) (List.mem_of_getElem? HY.out)
              rw [← ways_same (i := i) (s := ⟨sh, sbl⟩) hx hsl (by unfold many; simp only; omega)]
              exact look_ref (HP.out.new (HBM.out.trans (HD4.out.mono HBM.out.size))) hx hsl (by omega) (by omega) (hbl4.new HD4.out) (by omega))
            clear hbl4 hsl hsh hdp hqu hnb
            cases hwe : waysE p (op, a) i ⟨sh, sbl⟩ with
            | none =>
              have KL := Lib.hid (hwe ▸ KLD.out)
              have HWE := Lib.hid hwe
              clear hwe KLD
              go_region_held3 (fun w' => w'.cell? ⟨w.heap.size, 10, none⟩ = some (.slice (some ⟨bi, oi, none⟩) n6 c6) ∧ w'.cell? ⟨bi, oi + i * 2, none⟩ = some (.int .i64 op) ∧ w'.cell? ⟨bi, oi + i * 2 + 1, none⟩ = some (.int .i64 a) ∧ w'.cell? ⟨sb, i * 2, none⟩ = some (.int .i64 sh) ∧ w'.cell? ⟨sb, i * 2 + 1, none⟩ = some (.slice Ab nb cb))
                (first | exact HS4.out | exact HS0.out | go_keep)
                (first
                  | ((with_reducible refine KL.out.mono ?_); rintro e w4 ⟨hb4, rfl⟩; have HB4 := Lib.hid (HD4.out.trans hb4); have HS4 := Lib.hid (HALLS.out _ HB4.out); clear hb4))
              clear HS4 HS0 HALLS KL HD4
              have HB : Hid (Below w.heap.size w w4) := Lib.hid (HBM.out.trans (HB4.out.mono HBM.out.size))
              have HRS : Hid (flowE p x.ins = ([], 52, (i : Int))) := Lib.hid (by
                refine flow_telE HR.out (by have := HL6.out; omega) ?_
                rw [HL6.out, ← RU.out]
                exact run_bad HFO.out (rstep_none HY.out HKS.out HWE.out))
              clear HB4 HKS HY
              go_wp2_with fail
              exact bodyPost_ret (v := .tuple #[.slice none 0 0, .int .i64 52, .int .i64 i]) (by simp [results, Try.results29, go_sem]) rfl (by rw [HRS.out]; exact HtR.bad HB.out 52 i)
            | some ways =>
              have KL := Lib.hid (hwe ▸ KLD.out)
              have HWE := Lib.hid hwe
              clear hwe KLD
              go_region_held3 (fun w' => w'.cell? ⟨w.heap.size, 10, none⟩ = some (.slice (some ⟨bi, oi, none⟩) n6 c6) ∧ w'.cell? ⟨bi, oi + i * 2, none⟩ = some (.int .i64 op) ∧ w'.cell? ⟨bi, oi + i * 2 + 1, none⟩ = some (.int .i64 a) ∧ w'.cell? ⟨sb, i * 2, none⟩ = some (.int .i64 sh) ∧ w'.cell? ⟨sb, i * 2 + 1, none⟩ = some (.slice Ab nb cb))
                (first | exact HS4.out | exact HS0.out | go_keep)
                (first
                  | ((with_reducible refine KL.out.mono ?_); rintro e w4 ⟨hb4, A4w, n4w, c4w, rfl, hways, hnew⟩; have HWY := Lib.hid hways; have HNEW := Lib.hid hnew; clear hways hnew; have HB4 := Lib.hid (HD4.out.trans hb4); have HS4 := Lib.hid (HALLS.out _ HB4.out); clear hb4))
              clear HS4 HS0 HALLS KL
              have hz8 : W4.drew.heap.size = W4.heap.size := rfl
              have hkl := FM.out.kn_.lt
              have hdl := FM.out.dn_.lt
              have HNE : Hid (∀ b o, A4w = some ⟨b, o, none⟩ → b ≠ sb ∧ b ≠ kb ∧ b ≠ db) := Lib.hid fun b o e => by
                have h9 := HNEW.out b o e
                omega
              have HLT : Hid (sb < W4.drew.heap.size ∧ kb < W4.drew.heap.size ∧ db < W4.drew.heap.size) := Lib.hid (by omega)
              have HF5 := Lib.hid (FM.out.new HB4.out)
              have HWP := Lib.hid (ways_of (HR.out (op, a) (List.mem_of_getElem? HY.out)) HWE.out (GD.out.low i _ HKS.out))
              have HST := Lib.hid (rstep_some HY.out HKS.out HWE.out)
              have hn4 := HWY.out.len
              have hn63 : n4w ≤ 9223372036854775807 := by
                obtain ⟨_, _, _, _, hrd⟩ := HWY.out.css
                exact hrd.le
              have HN4 := Lib.hid hn4
              have SH0 : Hid (∀ j : Nat, (j : Int) ≤ i → (f.op.set i false)[j]? ≠ some true) := Lib.hid fun j hj => by
                by_cases e : j = i
                · subst e
                  rw [List.getElem?_set]
                  simp
                · rw [List.getElem?_set_ne (Ne.symm e)]
                  exact SH.out j (by omega)
              have HBQ := Lib.hid HBM.out.size
              clear hz8 hkl hdl HD4 HNEW HB4 HBL HFA HY HWE hn4 u10 ul hbil hbi i0 i1 s1 s2 hsbl l1 l2 l3 HB4L FM
              go_wp2_with fail
              obtain ⟨wq, rfl⟩ : ∃ wo, wo = wr := ⟨_, rfl⟩
              go_loopw [14, 15] (fun u v W => ∃ (jj : Nat) (bk : Int) (fj : Fl) (kj dj : List Bool) (sj : List StC), jj ≤ n4w ∧ u = .int .i64 bk ∧ v = .int .i64 jj ∧ -1 ≤ bk ∧ bk ≤ i ∧ RfAt WB n6 sb kb db W fj kj dj sj ∧ WaysR W4.drew Ab W A4w n4w c4w ways ∧ Hid (∀ j : Nat, (j : Int) ≤ bk → fj.op[j]? ≠ some true) ∧ Hid (stepE p x.ins f i = pushE x.ins.length fj (ways.drop jj))) (fun _ v _ => n4w - (intOf v).toNat)
              case atStart => exact ⟨0, i, _, _, _, _, by omega, rfl, rfl, by omega, by omega, HF5.out, HWY.out, SH0, Lib.hid HST.out⟩
              case round =>
                obtain ⟨jj, bk, fj, kj, dj, sj, hjj, rfl, rfl, hbk1, hbk2, hfl, hwy, HSJ, HPU⟩ := hrel
                have FJ := Lib.hid hfl
                have WJ := Lib.hid hwy
                clear hfl hwy HF5 HWY HST SH0
                by_cases hjl : jj < n4w
                · obtain ⟨⟨to, zh, zl⟩, hq⟩ : ∃ q, ways[jj]? = some q := ⟨_, List.getElem?_eq_getElem (by rw [HN4.out]; exact hjl)⟩
                  obtain ⟨wb2, wo, zA, zn, zc, rfl, hwl, z0, z1, z2, z3, z4⟩ := WJ.out.at_ hq
                  have h00 := (HWP.out _ (List.mem_of_getElem? hq)).1
                  obtain ⟨t0, rfl⟩ := Int.eq_ofNat_of_zero_le h00
                  have HPA := Lib.hid (rpush_at (n := x.ins.length) (f := fj) hq)
                  simp only at z0 z1 z2 z3
                  have ZA := Lib.hid z3
                  have ZF := Lib.hid z4
                  clear hq h00 z3 z4
                  by_cases hge : n6 ≤ t0
                  · have d0 : decide (n6 ≤ t0) = true := decide_eq_true hge
                    have HB : Hid (Below w.heap.size w wr) := Lib.hid (HBW.out.trans (FJ.out.bel.mono HBW.out.size))
                    have HRS : Hid (flowE p x.ins = ([], 51, (i : Int))) := Lib.hid (by
                      refine flow_telE HR.out (by have := HL6.out; omega) ?_
                      rw [HL6.out, ← RU.out]
                      refine run_bad HFO.out ?_
                      rw [HPU.out, HPA.out]
                      exact rpush_ge (by have := HL6.out; omega))
                    clear hge HPU HPA
                    go_wp2_with fail
                    exact bodyPost_ret (v := .tuple #[.slice none 0 0, .int .i64 51, .int .i64 i]) (by simp [results, Try.results29, go_sem]) rfl (by rw [HRS.out]; exact HtR.bad HB.out 51 i)
                  · have d0 : decide (n6 ≤ t0) = false := decide_eq_false hge
                    have htj : t0 < n6 := by omega
                    obtain ⟨o, kbit, dbit, obit, sq, e1, e2, e3, e4, e5, e6, x1, x2, x3, x4⟩ := FJ.out.get htj
                    have f1 := FJ.out.kn_.frozen t0
                    have f2 := FJ.out.ss_.frozen (t0 * 2)
                    have f3 := FJ.out.ss_.frozen (t0 * 2 + 1)
                    have g1 := FJ.out.kn_.lt
                    have g2 := FJ.out.ss_.lt
                    have hsk := FJ.out.sk
                    have hw1 : wb2 ≠ sb := (HNE.out wb2 wo rfl).1
                    have hw2 : wb2 ≠ kb := (HNE.out wb2 wo rfl).2.1
                    have FZ : Hid (Far sb kb db zA) := Lib.hid fun b o e => by
                      rcases ZF.out b o e with h | ⟨o', h⟩
                      · have := HLT.out
                        omega
                      · exact HFAR.out b o' h
                    have E1 := Lib.hid e1
                    clear e1 e2 e3 e4 e5 hge
                    cases o with
                    | none =>
                      obtain ⟨rfl, rfl, rfl⟩ := e6
                      have HPN := Lib.hid (rpush_new (s := ⟨zh, zl⟩) (r := ways.drop (jj + 1)) (show t0 < x.ins.length by have := HL6.out; omega) E1.out)
                      have HIN : Hid (jj + 1 ≤ n4w) := Lib.hid (by omega)
                      go_wp2_with fail
                      go_quiet (fail)
                      generalize hWD : wr.drewN nq = wd
                      have hbd : Below wr.heap.size wr wd := by rw [← hWD]; exact below_drewN (Below.refl _ _) _
                      have HFD := Lib.hid (FJ.out.new hbd)
                      have HWD2 := Lib.hid (WJ.out.new hbd)
                      have HZD := Lib.hid (ZA.out.new hbd)
                      obtain ⟨_, _, _, _, sq', d1, d2, d3, d4, d5, d6, x1', x2', x3', x4'⟩ := HFD.out.get htj
                      have r1 := HFD.out.kn_.frozen t0
                      have r2 := HFD.out.ss_.frozen (t0 * 2)
                      have r3 := HFD.out.ss_.frozen (t0 * 2 + 1)
                      have r4 := HFD.out.kn_.lt
                      have r5 := HFD.out.ss_.lt
                      have c0 : wd.cell? ⟨wb2, wo + jj * 3, none⟩ = some (.int .i64 t0) := (hbd.cell (p := ⟨wb2, wo + jj * 3, none⟩) hwl).trans z0
                      have c1 : wd.cell? ⟨wb2, wo + jj * 3 + 1, none⟩ = some (.int .i64 zh) := (hbd.cell (p := ⟨wb2, wo + jj * 3 + 1, none⟩) hwl).trans z1
                      have c2 : wd.cell? ⟨wb2, wo + jj * 3 + 2, none⟩ = some (.slice zA zn zc) := (hbd.cell (p := ⟨wb2, wo + jj * 3 + 2, none⟩) hwl).trans z2
                      have x1d : wd.cell? ⟨kb, t0, none⟩ = some (.bool false) := (hbd.cell (p := ⟨kb, t0, none⟩) g1).trans x1
                      clear hbd hWD d1 d2 d3 d4 d5 d6 x1' x1 x2 x3 x4 z0 z1 z2 f1 f2 f3 g1 g2 x2'
                      have HPUT := Lib.hid (HFD.out.put htj (s := ⟨zh, zl⟩) HZD.out FZ.out (f' := ⟨fj.st.set t0 (some ⟨zh, zl⟩), fj.op.set t0 true⟩) (.inl ⟨E1.out, rfl⟩))
                      have HWPUT := Lib.hid (((HWD2.out.set_ (p := ⟨kb, t0, none⟩) (fun b o e => (HNE.out b o e).2.1) HLT.out.2.1 (fun b o e => (HFAR.out b o e).2.1) (.bool true)).set_ (p := ⟨sb, t0 * 2, none⟩) (fun b o e => (HNE.out b o e).1) HLT.out.1 (fun b o e => (HFAR.out b o e).1) (.int .i64 zh)).set_ (p := ⟨sb, t0 * 2 + 1, none⟩) (fun b o e => (HNE.out b o e).1) HLT.out.1 (fun b o e => (HFAR.out b o e).1) (.slice zA zn zc))
                      have HSN : Hid (∀ b2 : Int, b2 ≤ bk → b2 ≤ (t0 : Int) - 1 → ∀ j : Nat, (j : Int) ≤ b2 → (fj.op.set t0 true)[j]? ≠ some true) := Lib.hid fun b2 h1 h2 j hj => by
                        rw [List.getElem?_set_ne (by omega)]
                        exact HSJ.out j (by omega)
                      by_cases hbk : (t0 : Int) - 1 < bk
                      · have db1 : decide ((t0 : Int) - 1 < bk) = true := decide_eq_true hbk
                        go_wp2_with fail
                        go_roundw
                        case rel => exact ⟨jj + 1, (t0 : Int) - 1, _, _, _, _, HIN.out, by go_num, by go_num, by omega, by omega, HPUT.out, HWPUT.out, Lib.hid (HSN.out _ (by omega) (by omega)), Lib.hid (by rw [HPU.out, HPA.out, HPN.out])⟩
                        case measure => simp [intOf]; omega
                      · have db1 : decide ((t0 : Int) - 1 < bk) = false := decide_eq_false hbk
                        go_wp2_with fail
                        go_roundw
                        case rel => exact ⟨jj + 1, bk, _, _, _, _, HIN.out, by go_num, by go_num, by omega, by omega, HPUT.out, HWPUT.out, Lib.hid (HSN.out _ (by omega) (by omega)), Lib.hid (by rw [HPU.out, HPA.out, HPN.out])⟩
                        case measure => simp [intOf]; omega
                    | some u =>
                      obtain ⟨rfl, -, hqh, hbu, -⟩ := e6
                      obtain ⟨uq, uA, un, uc⟩ := sq
                      obtain ⟨uh, ul⟩ := u
                      simp only at hqh hbu x3 x4
                      rw [hqh] at x3
                      clear hqh
                      have HDA : Hid (Below wr.heap.size wr wr.drew) := Lib.hid (by repeat (first | exact Below.refl _ _ | assumption | refine Below.setCell ?_ (by first | (simp; done) | (simp; omega) | omega) _ | refine below_drewN ?_ _ | refine Below.drew ?_ | refine Below.alloc ?_ (by first | (simp; done) | (simp; omega) | omega) _))
                      have HIN : Hid (jj + 1 ≤ n4w) := Lib.hid (by omega)
                      have HSAL : Hid (∀ w', Below wr.heap.size wr w' → (fun w' => w'.cell? ⟨kb, t0, none⟩ = some (.bool true) ∧ w'.cell? ⟨sb, t0 * 2, none⟩ = some (.int .i64 uh) ∧ w'.cell? ⟨sb, t0 * 2 + 1, none⟩ = some (.slice uA un uc) ∧ w'.cell? ⟨wb2, wo + jj * 3 + 1, none⟩ = some (.int .i64 zh) ∧ w'.cell? ⟨wb2, wo + jj * 3 + 2, none⟩ = some (.slice zA zn zc)) w') := Lib.hid fun w' hb => ⟨(hb.cell (p := ⟨kb, t0, none⟩) g1).trans x1, (hb.cell (p := ⟨sb, t0 * 2, none⟩) g2).trans x3, (hb.cell (p := ⟨sb, t0 * 2 + 1, none⟩) g2).trans x4, (hb.cell (p := ⟨wb2, wo + jj * 3 + 1, none⟩) hwl).trans z1, (hb.cell (p := ⟨wb2, wo + jj * 3 + 2, none⟩) hwl).trans z2⟩
                      have HSA0 := Lib.hid (HSAL.out _ HDA.out)
                      have KS := Lib.hid (samestate_any (h1 := uh) (h2 := zh) (hbu.new HDA.out) (ZA.out.new HDA.out))
                      have htl : Hid (t0 < x.ins.length) := Lib.hid (by have := HL6.out; omega)
                      clear hbu
                      cases hse : sameR ⟨uh, ul⟩ ⟨zh, zl⟩ with
                      | true =>
                        rw [hse] at KS
                        have HSE : Hid (St.mk uh ul = ⟨zh, zl⟩) := Lib.hid (of_decide_eq_true hse)
                        clear hse
                        go_wp2_with fail
                        go_region_held3 (fun w' => w'.cell? ⟨kb, t0, none⟩ = some (.bool true) ∧ w'.cell? ⟨sb, t0 * 2, none⟩ = some (.int .i64 uh) ∧ w'.cell? ⟨sb, t0 * 2 + 1, none⟩ = some (.slice uA un uc) ∧ w'.cell? ⟨wb2, wo + jj * 3 + 1, none⟩ = some (.int .i64 zh) ∧ w'.cell? ⟨wb2, wo + jj * 3 + 2, none⟩ = some (.slice zA zn zc))
                          (first | exact HSB.out | exact HSA0.out | go_keep)
                          (first
                            | ((with_reducible refine KS.out.mono ?_); rintro e w8 ⟨rfl, hb8⟩; have HB8 := Lib.hid (HDA.out.trans hb8); have HSB := Lib.hid (HSAL.out _ HB8.out); clear hb8))
                        obtain ⟨v1, v2, v3, v4, v5⟩ := HSB.out
                        clear HSB HSA0 HSAL KS HDA
                        have hbd := HB8.out
                        have HFD := Lib.hid (FJ.out.new hbd)
                        have HWD2 := Lib.hid (WJ.out.new hbd)
                        have HZD := Lib.hid (ZA.out.new hbd)
                        have r1 := HFD.out.kn_.frozen t0
                        have r2 := HFD.out.ss_.frozen (t0 * 2)
                        have r3 := HFD.out.ss_.frozen (t0 * 2 + 1)
                        have r4 := HFD.out.kn_.lt
                        have r5 := HFD.out.ss_.lt
                        have c0 : w8.cell? ⟨wb2, wo + jj * 3, none⟩ = some (.int .i64 t0) := (hbd.cell (p := ⟨wb2, wo + jj * 3, none⟩) hwl).trans z0
                        clear hbd HB8 x1 x2 x3 x4 z0 z1 z2 f1 f2 f3 g1 g2
                        have HPUT := Lib.hid (HFD.out.put htj (s := ⟨zh, zl⟩) HZD.out FZ.out (f' := fj) (.inr ⟨by rw [E1.out, HSE.out], rfl⟩))
                        have HWPUT := Lib.hid (((HWD2.out.set_ (p := ⟨kb, t0, none⟩) (fun b o e => (HNE.out b o e).2.1) HLT.out.2.1 (fun b o e => (HFAR.out b o e).2.1) (.bool true)).set_ (p := ⟨sb, t0 * 2, none⟩) (fun b o e => (HNE.out b o e).1) HLT.out.1 (fun b o e => (HFAR.out b o e).1) (.int .i64 zh)).set_ (p := ⟨sb, t0 * 2 + 1, none⟩) (fun b o e => (HNE.out b o e).1) HLT.out.1 (fun b o e => (HFAR.out b o e).1) (.slice zA zn zc))
                        go_wp2_with fail
                        go_roundw
                        case rel => exact ⟨jj + 1, bk, fj, _, _, _, HIN.out, by go_num, by go_num, by omega, by omega, HPUT.out, HWPUT.out, HSJ, Lib.hid (by rw [HPU.out, HPA.out]; exact rpush_same htl.out (HSE.out ▸ E1.out))⟩
                        case measure => simp [intOf]; omega
                      | false =>
                        rw [hse] at KS
                        have HSE : Hid (St.mk uh ul ≠ ⟨zh, zl⟩) := Lib.hid (of_decide_eq_false hse)
                        clear hse
                        go_wp2_with fail
                        go_region_held3 (fun w' => w'.cell? ⟨kb, t0, none⟩ = some (.bool true) ∧ w'.cell? ⟨sb, t0 * 2, none⟩ = some (.int .i64 uh) ∧ w'.cell? ⟨sb, t0 * 2 + 1, none⟩ = some (.slice uA un uc) ∧ w'.cell? ⟨wb2, wo + jj * 3 + 1, none⟩ = some (.int .i64 zh) ∧ w'.cell? ⟨wb2, wo + jj * 3 + 2, none⟩ = some (.slice zA zn zc))
                          (first | exact HSB.out | exact HSA0.out | go_keep)
                          (first
                            | ((with_reducible refine KS.out.mono ?_); rintro e w8 ⟨rfl, hb8⟩; have HB8 := Lib.hid (HDA.out.trans hb8); have HSB := Lib.hid (HSAL.out _ HB8.out); clear hb8))
                        clear HSB HSA0 HSAL KS HDA
                        have HB : Hid (Below w.heap.size w w8) := Lib.hid (HBW.out.trans ((FJ.out.bel.trans (HB8.out.mono FJ.out.bel.size)).mono HBW.out.size))
                        have HRS : Hid (flowE p x.ins = ([], 52, (i : Int))) := Lib.hid (by
                          refine flow_telE HR.out (by have := HL6.out; omega) ?_
                          rw [HL6.out, ← RU.out]
                          refine run_bad HFO.out ?_
                          rw [HPU.out, HPA.out]
                          exact rpush_no htl.out E1.out HSE.out)
                        go_wp2_with fail
                        exact bodyPost_ret (v := .tuple #[.slice none 0 0, .int .i64 52, .int .i64 i]) (by simp [results, Try.results29, go_sem]) rfl (by rw [HRS.out]; exact HtR.bad HB.out 52 i)
                · obtain rfl : jj = n4w := by omega
                  have HSE : Hid (stepE p x.ins f i = .inl fj) := Lib.hid (by rw [HPU.out, List.drop_of_length_le (by have := HN4.out; omega)]; rfl)
                  have HGS := Lib.hid (good_step HR.out GD.out (firstE_some HFO.out).1 HSE.out)
                  have HDS := Lib.hid (deep_step HR.out GD.out DP.out HSE.out)
                  have HRN := Lib.hid (run_step HR.out GD.out HFO.out HSE.out)
                  obtain ⟨b', rfl⟩ : ∃ b' : Nat, bk = (b' : Int) - 1 := ⟨(bk + 1).toNat, by omega⟩
                  have HBN : Hid (b' ≤ n6) := Lib.hid (by omega)
                  have HSN : Hid (∀ j : Nat, j < b' → fj.op[j]? ≠ some true) := Lib.hid fun j hj => HSJ.out j (by omega)
                  have HMN : Hid (undone fj * (n6 + 1) + (n6 - b') < gk - 1) := Lib.hid (by
                    have h1 := HGS.out.2.1
                    have h2 : undone fj + 1 ≤ undone f := h1
                    have h3 := Nat.mul_le_mul_right (n6 + 1) h2
                    have h4 : (undone fj + 1) * (n6 + 1) = undone fj * (n6 + 1) + (n6 + 1) := Nat.succ_mul _ _
                    have := ME.out
                    omega)
                  have HG1 : Hid (gk - 1 < gk) := Lib.hid (by have := ME.out; omega)
                  have HQN : Hid (q + 1 + undone fj ≤ n6) := Lib.hid (by have h1 := HGS.out.2.1; have := QU.out; omega)
                  clear HPU hjl WJ HSJ
                  go_wp2_with fail
                  go_roundg (gk - 1)
                  case measure => exact HG1.out
                  case rel => exact ⟨b', by go_num, HBN.out, fj, _, _, _, q + 1, FJ.out, HGS.out.1, HDS.out, HQN.out, HSN.out, HMN.out, by rw [← HRN.out]; exact RU.out⟩
      · obtain rfl : i = n6 := by omega
        have HFN : Hid (firstE f.op = none) := Lib.hid (first_no fun j => by
          by_cases hj : j < i
          · exact SH.out j hj
          · rw [List.getElem?_eq_none (by rw [RF.out.lo]; omega)]
            simp)
        have HRS : Hid (flowE p x.ins = (f.st.map heightOf, 0, 0)) := Lib.hid (by
          refine flow_telK HR.out (by have := HL6.out; omega) ?_
          rw [HL6.out, ← RU.out]
          exact run_end HFN.out)
        have HB1 : Hid (Below w.heap.size w wr) := Lib.hid (HBW.out.trans (RF.out.bel.mono HBW.out.size))
        clear HFN RU ME SH QU DP GD
        go_wp2_with fail
        obtain ⟨wq, rfl⟩ : ∃ wo, wo = wr := ⟨_, rfl⟩
        go_loopw [17, 18] (fun v u W => ∃ jj : Nat, jj ≤ i ∧ u = .int .i64 jj ∧ Own W 3 1 v jj (hgs f jj) ∧ (∀ b, v.ownBlock = some b → wq.heap.size ≤ b) ∧ Below wq.heap.size wq W) (fun _ u _ => i - (intOf u).toNat)
        case atStart =>
          refine ⟨0, by omega, rfl, ?_, fun b e => by simp [Value.ownBlock] at e; omega, (by repeat (first | exact Below.refl _ _ | assumption | refine Below.setCell ?_ (by first | (simp; done) | (simp; omega) | omega) _ | refine below_drewN ?_ _ | refine Below.drew ?_ | refine Below.alloc ?_ (by first | (simp; done) | (simp; omega) | omega) _))⟩
          have h9 := Own.made (t := 3) (sz := 1) wq #[] 0 (by omega) rfl
          simpa [hgs] using h9
        case round =>
          obtain ⟨jj, hjj, rfl, hown, hnw, hb⟩ := hrel
          have HOW := Lib.hid hown
          have HNW := Lib.hid hnw
          have HBB := Lib.hid hb
          have FW := Lib.hid (RF.out.new hb)
          clear hown hnw hb
          by_cases hjl : jj < i
          · obtain ⟨o, kbit, dbit, obit, sq, e1, e2, e3, e4, e5, e6, x1, x2, x3, x4⟩ := FW.out.get hjl
            have g1 := FW.out.kn_.lt
            have g2 := FW.out.ss_.lt
            have HON := Lib.hid (hgs_next e1)
            have HSI := Lib.hid HBB.out.size
            clear e1 e2 e3 e4 e5
            cases o with
            | none =>
              obtain ⟨rfl, -, -⟩ := e6
              clear x2 x3 x4
              go_wp2_with (at_builtin; refine wpList_appendN _ rfl (.tmp 146) (.tmp 147) rfl _ jj (hgs f jj) rfl (HOW.out.new (by exact (by repeat (first | exact Below.refl _ _ | assumption | refine Below.setCell ?_ (by first | (simp; done) | (simp; omega) | omega) _ | refine below_drewN ?_ _ | refine Below.drew ?_ | refine Below.alloc ?_ (by first | (simp; done) | (simp; omega) | omega) _)))) wr.heap.size (-1) rfl (by simp [go_sem]) (by simp) (by omega) ?_; intro v2 w2 hv2 hg2 ha2; have HV2 := Lib.hid hv2; have HG2 := Lib.hid hg2; have HA2 := Lib.hid ha2; clear hv2 hg2 ha2)
              go_roundw
              case rel => exact ⟨jj + 1, by omega, by go_num, HON.out ▸ HV2.out, own_new HNW.out HSI.out HA2.out, grown_below HBB.out HNW.out HG2.out⟩
              case measure => simp [intOf]; omega
            | some u =>
              obtain ⟨rfl, -, hqh, -, -⟩ := e6
              clear x2 x4
              rw [hqh] at x3
              clear hqh
              go_wp2_with (at_builtin; refine wpList_appendN _ rfl (.tmp 138) (.tmp 144) rfl _ jj (hgs f jj) rfl (HOW.out.new (by exact (by repeat (first | exact Below.refl _ _ | assumption | refine Below.setCell ?_ (by first | (simp; done) | (simp; omega) | omega) _ | refine below_drewN ?_ _ | refine Below.drew ?_ | refine Below.alloc ?_ (by first | (simp; done) | (simp; omega) | omega) _)))) wr.heap.size u.h rfl (by simp [go_sem]) (by simp) (by omega) ?_; intro v2 w2 hv2 hg2 ha2; have HV2 := Lib.hid hv2; have HG2 := Lib.hid hg2; have HA2 := Lib.hid ha2; clear hv2 hg2 ha2)
              go_roundw
              case rel => exact ⟨jj + 1, by omega, by go_num, HON.out ▸ HV2.out, own_new HNW.out HSI.out HA2.out, grown_below HBB.out HNW.out HG2.out⟩
              case measure => simp [intOf]; omega
          · obtain rfl : jj = i := by omega
            have HBZ := Lib.hid (HB1.out.trans (HBB.out.mono HB1.out.size))
            obtain ⟨Ao, co, rfl, hro, -⟩ := HOW.out.rd
            have HRO : Hid (Rd wr Ao jj co 1 ((f.st.map heightOf).map (Value.int .i64))) := Lib.hid (by
              have e9 : hgs f jj = (f.st.map heightOf).map (Value.int .i64) := by
                unfold hgs
                rw [List.take_of_length_le (by rw [RF.out.ln]; exact Nat.le_refl _)]
                simp
              rw [← e9]
              exact hro)
            have HLF := Lib.hid RF.out.ln
            clear hro HOW HNW
            go_wp2_with fail
            exact bodyPost_ret (v := .tuple #[.slice Ao jj co, .int .i64 0, .int .i64 0]) (by simp [results, Try.results29, go_sem]) rfl (by rw [HRS.out]; exact ⟨HBZ.out, _, _, _, rfl, by simp [HLF.out], HRO.out⟩)
end Go.Proofs.Ytgnejkmojfhfpaa
