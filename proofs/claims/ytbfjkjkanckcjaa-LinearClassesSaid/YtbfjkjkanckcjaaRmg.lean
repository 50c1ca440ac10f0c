/- The reference's Merge: the walk. -/
import Derived.Test.YtbfjkjkanckcjaaRmT
import Derived.BigQuiet
import Derived.Deep.QuietTactic
import Derived.Deep.LoopGhost
namespace Go.Proofs.Ytbfjkjkanckcjaa
open Go.RowKit Go.Shelf

theorem drewN_add (w : World) (a b : Nat) : (w.drewN a).drewN b = w.drewN (a + b) := by simp [World.drewN, Nat.add_assoc]
theorem drw1 (w : World) (a b : Nat) : ∃ q, (w.drewN a).drewN b = w.drewN q := ⟨_, drewN_add w a b⟩
theorem drw2 (w : World) (a b c : Nat) : ∃ q, ((w.drewN a).drewN b).drewN c = w.drewN q := ⟨_, by rw [drewN_add, drewN_add]⟩
theorem quiet_sum {P : Program} {f : FuncId} {args : Array Value} {W : World} {q x : Nat} {v : Value} (h : Calls P f args (W.drewN (q + x)) fun e w' => e = .returned v ∧ w' = W.drewN (q + x)) :
    Calls P f args (W.drewN (q + x)) fun e w'' => e = .returned v ∧ ∃ m, w'' = W.drewN (q + m) := h.mono fun _ _ ⟨he, hm⟩ => ⟨he, x, hm⟩
theorem tail_is {A : Option Addr} {n c : Nat} {xs : List Int} {f : Nat} {x : Int} {w : World} {b : Bool} (hA : RdI w A n c xs) (hf : f < n) (h : hasI (xs.drop (f + 1)) x = b) :
    Calls Try.prog 31 #[.slice A n c, .int .i64 f, .int .i64 x] w fun e w' => e = .returned (.bool b) ∧ w' = w := by
  rw [← h]
  exact tail_any A n c xs f x w hA hf
/-- a row, and where it stands, in the midst of a turn -/
theorem rrow {A : Option Addr} {n c b0 : Nat} {rs : List SlI} {w wr : World} {vo : Value} {out : List Int} {x : Int} {rest : List (List Int)} {ps : List Nat} (hR : RdR w A n c rs) (hok : AllOk w rs) (hrest : rem (nums rs) ps = rest) (hal : ps.length = n) {k : Nat}
    (hst : RSt w wr (.slice (some ⟨b0, 0, none⟩) n n) vo (bmp x rest ps k) out) (hk : k < n) :
    ∃ b o Ak nk ck xk a, A = some ⟨b, o, none⟩ ∧ wr.cell? ⟨b, o + k, none⟩ = some (.slice Ak nk ck) ∧ wr.cell? ⟨b0, k, none⟩ = some (.int .i64 ((a : Nat) : Int)) ∧ wr.frozen? ⟨b0, k, none⟩ = false ∧ RdI wr Ak nk ck xk ∧
      bmp x rest ps (k + 1) = (if (xk.drop a).head? = some x then (bmp x rest ps k).set k (a + 1) else bmp x rest ps k) ∧
      RSt w (wr.setCell ⟨b0, k, none⟩ (.int .i64 ((a + 1 : Nat) : Int))) (.slice (some ⟨b0, 0, none⟩) n n) vo ((bmp x rest ps k).set k (a + 1)) out := by
  have hlr := hR.1
  have hkr : k < rs.length := by omega
  obtain ⟨b, o, e, _, h1⟩ := (hR.new hst.a.bel).at_ hk
  have hbl : (bmp x rest ps k).length = n := by rw [bmp_length, hal]
  obtain ⟨h2, h3, h4⟩ := hst.put hbl hk (ps[k]'(by omega) + 1)
  have h5 := (hok rs[k] (List.getElem_mem hkr)).new hst.a.bel
  have h6 := rem_at (rs := rs) (ats := ps) (by omega) hkr
  rw [hrest] at h6
  rw [bmp_here (by omega)] at h2
  exact ⟨b, o, _, _, _, _, ps[k]'(by omega), e, h1, h2, h3, h5, bmp_step (by omega) h6, h4⟩
def MergeEnd (w : World) (r : Option (List Int)) (e : Ending) (w' : World) : Prop := ∃ v, e = .returned (.tuple #[v, .bool r.isSome]) ∧ NewI 2 w w' v (r.getD [])
theorem MergeEnd.none_ {w w' : World} {r : Option (List Int)} (h : r = none) (hb : Below w.heap.size w w') : MergeEnd w r (.returned (.tuple #[.slice none 0 0, .bool false])) w' := by
  subst h
  exact ⟨_, rfl, OwnI.nil_ _ _, fun b e => (by cases e), hb⟩
theorem MergeEnd.some_ {w w' : World} {r : Option (List Int)} {v : Value} {out : List Int} (h : r = some out) (hn : NewI 2 w w' v out) : MergeEnd w r (.returned (.tuple #[v, .bool true])) w' := by
  subst h
  exact ⟨_, rfl, hn⟩

set_option maxRecDepth 100000 in
set_option maxHeartbeats 8000000 in
theorem rmerge_any (A : Option Addr) (n c : Nat) (rs : List SlI) (w : World) (hR : RdR w A n c rs) (hok : AllOk w rs) (hn : n ≤ 1000) (hw : Lin.weight (nums rs) ≤ 1000000) :
    Calls Try.prog 17 #[.slice A n c] w (MergeEnd w (Lin.merge (nums rs))) := by
  have hmk := make_N n (by omega)
  have hlr := hR.1
  have HR := Lib.hid hR
  have HOK := Lib.hid hok
  have HW := Lib.hid hw
  clear hR hok hw
  have h0 : RSt w ((w.alloc (.cells (List.replicate n (.int .i64 0)).toArray 3)).alloc (.cells #[] 2)) (.slice (some ⟨w.heap.size, 0, none⟩) n n) (.slice (some ⟨w.heap.size + 1, 0, none⟩) 0 0) (List.replicate n 0) [] := by
    have hb : Below w.heap.size w (w.alloc (.cells (List.replicate n (.int .i64 0)).toArray 3)) := (by repeat (first | exact Below.refl _ _ | assumption | refine Below.setCell ?_ (by first | (simp; done) | (simp; omega) | omega) _ | refine below_drewN ?_ _ | refine Below.drew ?_ | refine Below.alloc ?_ (by first | (simp; done) | (simp; omega) | omega) _))
    have hb2 : Below (w.alloc (.cells (List.replicate n (.int .i64 0)).toArray 3)).heap.size (w.alloc (.cells (List.replicate n (.int .i64 0)).toArray 3)) ((w.alloc (.cells (List.replicate n (.int .i64 0)).toArray 3)).alloc (.cells #[] 2)) := (by repeat (first | exact Below.refl _ _ | assumption | refine Below.setCell ?_ (by first | (simp; done) | (simp; omega) | omega) _ | refine below_drewN ?_ _ | refine Below.drew ?_ | refine Below.alloc ?_ (by first | (simp; done) | (simp; omega) | omega) _))
    have h1 : NewI 3 w (w.alloc (.cells (List.replicate n (.int .i64 0)).toArray 3)) (.slice (some ⟨w.heap.size, 0, none⟩) n n) (ats64 (List.replicate n 0)) := ⟨by rw [ats64_zero]; exact made_N w n (by omega), fun b e => by simp [Value.ownBlock] at e; omega, hb⟩
    have h2 := NewI.empty 2 (w.alloc (.cells (List.replicate n (.int .i64 0)).toArray 3))
    simp only [World.size_alloc] at h2
    exact ⟨h1.below hb2, ⟨h2.own, fun b e => by simp [Value.ownBlock] at e; omega, hb.trans (hb2.mono hb.size)⟩⟩
  have H0 := Lib.hid h0
  clear h0
  go_enter Try.func17, Try.ntmps17
  go_wp2_with fail
  clear hmk
  go_loopg [5] (Lin.weight (nums rs)) (fun g v5 wr => ∃ (out : List Int) (ats : List Nat), RSt w wr (.slice (some ⟨w.heap.size, 0, none⟩) n n) v5 ats out ∧ Hid (ats.length = n) ∧ Hid (Lin.Steps (nums rs) out (rem (nums rs) ats)) ∧ Hid (Lin.weight (rem (nums rs) ats) ≤ g))
  case atStart => exact ⟨[], List.replicate n 0, H0.out, by simp [Hid], by unfold Hid; rw [← hlr, ← nums_length, rem_zero]; exact .refl, by unfold Hid; rw [← hlr, ← nums_length, rem_zero]; exact Nat.le_refl _⟩
  case round =>
    obtain ⟨out, ats, hst, hal, hsteps, hwt⟩ := hrel
    obtain ⟨W, rfl⟩ : ∃ W : World, W = wr := ⟨_, rfl⟩
    have hlen : out.length ≤ 1000000 := by have := hsteps.out.weight; have := HW.out; omega
    -- what a row reads as, and where it stands
    have hrow : ∀ (k : Nat) (hk : k < n), ∃ b o Ak nk ck xk a, A = some ⟨b, o, none⟩ ∧ W.cell? ⟨b, o + k, none⟩ = some (.slice Ak nk ck) ∧ W.cell? ⟨w.heap.size, k, none⟩ = some (.int .i64 ((a : Nat) : Int)) ∧ RdI W Ak nk ck xk ∧ (rem (nums rs) ats)[k]? = some (xk.drop a) ∧ ats[k]? = some a := by
      intro k hk
      have hkr : k < rs.length := by omega
      obtain ⟨b, o, e, _, h1⟩ := (HR.out.new hst.a.bel).at_ hk
      have h2 := hst.cell hal.out hk
      have h3 := (HOK.out rs[k] (List.getElem_mem hkr)).new hst.a.bel
      have h4 := rem_at (rs := rs) (ats := ats) (by rw [hal.out, hlr]) hkr
      exact ⟨b, o, _, _, _, _, _, e, h1, h2, h3, h4, List.getElem?_eq_getElem (by rw [hal.out]; exact hk)⟩
    have HROW := Lib.hid hrow
    have HST := Lib.hid hst
    have hrl : (rem (nums rs) ats).length = n := by rw [rem_length (by rw [nums_length, hal.out, hlr]), nums_length, hlr]
    have HRL := Lib.hid hrl
    have HSTEPS := Lib.hid hsteps.out
    have HWT := Lib.hid hwt.out
    clear hrow hst hrl hsteps hwt
    generalize hrest : rem (nums rs) ats = rest at *
    have HREST := Lib.hid hrest
    clear hrest
    go_wp2_with fail
    go_loopw [6, 7, 8, 9] (fun f6 f7 f8 i wr => ∃ k : Nat, k ≤ n ∧ i = .int .i64 k ∧ (∃ q, wr = W.drewN q) ∧
      ((f7 = .bool false ∧ f6 = .bool false ∧ Hid (Lin.void (rest.take k) = true) ∧ Hid (pickTo rest k = none)) ∨ (f7 = .bool false ∧ f6 = .bool true ∧ Hid (Lin.void (rest.take k) = false) ∧ Hid (pickTo rest k = none)) ∨
        (∃ x : Int, f7 = .bool true ∧ f6 = .bool true ∧ f8 = .int .i64 x ∧ Hid (Lin.pick rest = some x)))) (fun _ _ _ i _ => n - (intOf i).toNat)
    case atStart => exact ⟨0, Nat.zero_le _, rfl, ⟨0, rfl⟩, .inl ⟨rfl, rfl, rfl, rfl⟩⟩
    case round =>
      obtain ⟨k, hk, rfl, ⟨q, rfl⟩, hcase⟩ := hrel
      by_cases hfound : ∃ x : Int, u7 = .bool true ∧ u6 = .bool true ∧ u8 = .int .i64 x ∧ Hid (Lin.pick rest = some x)
      · obtain ⟨x, rfl, rfl, rfl, hpk⟩ := hfound
        clear hcase
        have hal2 := hal.out
        have hst2 := HST.out.below (below_drewN (Below.refl _ _) q)
        have hbw : Below w.heap.size w (W.drewN q) := hst2.a.bel
        clear HST HROW
        generalize W.drewN q = W2 at *
        have hbA : Below W2.heap.size W2 (W2.alloc (.cells #[.int .i64 x] 2)) := (by repeat (first | exact Below.refl _ _ | assumption | refine Below.setCell ?_ (by first | (simp; done) | (simp; omega) | omega) _ | refine below_drewN ?_ _ | refine Below.drew ?_ | refine Below.alloc ?_ (by first | (simp; done) | (simp; omega) | omega) _))
        have HS2 := Lib.hid (hst2.below hbA)
        have HAL := Lib.hid hal2
        clear hst2 hbw hbA hal2
        by_cases hlt : k < n
        all_goals
          go_wp2_with (at_builtin; refine wpList_appendI _ rfl (.tmp 79) (.tmp 81) rfl u5 out rfl HS2.out.o.own (some ⟨W2.heap.size, 0, none⟩) 1 1 [x] rfl (one_rdI W2 2 x) (by omega) ?_; intro v1 w1 hv1 hg1 ha1; have hst3 := HS2.out.push hv1 hg1 ha1; have HS3 := Lib.hid hst3; clear hv1 hg1 ha1 hst3)
          go_loopw [11] (fun i wr => ∃ m : Nat, m ≤ n ∧ i = .int .i64 m ∧ RSt w wr (.slice (some ⟨w.heap.size, 0, none⟩) n n) v1 (bmp x rest ats m) (out ++ [x])) (fun i _ => n - (intOf i).toNat)
          case atStart => exact ⟨0, Nat.zero_le _, rfl, HS3.out⟩
          case round =>
            obtain ⟨m, hm, rfl, hsm⟩ := hrel
            by_cases hltm : m < n
            · obtain ⟨b, o, Ak, nk, ck, xk, a, rfl, h1, h2, h3, h4, h5, h6⟩ := rrow HR.out HOK.out HREST.out HAL.out hsm hltm
              have hn1 := h4.le
              have hxl := h4.1
              have HSM := Lib.hid hsm
              have H6 := Lib.hid h6
              clear hsm h6
              by_cases hge : nk ≤ a
              · have hd : decide (a < nk) = false := by simpa using hge
                rw [List.drop_of_length_le (by omega)] at h5
                have H5 := Lib.hid h5
                clear h4 h5
                go_wp2_with fail
                go_quiet (fail)
                go_wp2_with fail
                go_roundw
                case rel => exact ⟨m + 1, by omega, by go_num, by rw [H5.out]; exact HSM.out.below (below_drewN (Below.refl _ _) _)⟩
                case measure => simp [intOf]; omega
              · have hlt2 : a < nk := by omega
                have hd : decide (a < nk) = true := by simpa using hlt2
                obtain ⟨b2, o2, rfl, hb2, h7⟩ := h4.at_ hlt2
                have hh : (xk.drop a).head? = some xk[a] := by rw [List.head?_drop, List.getElem?_eq_getElem]
                rw [hh] at h5
                generalize xk[a] = y at *
                clear h4 hh
                by_cases hyx : y = x
                · subst hyx
                  rw [if_pos rfl] at h5
                  have H5 := Lib.hid h5
                  clear h5
                  go_wp2_with fail
                  go_quiet (fail)
                  go_wp2_with fail
                  go_roundw
                  case rel => exact ⟨m + 1, by omega, by go_num, by rw [H5.out]; exact H6.out.below (below_drewN (Below.refl _ _) _)⟩
                  case measure => simp [intOf]; omega
                · have hb : (y == x) = false := by simpa using hyx
                  rw [if_neg (fun e => hyx (Option.some.inj e))] at h5
                  have H5 := Lib.hid h5
                  clear h5
                  go_wp2_with fail
                  go_quiet (fail)
                  go_wp2_with fail
                  go_roundw
                  case rel => exact ⟨m + 1, by omega, by go_num, by rw [H5.out]; exact HSM.out.below (below_drewN (Below.refl _ _) _)⟩
                  case measure => simp [intOf]; omega
            · obtain rfl : m = n := by omega
              have hsn := HSTEPS.out.snoc hpk.out
              have hwl := Lin.pick_weight hpk.out
              have hrb := rem_bmp (rows := nums rs) (ats := ats) (by rw [HAL.out, nums_length, hlr]) x
              rw [HREST.out, nums_length, hlr] at hrb
              have HSN := Lib.hid hsn
              have HWL := Lib.hid hwl
              have HRB := Lib.hid hrb
              have HSM := Lib.hid hsm
              clear hsn hwl hrb hsm
              go_wp2_with fail
              go_roundg (Lin.weight (Lin.strip x rest))
              case measure => have := HWL.out; have := HWT.out; omega
              case rel => exact ⟨out ++ [x], bmp x rest ats m, HSM.out, by unfold Hid; rw [bmp_length, HAL.out], by unfold Hid; rw [HRB.out]; exact HSN.out, by unfold Hid; rw [HRB.out]; exact Nat.le_refl _⟩
      · by_cases hlt : k < n
        · obtain ⟨b, o, Ak, nk, ck, xk, a, rfl, h1, h2, h3, h4, h5⟩ := HROW.out k hlt
          have hn1 := h3.le
          have hxl := h3.1
          have H4 := Lib.hid h4
          have h3q : ∀ q', RdI (W.drewN q') Ak nk ck xk := fun q' => h3.new (below_drewN (Below.refl _ _) q')
          have H3 := Lib.hid h3
          clear h3 h4 h5 h3q
          have hst2 : ∃ f6, u6 = .bool f6 ∧ u7 = .bool false ∧ Hid (Lin.void (rest.take k) = !f6) ∧ Hid (pickTo rest k = none) := by
            rcases hcase with ⟨e1, e2, e3, e4⟩ | ⟨e1, e2, e3, e4⟩ | h
            · exact ⟨false, e2, e1, e3, e4⟩
            · exact ⟨true, e2, e1, e3, e4⟩
            · exact absurd h hfound
          clear hcase hfound
          obtain ⟨f6, rfl, rfl, hvd, hpk⟩ := hst2
          by_cases hge : nk ≤ a
          · have hd : decide (nk ≤ a) = true := by simpa using hge
            have he : rest[k]? = some [] := by rw [H4.out, List.drop_of_length_le (by omega)]
            have HPV := Lib.hid (pickTo_void he)
            clear he
            go_wp2_with fail
            go_quiet (fail)
            go_wp2_with fail
            go_roundw
            case rel =>
              refine ⟨k + 1, by omega, by go_num, ⟨_, rfl⟩, ?_⟩
              cases f6
              · exact .inl ⟨rfl, rfl, HPV.out.2.trans hvd.out, HPV.out.1.trans hpk.out⟩
              · exact .inr (.inl ⟨rfl, rfl, HPV.out.2.trans hvd.out, HPV.out.1.trans hpk.out⟩)
            case measure => simp [intOf]; omega
          · have hlt2 : a < nk := by omega
            have hd : decide (nk ≤ a) = false := by simpa using hlt2
            obtain ⟨b2, o2, rfl, hb2, h6⟩ := H3.out.at_ hlt2
            have hcons : rest[k]? = some (xk[a] :: xk.drop (a + 1)) := by rw [H4.out, ← List.drop_eq_getElem_cons]
            generalize xk[a] = x at *
            have HCONS := Lib.hid hcons
            clear hcons
            go_wp2_with fail
            go_quiet (fail)
            go_wp2_with fail
            go_quiet (fail)
            go_wp2_with fail
            go_loopw [7, 10] (fun f7 i wr => ∃ (m : Nat) (fb : Bool), m ≤ n ∧ i = .int .i64 m ∧ (∃ q, wr = W.drewN q) ∧ f7 = .bool fb ∧ Hid (tailI (rest.take m) x = !fb)) (fun _ i _ => n - (intOf i).toNat)
            case atStart => exact ⟨0, true, Nat.zero_le _, rfl, drw2 _ _ _ _, rfl, rfl⟩
            case round =>
              obtain ⟨m, fb, hm, rfl, ⟨q2, rfl⟩, rfl, hfb⟩ := hrel
              by_cases hltm : m < n
              · obtain ⟨b', o', Am, nm, cm, xm, am, e', g1, g2, g3, g4, g5⟩ := HROW.out m hltm
                cases e'
                have hnm1 := g3.le
                have hxm := g3.1
                have hts := tailTo_step g4 x
                rw [hfb.out] at hts
                have G3 := Lib.hid (fun q' => g3.new (below_drewN (Below.refl W.heap.size W) q'))
                by_cases hgm : nm ≤ am
                · have hdm : decide (am < nm) = false := by simpa using hgm
                  rw [List.drop_of_length_le (by omega)] at hts
                  have HTS := Lib.hid hts
                  clear g3 g4 g5 hts
                  go_wp2_with fail
                  go_quiet (fail)
                  go_wp2_with fail
                  go_roundw
                  case rel => exact ⟨m + 1, fb, by omega, by go_num, ⟨_, rfl⟩, rfl, by unfold Hid; rw [HTS.out]; simp [hasI]⟩
                  case measure => simp [intOf]; omega
                · have hlm : am < nm := by omega
                  have hdm : decide (am < nm) = true := by simpa using hlm
                  rw [List.tail_drop] at hts
                  cases hh : hasI (xm.drop (am + 1)) x
                  · rw [hh] at hts
                    have HH := Lib.hid hh
                    have HTS := Lib.hid hts
                    clear g3 g4 g5 hts hh
                    go_wp2_with fail
                    go_quiet ((go_at_call 31; exact quiet_sum (tail_is (G3.out _) hlm HH.out)))
                    go_wp2_with fail
                    go_roundw
                    case rel => exact ⟨m + 1, fb, by omega, by go_num, ⟨_, rfl⟩, rfl, by unfold Hid; rw [HTS.out]; simp⟩
                    case measure => simp [intOf]; omega
                  · rw [hh] at hts
                    have HH := Lib.hid hh
                    have HTS := Lib.hid hts
                    clear g3 g4 g5 hts hh
                    go_wp2_with fail
                    go_quiet ((go_at_call 31; exact quiet_sum (tail_is (G3.out _) hlm HH.out)))
                    go_wp2_with fail
                    go_roundw
                    case rel => exact ⟨m + 1, false, by omega, by go_num, ⟨_, rfl⟩, rfl, by unfold Hid; rw [HTS.out]; simp⟩
                    case measure => simp [intOf]; omega
              · obtain rfl : m = n := by omega
                have hf := hfb.out
                rw [List.take_of_length_le (by rw [HRL.out]; exact Nat.le_refl _)] at hf
                cases fb
                · have HPV := Lib.hid (pickTo_not HCONS.out (by simpa using hf))
                  clear hf
                  go_wp2_with fail
                  go_roundw
                  case rel => exact ⟨k + 1, by omega, by go_num, ⟨_, rfl⟩, .inr (.inl ⟨rfl, rfl, HPV.out.2, HPV.out.1.trans hpk.out⟩)⟩
                  case measure => simp [intOf]; omega
                · have HPV := Lib.hid (pickTo_yes HCONS.out (by simpa using hf) hpk.out)
                  clear hf
                  go_wp2_with fail
                  go_roundw
                  case rel => exact ⟨k + 1, by omega, by go_num, ⟨_, rfl⟩, .inr (.inr ⟨x, rfl, rfl, rfl, HPV.out⟩)⟩
                  case measure => simp [intOf]; omega
        · obtain rfl : k = n := by omega
          have hst2 : ∃ f6, u6 = .bool f6 ∧ u7 = .bool false ∧ Hid (Lin.void (rest.take k) = !f6) ∧ Hid (pickTo rest k = none) := by
            rcases hcase with ⟨e1, e2, e3, e4⟩ | ⟨e1, e2, e3, e4⟩ | h
            · exact ⟨false, e2, e1, e3, e4⟩
            · exact ⟨true, e2, e1, e3, e4⟩
            · exact absurd h hfound
          clear hcase hfound
          obtain ⟨f6, rfl, rfl, hvd, hpk⟩ := hst2
          have hv := hvd.out
          have hp := hpk.out
          rw [pickTo_all (by rw [HRL.out]; exact Nat.le_refl _)] at hp
          rw [List.take_of_length_le (by rw [HRL.out]; exact Nat.le_refl _)] at hv
          have hmg := HSTEPS.out.merge
          rw [Lin.merge_none hp, hv] at hmg
          cases f6
          · have hmg : Lin.merge (nums rs) = some out := by rw [hmg]; simp
            have HMG := Lib.hid hmg
            clear hv hp hmg
            go_wp2_with fail
            refine bodyPost_ret (results_tmp2 rfl _ _ _) rfl ?_
            exact MergeEnd.some_ HMG.out (HST.out.o.below (below_drewN (Below.refl _ _) _))
          · have hmg : Lin.merge (nums rs) = none := by rw [hmg]; simp
            have HMG := Lib.hid hmg
            have HBL := Lib.hid HST.out.o.bel
            clear hv hp hmg
            go_wp2_with fail
            refine bodyPost_ret (results_tmp2 rfl _ _ _) rfl ?_
            exact MergeEnd.none_ HMG.out (below_drewN HBL.out _)
end Go.Proofs.Ytbfjkjkanckcjaa
