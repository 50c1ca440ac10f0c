/- add: a node more. -/
import Derived.Test.YtjdcicopjipmnaaDoorBad
namespace Go.Proofs.YtjdcicopjipmnaaDoor
open Go.RowKit
set_option linter.unusedVariables false
set_option linter.unusedSimpArgs false
theorem deepest_snoc (s : PS) (kids : List Int) (j : Nat) (x : Int) (h : kids[j]? = some x) : deepest s (kids.take (j + 1)) = max (deepest s (kids.take j)) (deepOf s x) := by
  unfold deepest
  rw [List.take_add_one, h, List.foldl_append]
  rfl
theorem deepest_pos (s : PS) (kids : List Int) : 0 ≤ deepest s kids := by
  unfold deepest
  have : ∀ (l : List Int) (m : Int), 0 ≤ m → 0 ≤ l.foldl (fun m k => max m (deepOf s k)) m := by
    intro l
    induction l with
    | nil => exact fun m h => h
    | cons x l ih => exact fun m h => ih _ (show 0 ≤ max m (deepOf s x) by omega)
  exact this kids 0 (by omega)
theorem wf_of {x : Int} (h : -1 ≤ x ∧ x ≤ 4611686018427387904) : (Lit.int .i64 x).wf = true := by
  simp only [Lit.wf, IntKind.min, IntKind.max, IntKind.signed, IntKind.bits, Bool.and_eq_true, decide_eq_true_eq, if_true]
  omega
/-- what a call of a part leaves -/
def Ret (X : Cx) (F : Nat → Prop) (w : World) (r : PS × Int) (e : Ending) (w' : World) : Prop := e = .returned (.int .i64 r.2) ∧ PAt X F w' r.1 ∧ Keeps X.B w w'
theorem fail_ret {X : Cx} {F : Nat → Prop} {w : World} {s : PS} (h : PAt X F w s) (e at_ : Int) : Calls Tryd.prog 96 #[X.p, .int .i64 e, .int .i64 at_] w fun r w' => r = .returned (.int .i64 (-1)) ∧ PAt X F w' (failP s e at_) ∧ Keeps X.B w w' := by
  refine (fail_any h.p e at_).mono ?_
  rintro r w' ⟨rfl, hp, hm⟩
  have h1 : (failP s e at_).ns = s.ns ∧ (failP s e at_).dp = s.dp ∧ (failP s e at_).at_ = s.at_ := by unfold failP; split <;> exact ⟨rfl, rfl, rfl⟩
  obtain ⟨h2, h3⟩ := h.turn hp hm h1.1 h1.2.1 (by rw [h1.2.2]; exact h.at_)
  exact ⟨rfl, h2, h3⟩
/-- the node is added, in memory too -/
theorem add_fin {X : Cx} {F : Nat → Prop} {w w1 : World} {s s' : PS} {v v' : Value} (h : PAt X F w s) (hv : Blk w X.bb 71 #[v]) (hr : RowN F w v s.ns) (hvB : ∀ g, v.ownBlock = some g → X.B ≤ g)
    (hb : Blk w1 X.bb 71 #[v']) (hv' : ∀ g, v'.ownBlock = some g → v.ownBlock = some g ∨ w.heap.size ≤ g) (hr' : RowN F w1 v' s'.ns) (hm : Mod (fun k => k = X.bb ∨ v.ownBlock = some k) w w1)
    (hat : s'.at_ = s.at_) (hbad : s'.bad = s.bad) (he : s'.e = s.e) (hdl : s'.dp.length = s'.ns.length) {w2 : World} (hk : KnAt w2 X.mb s') (hm2 : Mod (· = X.mb) w1 w2) : PAt X F w2 s' ∧ Keeps X.B w w2 := by
  obtain ⟨Z, eZ, z1, z2⟩ := hr
  obtain ⟨es, clock, em⟩ := h.m.isMap
  have hpb := h.p
  have nB : X.pb ≠ X.bb := hpb.ne_ hv (by decide)
  have nV : v.ownBlock ≠ some X.pb := own_blk_ne z1 hpb (by decide)
  have mp : X.pb ≠ X.mb := fun e => by unfold Blk at hpb; rw [e, em] at hpb; cases hpb
  have mb : X.bb ≠ X.mb := fun e => by unfold Blk at hv; rw [e, em] at hv; cases hv
  have mv : v.ownBlock ≠ some X.mb := fun e => by
    rcases z1.2 with ⟨rfl, _⟩ | ⟨g, c, cur, rfl, hg, _⟩
    · cases e
    · obtain rfl : g = X.mb := by simpa [Value.ownBlock] using e
      rw [em] at hg
      cases hg
  have hp2 : Blk w2 X.pb 98 (pcs X.bb (.slice X.A X.n X.c) X.mb s') := by
    have e1 : pcs X.bb (.slice X.A X.n X.c) X.mb s' = pcs X.bb (.slice X.A X.n X.c) X.mb s := by unfold pcs; rw [hat, hbad, he]
    rw [e1]
    exact (hpb.mod hm (by rintro (e | e); exact nB e; exact nV e)).mod hm2 mp
  have hb2 : Blk w2 X.bb 71 #[v'] := hb.mod hm2 mb
  have kb : ∀ k, k < w.heap.size → ¬ (k = X.bb ∨ v.ownBlock = some k) → k ≠ X.mb → w2.heap[k]? = w.heap[k]? := fun k hk h1 h2 => (hm2.block k (Nat.lt_of_lt_of_le hk hm.size) h2).trans (hm.block k hk h1)
  have low : ∀ k, k < X.B → ¬ (k = X.bb ∨ v.ownBlock = some k) ∧ k ≠ X.mb := fun k hk => ⟨by
    rintro (e | e)
    · have := h.bB; omega
    · have := hvB k e; omega, by have := h.mB; omega⟩
  have hs : w.heap.size ≤ w2.heap.size := Nat.le_trans hm.size hm2.size
  refine ⟨⟨hp2, h.l.keep hs fun b o e hb => kb b hb (low b (h.la b o e)).1 (low b (h.la b o e)).2, h.la, h.pB, h.bB, h.mB, Nat.le_trans h.wB hs, ⟨v', hb2, fun g hg => ?_, ?_⟩, hk, by rw [hat]; exact h.at_, hdl, asp_block h.tab (kb 0 ?_ (low 0 h.b0).1 (low 0 h.b0).2), h.ln, h.b0, h.big, h.ts, fun k hk => Nat.lt_of_lt_of_le (h.fl k hk) hs⟩, ?_⟩
  · rcases hv' g hg with e | e
    · exact hvB g e
    · have := h.wB; omega
  · obtain ⟨Z', e', y1, y2⟩ := hr'
    refine RowN.keep ⟨Z', e', y1, y2⟩ (fun b hb => hm2.block b (y1.lt hb) fun e => ?_) (fun k cs hk _ hc => hm2.block k hk fun e => ?_) (fun k _ hf => hf)
    · rw [e] at hb
      rcases hv' _ hb with e2 | e2
      · exact mv e2
      · have := h.m.lt; omega
    · have h1 := hk
      rw [e] at hc
      have h9 := hm.block X.mb h.m.lt (by rintro (e2 | e2); exact mb e2.symm; exact mv e2)
      rw [h9, em] at hc
      cases hc
  · have := h.wB; have := h.b0; omega
  · refine KeepE.of_mod (S := fun k => (k = X.bb ∨ v.ownBlock = some k) ∨ k = X.mb) (Mod.trans (Mod.mono hm fun _ _ => .inl) hm2 fun _ _ e => .inr e) fun k hk hS => .inr ?_
    rcases hS with (e | e) | e
    · rw [e]
      refine ⟨h.bB, fun cs t hc => .inr (.inr ?_)⟩
      unfold Blk at hv
      rw [hv] at hc
      injection hc with hc
      injection hc with _ ht
      exact ht.symm
    · refine ⟨hvB k e, fun cs t hc => .inl ?_⟩
      rcases z1.2 with ⟨rfl, _⟩ | ⟨g, c, cur, rfl, hg, _⟩
      · cases e
      · obtain rfl : g = k := by simpa [Value.ownBlock] using e
        rw [hg] at hc
        injection hc with hc
        injection hc with _ ht
        exact ht.symm
    · rw [e]
      refine ⟨h.mB, fun cs t hc => ?_⟩
      rw [em] at hc
      cases hc
theorem add_mid {X : Cx} {F : Nat → Prop} {w w1 : World} {s : PS} {v : Value} (h : PAt X F w s) (hv : Blk w X.bb 71 #[v]) (hr : RowN F w v s.ns) (hm : Mod (fun k => k = X.bb ∨ v.ownBlock = some k) w w1) : KnAt w1 X.mb s ∧ Blk w1 X.pb 98 (pcs X.bb (.slice X.A X.n X.c) X.mb s) := by
  obtain ⟨Z, eZ, z1, z2⟩ := hr
  obtain ⟨es, clock, em⟩ := h.m.isMap
  have hpb := h.p
  have nB : X.pb ≠ X.bb := hpb.ne_ hv (by decide)
  have nV : v.ownBlock ≠ some X.pb := own_blk_ne z1 hpb (by decide)
  have mb : X.bb ≠ X.mb := fun e => by unfold Blk at hv; rw [e, em] at hv; cases hv
  have mv : v.ownBlock ≠ some X.mb := fun e => by
    rcases z1.2 with ⟨rfl, _⟩ | ⟨g, c, cur, rfl, hg, _⟩
    · cases e
    · obtain rfl : g = X.mb := by simpa [Value.ownBlock] using e
      rw [em] at hg
      cases hg
  exact ⟨h.m.keep (hm.block _ h.m.lt (by rintro (e | e); exact mb e.symm; exact mv e)) rfl rfl, hpb.mod hm (by rintro (e | e); exact nB e; exact nV e)⟩
theorem deepOf_new {s : PS} {x : NodeD} {d : Int} (hdl : s.dp.length = s.ns.length) : (deepOf { s with ns := s.ns ++ [x], dp := s.dp ++ [d] } s.ns.length = d ∧ placeOf { s with ns := s.ns ++ [x], dp := s.dp ++ [d] } s.ns.length = x.at_) ∧
    ∀ j : Int, j ≠ s.ns.length → deepOf { s with ns := s.ns ++ [x], dp := s.dp ++ [d] } j = deepOf s j ∧ placeOf { s with ns := s.ns ++ [x], dp := s.dp ++ [d] } j = placeOf s j := by
  refine ⟨⟨?_, ?_⟩, fun j hj => ⟨?_, ?_⟩⟩
  · unfold deepOf
    rw [if_neg (by omega)]
    simp [← hdl]
  · unfold placeOf
    rw [if_neg (by omega)]
    simp
  · unfold deepOf
    simp only
    split
    · rfl
    · rename_i h0
      by_cases h1 : j.toNat < s.dp.length
      · rw [List.getElem?_append_left h1]
      · rw [List.getElem?_eq_none (by simp; omega), List.getElem?_eq_none (by omega)]
  · unfold placeOf
    simp only
    split
    · rfl
    · rename_i h0
      by_cases h1 : j.toNat < s.ns.length
      · rw [List.getElem?_append_left h1]
      · rw [List.getElem?_eq_none (by simp; omega), List.getElem?_eq_none (by omega)]
theorem fld0 (u v : Value) (w : World) : (Instr.field 115 (.agg #[u, v]) 0).run Tryd.prog w = .ok u w := by kernel_rfl
theorem fld1 (u v : Value) (w : World) : (Instr.field 115 (.agg #[u, v]) 1).run Tryd.prog w = .ok v w := by kernel_rfl
set_option maxRecDepth 100000 in
set_option maxHeartbeats 4000000 in
theorem add_any {X : Cx} {F : Nat → Prop} {w : World} {s : PS} {A : Option Addr} {k c : Nat} {kids : List Int} (h : PAt X F w s) (hk : Rd w A k c 1 (ics kids)) (hkl : kids.length = k) (hkb : k ≤ 4398046511103) (hin : ∀ x ∈ kids, -1 ≤ x ∧ x ≤ 4611686018427387904)
    (op at_ n : Int) (t : ByteArray) (hcap : (addP s op at_ t n kids).1.ns.length ≤ 1099511627776) :
    Calls Tryd.prog 79 #[X.p, .int .i64 op, .int .i64 at_, .string t, .int .i64 n, .slice A k c] w (Ret X F w (addP s op at_ t n kids)) := by
  unfold Ret
  have HP := Lib.hid h
  have HK := Lib.hid hk
  have hM := Lib.hid h.m
  have hlt := h.lt.1
  have c5 := h.p.cell 5
  have c4 := h.p.cell 4
  have c2 := h.p.cell 2
  have c0 := h.p.cell 0
  simp only [pcs, List.getElem?_toArray, List.getElem?_cons_zero, List.getElem?_cons_succ] at c5 c4 c2 c0
  have HI := Lib.hid hin
  have HC := Lib.hid hcap
  have hkq := hk.le
  clear h hk hin hcap
  go_enter Tryd.func79, Tryd.ntmps79
  go_wp2_with fail
  go_loopw [13, 19] (fun d i wr => ∃ j : Nat, j ≤ k ∧ i = .int .i64 j ∧ d = .int .i64 (deepest s (kids.take j)) ∧ wr = w) (fun _ i _ => k - (intOf i).toNat)
  case atStart => exact ⟨0, Nat.zero_le _, rfl, rfl, rfl⟩
  case round =>
    obtain ⟨j, hj, rfl, rfl, rfl⟩ := hrel
    by_cases hlt2 : j < k
    · obtain ⟨b, o, rfl, hb, hc⟩ := HK.out.2.2.2 (by omega)
      obtain ⟨x, hx⟩ : ∃ x, kids[j]? = some x := ⟨_, List.getElem?_eq_getElem (by omega)⟩
      have hce : wr.cell? ⟨b, o + j, none⟩ = some (.int .i64 x) := hc j _ (by rw [ics, List.getElem?_map, hx]; rfl)
      have hlk := hM.out.look (wf_of (HI.out x (List.mem_of_getElem? hx)))
      have hf0 := fld0 (.int .i64 (deepOf s x)) (.int .i64 (placeOf s x)) wr
      have HX := Lib.hid hx
      clear hx hc
      go_wp2_with fail
      go_round
      case rel => exact ⟨j + 1, by omega, by go_num, by rw [deepest_snoc s kids j x HX.out], trivial⟩
      case measure => simp [intOf]; omega
    · obtain rfl : j = k := by omega
      have e1 : kids.take j = kids := List.take_of_length_le (Nat.le_of_eq hkl)
      rw [e1]
      generalize hD : deepest s kids = d
      have HD := Lib.hid hD
      clear hD e1
      by_cases he : s.e = 0
      · by_cases hd : 40 ≤ d
        · have hd' : decide (40 ≤ d) = true := decide_eq_true hd
          have er : addP s op at_ t n kids = (failP s 32 s.at_, -1) := by unfold addP; rw [if_neg (by simpa using he), HD.out, if_pos hd]
          have ER := Lib.hid er
          clear er
          rw [he] at c4
          have K := Lib.hid (fail_ret HP.out 32 s.at_)

          go_wp2_with (go_at_call 96; refine K.out.mono ?_; rintro e w1 ⟨rfl, h1, h2⟩; have H1 := Lib.hid h1; have H2 := Lib.hid h2; clear h1 h2)
          go_ret
          rw [ER.out]
          exact ⟨rfl, H1.out, H2.out⟩
        · have hd' : decide (40 ≤ d) = false := decide_eq_false hd
          obtain ⟨s', hS⟩ : ∃ s' : PS, s' = { s with ns := s.ns ++ [⟨op, at_, t, n, kids.filter fun k => decide (0 ≤ k ∧ k < s.ns.length)⟩], dp := s.dp ++ [d + 1] } := ⟨_, rfl⟩
          have er : addP s op at_ t n kids = (s', (s.ns.length : Int)) := by unfold addP; rw [if_neg (by simpa using he), HD.out, if_neg hd, hS]
          have hc := HC.out
          rw [er] at hc
          have ER := Lib.hid er
          rw [he] at c4
          have hl : s'.ns.length = s.ns.length + 1 := by rw [hS]; simp
          simp only at hc
          obtain ⟨v, hv, hvB, hr⟩ := HP.out.t
          have K := Lib.hid (badd_any hv hr HP.out.fl (by omega) HK.out hkl hkb op at_ n t)
          have HV := Lib.hid hv
          have HR := Lib.hid hr
          have HVB := Lib.hid hvB
          have HS := Lib.hid hS
          have HL := Lib.hid hl
          clear hv hr hvB hS hl hc er
          have hdx : 0 ≤ d ∧ d < 40 := ⟨by rw [← HD.out]; exact deepest_pos s kids, by omega⟩
          have hwd : IntKind.i64.wrap (d + 1) = d + 1 := IntWalk.i64_in _ (by omega)
          have hq := HC.out
          rw [ER.out] at hq
          simp only at hq
          rw [HL.out] at hq
          have HQ := Lib.hid hq
          clear hq
          go_wp2_with (go_at_call 97; refine K.out.mono ?_; rintro e w1 ⟨rfl, v', h1, h2, h3, h4⟩; obtain ⟨hk1, hp1⟩ := add_mid HP.out HV.out HR.out h4; have hz := deepOf_new (x := ⟨op, at_, t, n, kids.filter fun k => decide (0 ≤ k ∧ k < s.ns.length)⟩) (d := d + 1) HP.out.dl; rw [← HS.out] at hz; obtain ⟨w2, hrun, hk2, hm2⟩ := hk1.store (k := s.ns.length) (d := d + 1) (a := at_) (s' := s') (wf_of (by have := HQ.out; omega)) (by have := HQ.out; unfold maxLen; omega) HL.out hz.1 hz.2; have c15 := hp1.cell 5; have hlt1 := hp1.lt; simp only [pcs, List.getElem?_toArray, List.getElem?_cons_zero, List.getElem?_cons_succ] at c15; have H1 := Lib.hid h1; have H2 := Lib.hid h2; have H3 := Lib.hid h3; have H4 := Lib.hid h4; have HK2 := Lib.hid hk2; have HM2 := Lib.hid hm2; clear h1 h2 h3 h4 hk2 hm2 hk1 hp1 hz)
          go_ret
          rw [ER.out]
          have h3 := H3.out
          rw [show s.ns ++ [(⟨op, at_, t, n, kids.filter fun k => decide (0 ≤ k ∧ k < s.ns.length)⟩ : NodeD)] = s'.ns by rw [HS.out]] at h3
          exact ⟨rfl, add_fin HP.out HV.out HR.out HVB.out H1.out H2.out h3 H4.out (by rw [HS.out]) (by rw [HS.out]) (by rw [HS.out]) (by rw [HS.out]; simp [HP.out.dl]) HK2.out HM2.out⟩
      · have he' : (s.e == 0) = false := by simpa using he
        have er : addP s op at_ t n kids = (s, -1) := by unfold addP; rw [if_pos he]
        have ER := Lib.hid er
        clear er
        go_wp2_with fail
        go_ret
        rw [ER.out]
        exact ⟨rfl, HP.out, KeepE.refl _ _ _⟩
end Go.Proofs.YtjdcicopjipmnaaDoor
