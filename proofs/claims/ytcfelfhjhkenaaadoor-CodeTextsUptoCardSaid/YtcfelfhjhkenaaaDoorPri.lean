/- in.program. -/
import Derived.Test.YtcfelfhjhkenaaaDoorCdi
namespace Go.Proofs.YtcfelfhjhkenaaaDoor
open Go.RowKit
attribute [local go_sem] Oper.semAt_some

theorem info_C : (Tryd.prog.info? 49).map (fun i => (i.zero, i.size, i.bytes)) = some (some (.agg #[.string ⟨#[]⟩, .int .i64 0, .int .i64 0, .int .i64 0, .bool false, .slice none 0 0, .slice none 0 0, .slice none 0 0, .slice none 0 0, .slice none 0 0, .slice none 0 0]), 11, 192) := by kernel_rfl
/-- blocks of other types lie as they lay -/
def KeepB (w w' : World) : Prop := ∀ b t cs, Blk w b t cs → t ≠ 49 → t ≠ 70 → Blk w' b t cs
theorem own_keepB {w w' : World} {t : TypeId} {sz n : Nat} {v : Value} {cs : List Value} (h : Own w t sz v n cs) (k : KeepB w w') (h1 : t ≠ 49) (h2 : t ≠ 70) : Own w' t sz v n cs := by
  refine ⟨h.1, ?_⟩
  rcases h.2 with h2' | ⟨g, c, cur, rfl, hg, r⟩
  · exact .inl h2'
  · exact .inr ⟨g, c, cur, rfl, k g t cur hg h1 h2, r⟩
theorem CodeV.keepB {w w' : World} {c : CodeD} {v : Value} (h : CodeV w c v) (k : KeepB w w') : CodeV w' c v := by
  obtain ⟨v5, v6, v7, v8, v9, v10, e, h5, h6, h7, h8, h9, h10⟩ := h
  exact ⟨v5, v6, v7, v8, v9, v10, e, own_keepB h5 k (by decide) (by decide), own_keepB h6 k (by decide) (by decide), own_keepB h7 k (by decide) (by decide), own_keepB h8 k (by decide) (by decide), own_keepB h9 k (by decide) (by decide), own_keepB h10 k (by decide) (by decide)⟩
theorem keepB_modx {w w' : World} {x : Nat} {s : Value} (hB : Blk w x 70 #[s]) (hm : Mod (fun i => i = x) w w') : KeepB w w' := fun _ _ _ hb _ h2 => hb.mod hm fun e => Blk.ne_ hb hB h2 e
theorem keepB_new {w w' : World} (hb : Below w.heap.size w w') : KeepB w w' := fun _ _ _ h _ _ => h.new' hb
theorem keepB_grown {w w' : World} {sz n : Nat} {v : Value} {cs : List Value} (ho : Own w 49 sz v n cs) (hg : w.grownBy w' v.ownBlock) : KeepB w w' := fun _ _ _ hb h1 _ => hb.grown hg fun e => own_blk_ne ho hb (Ne.symm h1) e.symm
/-- the codes read so far, as cells -/
def CodesV (w : World) (p : List CodeD) (css : List (List Value)) : Prop := css.length = p.length ∧ ∀ (i : Nat) (c : CodeD) (cs : List Value), p[i]? = some c → css[i]? = some cs → CodeV w c (.agg cs.toArray)
theorem CodesV.keepB {w w' : World} {p : List CodeD} {css : List (List Value)} (h : CodesV w p css) (k : KeepB w w') : CodesV w' p css := ⟨h.1, fun i c cs h1 h2 => (h.2 i c cs h1 h2).keepB k⟩
theorem CodesV.snoc {w : World} {p : List CodeD} {css : List (List Value)} {c : CodeD} {cs : List Value} (h : CodesV w p css) (hc : CodeV w c (.agg cs.toArray)) : CodesV w (p ++ [c]) (css ++ [cs]) := by
  refine ⟨by simp [h.1], fun i c' cs' h1 h2 => ?_⟩
  rcases Nat.lt_trichotomy i p.length with hi | hi | hi
  · rw [List.getElem?_append_left hi] at h1
    rw [List.getElem?_append_left (by rw [h.1]; exact hi)] at h2
    exact h.2 i c' cs' h1 h2
  · subst hi
    rw [List.getElem?_append_right (Nat.le_refl _), Nat.sub_self] at h1
    rw [List.getElem?_append_right (by rw [h.1]; exact Nat.le_refl _), h.1, Nat.sub_self] at h2
    simp at h1 h2
    subst h1 h2
    exact hc
  · rw [List.getElem?_eq_none (by simp; omega)] at h1
    cases h1
theorem own_rdS {w : World} {l : List ByteArray} {v : Value} (h : ListV w l v) : ∃ A c, v = .slice A l.length c ∧ RdS w A l.length c l := by
  obtain ⟨A, c, e, h1, _⟩ := Own.rd h
  exact ⟨A, c, e, rfl, h1⟩
theorem own_rdF {α : Type} {f : α → List Value} {m : Nat} {w : World} {l : List α} {v : Value} {t : TypeId} (h : Own w t m v l.length (l.flatMap f)) : ∃ A c, v = .slice A l.length c ∧ RdF f m w A l.length c l := by
  obtain ⟨A, c, e, h1, _⟩ := Own.rd h
  exact ⟨A, c, e, rfl, h1⟩
theorem CodeV.at_ {w : World} {c : CodeD} {cs : List Value} (h : CodeV w c (.agg cs.toArray)) : CodeAt w c cs ∧ cs.length = 11 := by
  obtain ⟨v5, v6, v7, v8, v9, v10, e, h5, h6, h7, h8, h9, h10⟩ := h
  obtain ⟨A1, c1, rfl, r1⟩ := own_rdS h5
  obtain ⟨A2, c2, rfl, r2⟩ := own_rdS h6
  obtain ⟨A3, c3, rfl, r3⟩ := own_rdS h7
  obtain ⟨A4, c4, rfl, r4⟩ := own_rdS h8
  obtain ⟨A5, c5, rfl, r5⟩ := own_rdF h9
  obtain ⟨A6, c6, rfl, r6⟩ := own_rdF h10
  simp only [Value.agg.injEq] at e
  have e := congrArg Array.toList e
  simp only at e
  subst e
  exact ⟨⟨A1, _, c1, A2, _, c2, A3, _, c3, A4, _, c4, A5, _, c5, A6, _, c6, rfl, r1, r2, r3, r4, r5, r6⟩, rfl⟩
theorem codes_prog {w : World} {p : List CodeD} {css : List (List Value)} {v : Value} (h : CodesV w p css) (ho : Own w 49 11 v p.length (css.flatMap id)) : ∃ A c, v = .slice A p.length c ∧ ProgAt w A p.length c p := by
  obtain ⟨A, c, e, h1, _⟩ := Own.rd ho
  refine ⟨A, c, e, rfl, css, h.1, fun cs hc => ?_, fun i x cs hx hcs => (h.2 i x cs hx hcs).at_.1, h1⟩
  obtain ⟨i, hi, rfl⟩ := List.getElem_of_mem hc
  have hx : p[i]? = some (p[i]'(by rw [← h.1]; exact hi)) := List.getElem?_eq_getElem _
  exact (h.2 i _ _ hx (List.getElem?_eq_getElem hi)).at_.2
def ReadP (w : World) (x : Nat) (r : Except Int (List CodeD)) (e : Ending) (w' : World) : Prop :=
  Mod (fun i => i = x) w w' ∧ match r with
  | .ok p => ∃ css v, e = .returned v ∧ CodesV w' p css ∧ Own w' 49 11 v p.length (css.flatMap id)
  | .error y => e = .panicked [{ v := .iface 24 (.int .i64 y), recovered := false }]
theorem bindP_assoc {α β γ : Type} (p : Par α) (f : α → Par β) (g : β → Par γ) (l : List UInt8) : bindP (bindP p f) g l = bindP p (fun x => bindP (f x) g) l := by
  unfold bindP
  cases p l <;> rfl
theorem cell_oneCell {w : World} {c : CodeD} {cs : List Value} (h : CodeV w c (.agg cs.toArray)) : ∀ u ∈ cs, u.oneCell' = true := by
  obtain ⟨A1, n1, c1, A2, n2, c2, A3, n3, c3, A4, n4, c4, A5, n5, c5, A6, n6, c6, rfl, -⟩ := h.at_.1.parts
  simp [Value.oneCell']
theorem code_cells (w : World) (cs : List Value) : ∀ j u, cs[j]? = some u → (w.alloc (.cells cs.toArray 49)).cell? ((⟨w.heap.size, 0, none⟩ : Addr).add j) = some u := by
  intro j u hu
  rw [show (⟨w.heap.size, 0, none⟩ : Addr).add j = ⟨w.heap.size, j, none⟩ from by unfold Addr.add; split <;> simp_all, (Blk.new w 49 cs.toArray).cell]
  simpa using hu

set_option maxRecDepth 100000 in
set_option maxHeartbeats 2000000 in
theorem program_in {w : World} {x : Nat} {l : List UInt8} (h : Blk w x 70 #[.string (bstr l)]) :
    Calls Tryd.prog 36 #[.pointer (some ⟨x, 0, none⟩)] w (ReadP w x (decE l)) := by
  have hlt0 := h.lt
  have kc := Lib.run_convert_bytes_const (P := Tryd.prog) w 30 5 #[.int .u8 75, .int .u8 82, .int .u8 65, .int .u8 73, .int .u8 84, .int .u8 49] 6 6 Tryd.underlying30 und5
  simp only [List.size_toArray, List.length_cons, List.length_nil, Nat.zero_add, Nat.reduceAdd] at kc
  have hb0 : Below w.heap.size w (w.alloc (.cells #[.int .u8 75, .int .u8 82, .int .u8 65, .int .u8 73, .int .u8 84, .int .u8 49] 5 (6, 7))) := (by repeat (first | exact Below.refl _ _ | assumption | refine Below.setCell ?_ (by first | (simp; done) | (simp; omega) | omega) _ | refine below_drewN ?_ _ | refine Below.drew ?_ | refine Below.alloc ?_ (by first | (simp; done) | (simp; omega) | omega) _))
  have hcells : ∀ j (b : UInt8), headB[j]? = some b → (w.alloc (.cells #[.int .u8 75, .int .u8 82, .int .u8 65, .int .u8 73, .int .u8 84, .int .u8 49] 5 (6, 7))).cell? ⟨w.heap.size, j, none⟩ = some (.int .u8 b.toNat) := fun j b hb => by
    rw [Joins.cell_alloc_mark_at w _ 5 (6, 7) w.heap.size j rfl]
    have hj := (List.getElem?_eq_some_iff.1 hb).1
    have hj : j < 6 := hj
    rcases (show j = 0 ∨ j = 1 ∨ j = 2 ∨ j = 3 ∨ j = 4 ∨ j = 5 by omega) with rfl | rfl | rfl | rfl | rfl | rfl <;> (cases hb; rfl)
  have hw1 : w.heap.size < (w.alloc (.cells #[.int .u8 75, .int .u8 82, .int .u8 65, .int .u8 73, .int .u8 84, .int .u8 49] 5 (6, 7))).heap.size := by simp
  have HB0 := Lib.hid (h.new' hb0)
  have HM0 := Lib.hid (Mod.new (S := fun i => i = x) hb0)
  have HC0 := Lib.hid (And.intro hcells hw1)
  clear h hb0 hcells hw1
  go_enter Tryd.func36, Tryd.ntmps36
  go_wp2_with fail
  clear kc
  generalize w.alloc (.cells #[.int .u8 75, .int .u8 82, .int .u8 65, .int .u8 73, .int .u8 84, .int .u8 49] 5 (6, 7)) = W1 at *
  go_loopw [9] (fun i wr => ∃ (j : Nat) (q : List UInt8), j ≤ 6 ∧ i = .int .i64 j ∧ progP l = bindP (headP (headB.drop j)) (fun _ => cntP codeP 1000) q ∧ Blk wr x 70 #[.string (bstr q)] ∧ Mod (fun i => i = x) w wr ∧
    (∀ j (b : UInt8), headB[j]? = some b → wr.cell? ⟨w.heap.size, j, none⟩ = some (.int .u8 b.toNat)) ∧ w.heap.size < wr.heap.size) (fun i _ => 6 - (intOf i).toNat)
  case atStart => exact ⟨0, l, by omega, rfl, rfl, HB0.out, HM0.out, HC0.out⟩
  case round =>
    clear HB0 HM0 HC0
    obtain ⟨j, q, hj, rfl, hN, hB, hM, hC, hw⟩ := hrel
    by_cases hlt : j < 6
    · obtain ⟨b, hb⟩ : ∃ b, headB[j]? = some b := ⟨_, List.getElem?_eq_getElem (by show j < 6; exact hlt)⟩
      have e0 := hC j b hb
      have hdrop : headB.drop j = b :: headB.drop (j + 1) := by
        obtain ⟨h1, h2⟩ := List.getElem?_eq_some_iff.1 hb
        rw [← h2, List.getElem_cons_drop]
      rw [hdrop, headP, bindP_assoc] at hN
      have HN := Lib.hid hN
      have HB := Lib.hid hB
      have HM := Lib.hid hM
      have HC := Lib.hid hC
      clear hN hB hM hC hb hdrop
      go_wp2_with fail
      refine (among_any HB.out b.toNat b.toNat).mono ?_
      rintro e w3 ht
      rcases took_cases ht with ⟨y, hx, rfl, hm⟩ | ⟨ob, q1, u, hx, rfl, rfl, hB, hm⟩
      · refine ⟨rfl, mod_trans HM.out hm, ?_⟩
        rw [decE, step_err HN.out hx]
      have HN3 := Lib.hid (step_ok HN.out hx)
      have HB3 := Lib.hid hB
      have HM3 := Lib.hid (mod_trans HM.out hm)
      have HC3 := Lib.hid (fun j (b : UInt8) (h : headB[j]? = some b) => (hm.cell (p := ⟨w.heap.size, j, none⟩) hw (by show ¬ w.heap.size = x; omega)).trans (HC.out j b h))
      have hw3 := Nat.lt_of_lt_of_le hw hm.size
      clear ht hx hB hm HN HB HM HC e0
      go_wp2
      go_roundw
      case rel => exact ⟨j + 1, q1, by omega, by go_num, HN3.out, HB3.out, HM3.out, HC3.out, hw3⟩
      case measure => simp [intOf]; omega
    · obtain rfl : j = 6 := by omega
      have hN2 : progP l = bindP (numP 1000) (repP codeP) q := hN
      have HN := Lib.hid hN2
      have HB := Lib.hid hB
      have HM := Lib.hid hM
      clear hN hN2 hB hM hC hw
      obtain ⟨wo, rfl⟩ : ∃ wo, wo = wr := ⟨_, rfl⟩
      go_wp2_with fail
      refine (number_in HB.out 1000 (by omega)).mono ?_
      rintro e w7 ht
      rcases took_cases ht with ⟨y, hx, rfl, hm⟩ | ⟨n, r1, u, hx, rfl, rfl, hB, hm⟩
      · refine ⟨rfl, mod_trans HM.out hm, ?_⟩
        rw [decE, step_err HN.out hx]
      have hn : n ≤ 1000 := by
        obtain ⟨_, a, h1, _⟩ := (num_good 1000).inv _ _ _ hx
        exact (cntB_ok h1).1
      have HP := Lib.hid (step_ok HN.out hx)
      have HB7 := Lib.hid hB
      have HM7 := Lib.hid (mod_trans HM.out hm)
      clear HN HB HM ht hx hB hm
      obtain ⟨i0, hi, hz0, hz1, hz2⟩ := info_parts info_C
      have HI := Lib.hid (And.intro hi (And.intro hz0 (And.intro hz1 hz2)))
      clear hi hz0 hz1 hz2
      go_wp2_with fail
      go_loopw [5, 20] (fun lv i wr => ∃ (k : Nat) (p : List CodeD) (css : List (List Value)) (q : List UInt8), k ≤ n ∧ i = .int .i64 k ∧ repP codeP k r1 = .ok (p, q) ∧ CodesV wr p css ∧ wr.ownsRow w.heap.size 49 11 lv p.length (css.flatMap id) ∧ Blk wr x 70 #[.string (bstr q)] ∧ Mod (fun i => i = x) w wr) (fun _ i _ => n - (intOf i).toNat)
      case atStart => exact ⟨0, [], [], r1, by omega, rfl, rfl, ⟨rfl, fun i c cs h => by simp at h⟩, ⟨rfl, .inl ⟨rfl, rfl⟩⟩, HB7.out, HM7.out⟩
      case round =>
        clear HB7 HM7
        obtain ⟨k, p, css, q, hk, rfl, hN, hC, hO, hB, hM⟩ := hrel
        have hpl := repP_len hN
        obtain ⟨A, cc, rfl, -, -⟩ := Own.rd (row_own hO)
        have hpk : p.length ≤ 1000 := by omega
        have hwz := hM.size
        have HN := Lib.hid hN
        have HC := Lib.hid hC
        have HO := Lib.hid hO
        have HB := Lib.hid hB
        have HM := Lib.hid hM
        have HX := Lib.hid hpl
        clear hN hC hO hB hM hpl
        by_cases hlt : k < n
        · go_wp2_with fail
          refine (code_in HB.out).mono ?_
          rintro e w3 ht
          rcases took_cases ht with ⟨y, hx, rfl, hm⟩ | ⟨c, q1, u, hx, rfl, hU, hB, hm⟩
          · refine ⟨rfl, mod_trans HM.out hm, ?_⟩
            rw [decE, HP.out, repP_stop HN.out hx hlt]
          obtain ⟨v5, v6, v7, v8, v9, v10, rfl, -⟩ := id hU
          have hone := cell_oneCell (cs := [.string c.name, .int .i64 c.kind, .int .i64 c.params, .int .i64 c.defaults, .bool c.gen, v5, v6, v7, v8, v9, v10]) hU
          have HU := Lib.hid hU
          have HB3 := Lib.hid hB
          have HM3 := Lib.hid (mod_trans HM.out hm)
          have HO3 := Lib.hid (row_modx HO.out HB.out (by decide) hm)
          have HC3 := Lib.hid (HC.out.keepB (keepB_modx HB.out hm))
          have HN3 := Lib.hid (repP_snoc HN.out hx)
          have HONE := Lib.hid hone
          have hwz3 := (mod_trans HM.out hm).size
          clear ht hx hU hB hm hone HB HM HO HC HN
          go_wp2_with (at_builtin; refine wpList_append_own _ rfl (.tmp 22) (.tmp 25) 23 rfl w.heap.size 49 i0 _ 11 192 Tryd.underlying23 HI.out.1 HI.out.2.1 HI.out.2.2.1 HI.out.2.2.2 rfl (by decide) (.slice A p.length cc) p.length (css.flatMap id) rfl (by exact row_new HO3.out (by repeat (first | exact Below.refl _ _ | assumption | refine Below.setCell ?_ (by first | (simp; done) | (simp; omega) | omega) _ | refine below_drewN ?_ _ | refine Below.drew ?_ | refine Below.alloc ?_ (by first | (simp; done) | (simp; omega) | omega) _))) ⟨w3.heap.size, 0, none⟩ 1 1 [.string c.name, .int .i64 c.kind, .int .i64 c.params, .int .i64 c.defaults, .bool c.gen, v5, v6, v7, v8, v9, v10] rfl rfl (by exact code_cells w3 _) HONE.out (by simp only [maxLen]; omega) (by omega) (by simp; omega) ?_; intro v6' w6 ho6 hg6 _; obtain ⟨h61, h62⟩ := grown_in HM3.out HB3.out HO3.out (by decide) (by repeat (first | exact Below.refl _ _ | assumption | refine Below.setCell ?_ (by first | (simp; done) | (simp; omega) | omega) _ | refine below_drewN ?_ _ | refine Below.drew ?_ | refine Below.alloc ?_ (by first | (simp; done) | (simp; omega) | omega) _)) hg6; have HO6 := Lib.hid ho6; have HB6 := Lib.hid h61; have HM6 := Lib.hid h62; have hk6 : KeepB w3 w6 := fun b t cs hb h1 h2 => keepB_grown (row_own (row_new HO3.out (by repeat (first | exact Below.refl _ _ | assumption | refine Below.setCell ?_ (by first | (simp; done) | (simp; omega) | omega) _ | refine below_drewN ?_ _ | refine Below.drew ?_ | refine Below.alloc ?_ (by first | (simp; done) | (simp; omega) | omega) _)))) hg6 b t cs (keepB_new (by repeat (first | exact Below.refl _ _ | assumption | refine Below.setCell ?_ (by first | (simp; done) | (simp; omega) | omega) _ | refine below_drewN ?_ _ | refine Below.drew ?_ | refine Below.alloc ?_ (by first | (simp; done) | (simp; omega) | omega) _)) b t cs hb h1 h2) h1 h2; have HC6 := Lib.hid ((HC3.out.keepB hk6).snoc (HU.out.keepB hk6)); clear ho6 hg6 h61 h62 hk6)
          go_roundw
          case rel => exact ⟨k + 1, p ++ [c], css ++ [[.string c.name, .int .i64 c.kind, .int .i64 c.params, .int .i64 c.defaults, .bool c.gen, v5, v6, v7, v8, v9, v10]], q1, by omega, by go_num, HN3.out, HC6.out, by rw [List.length_append, List.flatMap_append, show [[Value.string c.name, .int .i64 c.kind, .int .i64 c.params, .int .i64 c.defaults, .bool c.gen, v5, v6, v7, v8, v9, v10]].flatMap id = [.string c.name, .int .i64 c.kind, .int .i64 c.params, .int .i64 c.defaults, .bool c.gen, v5, v6, v7, v8, v9, v10] from List.append_nil _]; exact HO6.out, HB6.out, HM6.out⟩
          case measure => simp [intOf]; omega
        · obtain rfl : k = n := by omega
          have b0 := HB.out.cell 0
          have bl := HB.out.lt
          simp only [List.getElem?_toArray, List.getElem?_cons_zero] at b0
          have hP : progP l = .ok (p, q) := HP.out.trans HN.out
          have HPP := Lib.hid hP
          clear hP
          cases he : (bstr q).toList.isEmpty with
          | true =>
            have hq : q = [] := by
              rw [List.isEmpty_iff, ByteArray.toList_eq, bstr_list] at he
              exact he
            have hd : decE l = .ok p := by rw [decE, HPP.out]; exact if_pos hq
            have HD := Lib.hid hd
            clear hd hq
            go_wp2_with fail
            refine (need_yes 50 _).mono ?_
            rintro e w9 ⟨rfl, rfl⟩
            go_wp2_with fail
            go_ret
            refine ⟨HM.out, ?_⟩
            rw [HD.out]
            exact ⟨css, _, rfl, HC.out, row_own HO.out⟩
          | false =>
            have hq : q ≠ [] := by
              rintro rfl
              rw [ByteArray.toList_eq] at he
              cases he
            have hd : decE l = .error 50 := by rw [decE, HPP.out]; exact if_neg hq
            have HD := Lib.hid hd
            clear hd hq
            go_wp2_with fail
            refine (need_no 50 _).mono ?_
            rintro e w9 ⟨rfl, rfl⟩
            exact ⟨rfl, HM.out, by rw [HD.out]⟩
end Go.Proofs.YtcfelfhjhkenaaaDoor
