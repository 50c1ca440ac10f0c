/- The reference's Encode. -/
import Derived.Test.YtcfelfhjhkenaaaDoorROn
namespace Go.Proofs.YtcfelfhjhkenaaaDoor
open Go.RowKit
set_option linter.unusedVariables false
set_option linter.unusedSimpArgs false
attribute [local go_sem] Oper.semAt_some

theorem codeE_ne {c : CodeD} {a : List UInt8} (h : codeE c = .ok a) : a ≠ [] := by
  rw [codeE_todo] at h
  cases hx : textE c.name with
  | error y => rw [todo_err rfl hx] at h; cases h
  | ok b =>
    have h1 := todo_ok (d := []) rfl hx (B := (andE (numE c.kind) (andE (numE c.params) (andE (numE c.defaults) (andE (.ok [if c.gen then 1 else 0])
      (andE (seqE listE [c.locals, c.cells, c.free, c.names])
      (andE (countE c.consts.length 4096) (andE (seqE valE c.consts) (andE (countE c.ins.length 65536) (seqE insE c.ins))))))))))
    rw [h1] at h
    unfold preE at h
    split at h
    · cases h
    · cases h
      intro h0
      have := (List.append_eq_nil_iff.1 h0).1
      rw [List.nil_append] at this
      exact textE_ne hx this
set_option maxRecDepth 100000 in
set_option maxHeartbeats 2000000 in
theorem rencode_any (w : World) {A : Option Addr} {n c : Nat} {p : List CodeD} (h : ProgAt w A n c p) :
    Calls Tryd.prog 15 #[.slice A n c] w (Encoded w (encE p)) := by
  have hn := h.le
  have ht : encE p = preE headB (andE (countE n 1000) (seqE codeE p)) := by
    rw [← h.1]
    rfl
  generalize encE p = R at *
  have HT0 := Lib.hid ht
  have H := Lib.hid h
  clear h ht
  by_cases hbig : 1000 < n
  · have h1 : decide (1000 < n) = true := decide_eq_true hbig
    have h2 : decide ((1000 : Int) < (n : Int)) = true := decide_eq_true (by omega)
    have HE := Lib.hid (todo_err HT0.out (show countE n 1000 = .error 2 by unfold countE; rw [if_neg (by omega)]))
    go_enter Tryd.func15, Tryd.ntmps15
    go_wp2_with fail
    go_ret2
    rw [HE.out]
    exact ⟨Below.refl _ _, rfl⟩
  have h1 : decide (1000 < n) = false := decide_eq_false hbig
  have h2 : decide ((1000 : Int) < (n : Int)) = false := decide_eq_false (by omega)
  obtain ⟨i0, hi, hz0, hz1, hz2⟩ := info_parts info_B
  have HI := Lib.hid (And.intro hi (And.intro hz0 (And.intro hz1 hz2)))
  clear hi hz0 hz1 hz2
  have HT1 := Lib.hid (todo_ok HT0.out (countE_ok' (n := n) (m := 1000) (by omega) (by omega)))
  have hnl : (numB n).length ≤ 5 := numB_len (by omega) (by simp; omega)
  have HKN : Hid (∀ w', Calls Tryd.prog 28 #[.int .i64 (n : Int)] w' fun e w'' => (∃ v, e = .returned v ∧ NewB w'.heap.size w'' v (numB n)) ∧ Below w'.heap.size w' w'') := Lib.hid fun w' => rnumber_any n (by omega)
  have HNE := Lib.hid (numB_ne n)
  generalize numB n = ns at *
  have kc := Lib.run_convert_bytes_const (P := Tryd.prog) w 30 5 #[.int .u8 75, .int .u8 82, .int .u8 65, .int .u8 73, .int .u8 84, .int .u8 49] 6 6 Tryd.underlying30 und5
  simp only [List.size_toArray, List.length_cons, List.length_nil, Nat.zero_add, Nat.reduceAdd] at kc
  have hcl : ∀ j u, (bcs headB)[j]? = some u → (w.alloc (.cells #[.int .u8 75, .int .u8 82, .int .u8 65, .int .u8 73, .int .u8 84, .int .u8 49] 5 (6, 7))).cell? ⟨w.heap.size, j, none⟩ = some u := by
    intro j u hu
    rw [Joins.cell_alloc_mark_at w _ 5 (6, 7) w.heap.size j rfl, ← hu]
    simp [bcs, headB]
  have HCL := Lib.hid hcl
  have HB0 : Hid (Below w.heap.size w (w.alloc (.cells #[.int .u8 75, .int .u8 82, .int .u8 65, .int .u8 73, .int .u8 84, .int .u8 49] 5 (6, 7)))) := Lib.hid (by repeat (first | exact Below.refl _ _ | assumption | refine Below.setCell ?_ (by first | (simp; done) | (simp; omega) | omega) _ | refine below_drewN ?_ _ | refine Below.drew ?_ | refine Below.alloc ?_ (by first | (simp; done) | (simp; omega) | omega) _))
  have hz1 : w.heap.size < (w.alloc (.cells #[.int .u8 75, .int .u8 82, .int .u8 65, .int .u8 73, .int .u8 84, .int .u8 49] 5 (6, 7))).heap.size := by simp
  clear hcl
  go_enter Tryd.func15, Tryd.ntmps15
  go_wp2_with fail
  clear kc
  generalize w.alloc (.cells #[.int .u8 75, .int .u8 82, .int .u8 65, .int .u8 73, .int .u8 84, .int .u8 49] 5 (6, 7)) = W1 at *
  refine (HKN.out _).mono ?_
  rintro e w2 ⟨⟨v2, rfl, hv2⟩, hb2⟩
  obtain ⟨g2, k2, rfl, hg2, hc2⟩ := hv2.src HNE.out
  have HB2 := Lib.hid (HB0.out.trans (hb2.mono (Nat.le_of_lt hz1)))
  have hwz := HB2.out.size
  have HC2 := Lib.hid hc2
  have HH : Hid (∀ j u, (bcs headB)[j]? = some u → w2.cell? ⟨w.heap.size, j, none⟩ = some u) := Lib.hid fun j u hu => (hb2.cell (p := ⟨w.heap.size, j, none⟩) hz1).trans (HCL.out j u hu)
  clear hv2 hb2 hc2 HCL HB0
  go_wp2_with (at_builtin; refine wpList_append_full rfl (.tmp 13) (.tmp 16) 30 rfl w.heap.size 5 i0 _ 1 1 Tryd.underlying30 HI.out.1 HI.out.2.1 HI.out.2.2.1 HI.out.2.2.2 rfl w.heap.size 6 (bcs headB) rfl rfl (by exact HH.out) ⟨g2, 0, none⟩ ns.length k2 (bcs ns) rfl (by rw [bcs_length, Nat.mul_one]) (by exact HC2.out) (List.length_pos_iff.2 HNE.out) (by omega) (by simp only [maxLen]; omega) (by omega) ?_; intro v6 w6 ho6 hg6; have h7 : NewB w.heap.size w6 v6 (headB ++ ns) := NewB.push ho6; have hb7 := HB2.out.grown hg6 hwz (by intro k hk; cases hk); have HO7 := Lib.hid h7; have HB7 := Lib.hid hb7; clear ho6 hg6 h7 hb7)
  have hDl : (headB ++ ns).length ≤ 11 := by rw [List.length_append]; show 6 + _ ≤ 11; omega
  have hDp : 0 < (headB ++ ns).length := by rw [List.length_append]; show 0 < 6 + _; omega
  clear HC2 HH HB2 h1 h2
  generalize headB ++ ns = D at *
  go_loopw [4, 5] (fun v i wr => ∃ (k : Nat) (d : List UInt8), k ≤ n ∧ i = .int .i64 k ∧ seqE codeE (p.take k) = .ok d ∧ NewB w.heap.size wr v (D ++ d) ∧ Below w.heap.size w wr) (fun _ i _ => n - (intOf i).toNat)
  case atStart => exact ⟨0, [], by omega, rfl, rfl, by rw [List.append_nil]; exact HO7.out, HB7.out⟩
  case round =>
    clear HO7 HB7
    obtain ⟨k, d, hk, rfl, hd, hO, hB⟩ := hrel
    obtain ⟨A4', c4', hv4⟩ := hO.val
    rw [List.length_append] at hv4
    subst hv4
    have HO := Lib.hid hO
    have HB := Lib.hid hB
    have HD := Lib.hid hd
    have hwz := hB.size
    have hdl := seqE_len codeE_len hd
    rw [List.length_take] at hdl
    have hdl2 : min k p.length * 1900000000 ≤ 1000 * 1900000000 := Nat.mul_le_mul_right _ (by omega)
    replace hdl : d.length ≤ 1900000000000 := by omega
    clear hdl2
    by_cases hlt : k < n
    · obtain ⟨x, hx⟩ : ∃ x, p[k]? = some x := ⟨_, List.getElem?_eq_getElem (by rw [H.out.1]; exact hlt)⟩
      obtain ⟨be, oe, cs, rfl, hbe, hcs, hce⟩ := H.out.at_ hx
      obtain ⟨htk, hsp⟩ := take_snoc hx
      have HTK := Lib.hid htk
      have HSP := Lib.hid hsp
      have HONE := Lib.hid (one_any (w := wr) x (hcs.new hB))
      obtain ⟨A1, n1, c1, A2, n2, c2, A3, n3, c3, A4, n4, c4, A5, n5, c5, A6, n6, c6, rfl, -⟩ := hcs.parts
      generalize x.name = nm at *
      generalize x.kind = kd at *
      generalize x.params = pa at *
      generalize x.defaults = de at *
      generalize x.gen = ge at *
      have e0 : wr.cell? ⟨be, oe + k * 11, none⟩ = some (.string nm) := (hB.cell (p := ⟨be, oe + k * 11, none⟩) hbe).trans (hce 0 _ rfl)
      have e1 : wr.cell? ⟨be, oe + k * 11 + 1, none⟩ = some (.int .i64 kd) := (hB.cell (p := ⟨be, oe + k * 11 + 1, none⟩) hbe).trans (hce 1 _ rfl)
      have e2 : wr.cell? ⟨be, oe + k * 11 + 2, none⟩ = some (.int .i64 pa) := (hB.cell (p := ⟨be, oe + k * 11 + 2, none⟩) hbe).trans (hce 2 _ rfl)
      have e3 : wr.cell? ⟨be, oe + k * 11 + 3, none⟩ = some (.int .i64 de) := (hB.cell (p := ⟨be, oe + k * 11 + 3, none⟩) hbe).trans (hce 3 _ rfl)
      have e4 : wr.cell? ⟨be, oe + k * 11 + 4, none⟩ = some (.bool ge) := (hB.cell (p := ⟨be, oe + k * 11 + 4, none⟩) hbe).trans (hce 4 _ rfl)
      have e5 : wr.cell? ⟨be, oe + k * 11 + 5, none⟩ = some (.slice A1 n1 c1) := (hB.cell (p := ⟨be, oe + k * 11 + 5, none⟩) hbe).trans (hce 5 _ rfl)
      have e6 : wr.cell? ⟨be, oe + k * 11 + 6, none⟩ = some (.slice A2 n2 c2) := (hB.cell (p := ⟨be, oe + k * 11 + 6, none⟩) hbe).trans (hce 6 _ rfl)
      have e7 : wr.cell? ⟨be, oe + k * 11 + 7, none⟩ = some (.slice A3 n3 c3) := (hB.cell (p := ⟨be, oe + k * 11 + 7, none⟩) hbe).trans (hce 7 _ rfl)
      have e8 : wr.cell? ⟨be, oe + k * 11 + 8, none⟩ = some (.slice A4 n4 c4) := (hB.cell (p := ⟨be, oe + k * 11 + 8, none⟩) hbe).trans (hce 8 _ rfl)
      have e9 : wr.cell? ⟨be, oe + k * 11 + 9, none⟩ = some (.slice A5 n5 c5) := (hB.cell (p := ⟨be, oe + k * 11 + 9, none⟩) hbe).trans (hce 9 _ rfl)
      have e10 : wr.cell? ⟨be, oe + k * 11 + 10, none⟩ = some (.slice A6 n6 c6) := (hB.cell (p := ⟨be, oe + k * 11 + 10, none⟩) hbe).trans (hce 10 _ rfl)
      have hbr : be < wr.heap.size := by omega
      clear hO hB hd hx htk hsp hce hcs
      cases hx3 : codeE x with
      | error y =>
        have HE := Lib.hid (todo_stop HT1.out (show seqE codeE p = .error y by rw [HSP.out, seqE_stop HD.out hx3]))
        have hy := err_code x y hx3
        have KT : Hid (Calls Tryd.prog 29 #[.agg #[.string nm, .int .i64 kd, .int .i64 pa, .int .i64 de, .bool ge, .slice A1 n1 c1, .slice A2 n2 c2, .slice A3 n3 c3, .slice A4 n4 c4, .slice A5 n5 c5, .slice A6 n6 c6]] wr fun e w'' => Below wr.heap.size wr w'' ∧ e = .returned (.tuple #[.slice none 0 0, .int .i64 y])) := Lib.hid (HONE.out.mono fun e w'' h => h.err hx3)
        clear hx3 HONE
        rcases hy with rfl | rfl
        all_goals
          go_wp2_with fail
          refine KT.out.mono ?_
          rintro e w3 ⟨hb3, rfl⟩
          have HB3 := Lib.hid (HB.out.trans (hb3.mono hwz))
          clear hb3 e0 e1 e2 e3 e4 e5 e6 e7 e8 e9 e10
          go_wp2_with fail
          go_ret2
          rw [HE.out]
          exact ⟨HB3.out, rfl⟩
      | ok cs =>
        have hcl := codeE_len _ _ hx3
        have HCN := Lib.hid (codeE_ne hx3)
        have KT : Hid (Calls Tryd.prog 29 #[.agg #[.string nm, .int .i64 kd, .int .i64 pa, .int .i64 de, .bool ge, .slice A1 n1 c1, .slice A2 n2 c2, .slice A3 n3 c3, .slice A4 n4 c4, .slice A5 n5 c5, .slice A6 n6 c6]] wr fun e w'' => Below wr.heap.size wr w'' ∧ ∃ v, e = .returned (.tuple #[v, .int .i64 0]) ∧ NewB wr.heap.size w'' v cs) := Lib.hid (HONE.out.mono fun e w'' h => h.ok hx3)
        have HD3 := Lib.hid (show seqE codeE (p.take (k + 1)) = .ok (d ++ cs) by rw [HTK.out]; exact seqE_snoc_ok HD.out hx3)
        clear hx3 HONE
        go_wp2_with fail
        refine KT.out.mono ?_
        rintro e w3 ⟨hb3, v3, rfl, hv3⟩
        obtain ⟨g3, k3, rfl, hg3, hc3⟩ := hv3.src HCN.out
        have HO4 := Lib.hid (HO.out.new hb3)
        have HB4 := Lib.hid (HB.out.trans (hb3.mono hwz))
        have HC4 := Lib.hid hc3
        have hwz4 := HB4.out.size
        have hr4 := HO4.out
        unfold NewB at hr4
        rw [List.length_append] at hr4
        have HR4 := Lib.hid hr4
        clear hv3 hb3 hc3 hr4 HO HB e0 e1 e2 e3 e4 e5 e6 e7 e8 e9 e10
        go_wp2_with (at_builtin; refine wpList_append_own _ rfl (.tmp 35) (.tmp 36) 30 rfl w.heap.size 5 i0 _ 1 1 Tryd.underlying30 HI.out.1 HI.out.2.1 HI.out.2.2.1 HI.out.2.2.2 rfl (by decide) (.slice A4' (D.length + d.length) c4') (D.length + d.length) (bcs (D ++ d)) rfl (by exact HR4.out) ⟨g3, 0, none⟩ cs.length k3 (bcs cs) rfl (by rw [bcs_length, Nat.mul_one]) (by exact HC4.out) (bcs_oneCell _) (by simp only [maxLen]; omega) (by omega) (by omega) ?_; intro v6 w6 ho6 hg6 _; obtain ⟨h7, hb7, hk7⟩ := NewB.app (cs := cs) HO4.out HB4.out (Nat.le_refl _) (Below.refl _ _) hg6 (by rw [List.length_append]; exact ho6); have HO7 := Lib.hid h7; have HB7 := Lib.hid hb7; clear ho6 hg6 h7 hb7 hk7)
        go_roundw
        case rel => exact ⟨k + 1, d ++ cs, by omega, by go_num, HD3.out, by rw [← List.append_assoc]; exact HO7.out, HB7.out⟩
        case measure => simp [intOf]; omega
    · obtain rfl : n = k := by omega
      have hd4 : seqE codeE p = .ok d := by
        rw [List.take_of_length_le (by rw [H.out.1]; omega)] at hd
        exact hd
      have HE := Lib.hid (todo_end HT1.out hd4)
      obtain ⟨A5', c5', hv5, hRd, -⟩ := Own.rd (row_own hO)
      rw [List.length_append] at hv5
      injection hv5 with e1 _ e3
      subst e1 e3
      have hcv := conv_rd (w := wr) hRd (by rw [List.length_append]; omega)
      rw [show (D ++ d).length = D.length + d.length from List.length_append] at hcv
      clear hO hB hd hd4 hRd HO HD
      generalize hZ : bstr (D ++ d) = Z at *
      have HZ := Lib.hid hZ
      clear hZ
      go_wp2_with fail
      go_ret2
      refine ⟨HB.out, ?_⟩
      rw [HE.out, ← HZ.out]
      rfl
end Go.Proofs.YtcfelfhjhkenaaaDoor
