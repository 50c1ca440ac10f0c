/- The reference's right, one. -/
import Derived.Test.YtcfelfhjhkenaaaDoorRCn
import Derived.Test.YtcfelfhjhkenaaaDoorLUn
namespace Go.Proofs.YtcfelfhjhkenaaaDoor
open Go.RowKit
set_option linter.unusedVariables false
set_option linter.unusedSimpArgs false
attribute [local go_sem] Oper.semAt_some

theorem right_yes {w : World} (n : Nat) (h : n ≤ 2147483647) : Calls Tryd.prog 44 #[.int .i64 (n : Int)] w fun e w' => e = .returned (.bool true) ∧ w' = w := by
  go_enter Tryd.func44, Tryd.ntmps44
  go_wp2_with fail
  go_ret
  exact ⟨ret_bool (by simp; omega), rfl⟩
theorem right_no {w : World} (n : Int) (h : ¬ (0 ≤ n ∧ n ≤ 2147483647)) : Calls Tryd.prog 44 #[.int .i64 n] w fun e w' => e = .returned (.bool false) ∧ w' = w := by
  by_cases h0 : 0 ≤ n
  · have h1 : decide (n ≤ 2147483647) = false := decide_eq_false (by omega)
    go_enter Tryd.func44, Tryd.ntmps44
    go_wp2_with fail
    go_ret
    exact ⟨rfl, rfl⟩
  · have h1 : decide ((0 : Int) ≤ n) = false := decide_eq_false h0
    go_enter Tryd.func44, Tryd.ntmps44
    go_wp2_with fail
    go_ret
    exact ⟨rfl, rfl⟩
theorem seq3 (f : Int → Res) (a b c : Int) (B : Res) : andE (seqE f [a, b, c]) B = andE (f a) (andE (f b) (andE (f c) B)) := by
  rw [seqE_cons, seqE_cons, seqE_cons, andE_assoc, andE_assoc, andE_assoc]
  congr 3
  show andE (.ok []) B = B
  cases B <;> rfl
/-- behind an append -/
theorem NewB.app {b : Nat} {w wr wa w6 : World} {v v6 : Value} {bs cs : List UInt8} (hO : NewB b wr v bs) (hB : Below b w wr) (hs : b ≤ w.heap.size) (ha : Below wr.heap.size wr wa) (hg : wa.grownBy w6 v.ownBlock)
    (ho : w6.ownsRow b 5 1 v6 (bs.length + cs.length) (bcs bs ++ bcs cs)) : NewB b w6 v6 (bs ++ cs) ∧ Below b w w6 ∧ ∀ g t cs', Blk wr g t cs' → t ≠ 5 → Blk w6 g t cs' := by
  have hz := hB.size
  have hwa : Below b w wa := hB.trans (ha.mono (by omega))
  refine ⟨NewB.push ho, NewB.grown (hO.new ha) hwa (by have := ha.size; omega) hg, fun g t cs' hb ht => ?_⟩
  exact (hb.new' ha).grown hg fun e => own_blk_ne (row_own hO) hb (Ne.symm ht) e.symm
theorem NewB.src {b : Nat} {w : World} {v : Value} {bs : List UInt8} (h : NewB b w v bs) (hne : bs ≠ []) : ∃ g c, v = .slice (some ⟨g, 0, none⟩) bs.length c ∧ g < w.heap.size ∧ ∀ j u, (bcs bs)[j]? = some u → w.cell? ((⟨g, 0, none⟩ : Addr).add j) = some u := by
  obtain ⟨g, c, e, _, h1, h2⟩ := h.some_ hne
  exact ⟨g, c, e, h1, h2⟩
theorem NewB.val {b : Nat} {w : World} {v : Value} {bs : List UInt8} (h : NewB b w v bs) : ∃ A c, v = .slice A bs.length c := by
  obtain ⟨A, c, e, _⟩ := Own.rd (row_own h)
  exact ⟨A, c, e⟩
theorem countE_ok' {n : Nat} {m : Int} (h : (n : Int) ≤ m) (hm : m ≤ 2147483647) : countE n m = .ok (numB n) := by
  unfold countE numE
  rw [if_pos h, if_pos ⟨by omega, by omega⟩]
  rfl
theorem textE_ne {s : ByteArray} {a : List UInt8} (h : textE s = .ok a) : a ≠ [] := by
  unfold textE at h
  split at h <;> cases h
  intro h0
  exact numB_ne _ (List.append_eq_nil_iff.1 h0).1
theorem listE_ne {l : List ByteArray} {a : List UInt8} (h : listE l = .ok a) : a ≠ [] := by
  rw [list_cnt] at h
  obtain ⟨x, y, h1, h2, rfl⟩ := andE_ok.1 h
  intro h0
  have h3 := (List.append_eq_nil_iff.1 h0).1
  unfold countE numE at h1
  split at h1
  · split at h1 <;> cases h1
    exact numB_ne _ h3
  · cases h1
theorem valE_ne {v : ValD} {a : List UInt8} (h : valE v = .ok a) : a ≠ [] := by
  rcases valE_ok h with ⟨_, _, _, rfl⟩ | ⟨_, _, _, rfl⟩ | ⟨_, _, rfl⟩ | ⟨_, _, _, _, rfl⟩ <;> simp
set_option maxRecDepth 100000 in
set_option maxHeartbeats 2000000 in
theorem one_false {w : World} (c : CodeD) (hg : c.gen = false)
    {A1 A2 A3 A4 A5 A6 : Option Addr} {n1 c1 n2 c2 n3 c3 n4 c4 n5 c5 n6 c6 : Nat} (h1 : RdS w A1 n1 c1 c.locals) (h2 : RdS w A2 n2 c2 c.cells) (h3 : RdS w A3 n3 c3 c.free) (h4 : RdS w A4 n4 c4 c.names)
    (h5 : RdF valCs 3 w A5 n5 c5 c.consts) (h6 : RdF insCs 2 w A6 n6 c6 c.ins) :
    Calls Tryd.prog 29 #[.agg #[.string c.name, .int .i64 c.kind, .int .i64 c.params, .int .i64 c.defaults, .bool false, .slice A1 n1 c1, .slice A2 n2 c2, .slice A3 n3 c3, .slice A4 n4 c4, .slice A5 n5 c5, .slice A6 n6 c6]] w (RefB w (codeE c)) := by
  obtain ⟨i0, hi, hz0, hz1, hz2⟩ := info_parts info_B
  have HI := Lib.hid (And.intro hi (And.intro hz0 (And.intro hz1 hz2)))
  clear hi hz0 hz1 hz2
  have ht := codeE_todo c
  generalize codeE c = R at *
  obtain ⟨nm, kd, pa, de, ge, lo, ce, fr, na, co, is⟩ := c
  obtain rfl : ge = false := hg
  simp only at ht h1 h2 h3 h4 h5 h6 ⊢
  rw [← seq3] at ht
  have HB0 : Hid (Below w.heap.size w (w.alloc (.cells #[.string nm, .int .i64 kd, .int .i64 pa, .int .i64 de, .bool false, .slice A1 n1 c1, .slice A2 n2 c2, .slice A3 n3 c3, .slice A4 n4 c4, .slice A5 n5 c5, .slice A6 n6 c6] 49))) := Lib.hid (by repeat (first | exact Below.refl _ _ | assumption | refine Below.setCell ?_ (by first | (simp; done) | (simp; omega) | omega) _ | refine below_drewN ?_ _ | refine Below.drew ?_ | refine Below.alloc ?_ (by first | (simp; done) | (simp; omega) | omega) _))
  have HX0 := Lib.hid (Blk.new w 49 #[.string nm, .int .i64 kd, .int .i64 pa, .int .i64 de, .bool false, .slice A1 n1 c1, .slice A2 n2 c2, .slice A3 n3 c3, .slice A4 n4 c4, .slice A5 n5 c5, .slice A6 n6 c6])
  have H1 := Lib.hid h1
  have H2 := Lib.hid h2
  have H3 := Lib.hid h3
  have H4 := Lib.hid h4
  have H5 := Lib.hid h5
  have H6 := Lib.hid h6
  rw [h5.1, h6.1] at ht
  have HT0 := Lib.hid ht
  clear h1 h2 h3 h4 h5 h6 ht
  go_enter Tryd.func29, Tryd.ntmps29
  go_wp2_with fail
  have hz1 : w.heap.size < (w.alloc (.cells #[.string nm, .int .i64 kd, .int .i64 pa, .int .i64 de, .bool false, .slice A1 n1 c1, .slice A2 n2 c2, .slice A3 n3 c3, .slice A4 n4 c4, .slice A5 n5 c5, .slice A6 n6 c6] 49)).heap.size := HX0.out.lt
  generalize w.alloc (.cells #[.string nm, .int .i64 kd, .int .i64 pa, .int .i64 de, .bool false, .slice A1 n1 c1, .slice A2 n2 c2, .slice A3 n3 c3, .slice A4 n4 c4, .slice A5 n5 c5, .slice A6 n6 c6] 49) = W1 at *
  cases hx : textE nm with
  | error y =>
    obtain rfl : y = 2 := by
      unfold textE at hx
      split at hx <;> cases hx
      rfl
    refine (rtext_any nm).mono ?_
    rintro e w2 he
    obtain ⟨hb2, rfl⟩ := he.err hx
    have HB2 := Lib.hid (HB0.out.trans (hb2.mono (Nat.le_of_lt hz1)))
    have HE := Lib.hid (todo_err HT0.out hx)
    clear he hb2 hx
    go_wp2_with fail
    go_ret2
    rw [HE.out]
    exact ⟨HB2.out, rfl⟩
  | ok a1 =>
  refine (rtext_any nm).mono ?_
  rintro e w2 he
  obtain ⟨hb2, v2, rfl, hv2⟩ := he.ok hx
  have HT1 := Lib.hid (todo_ok HT0.out hx)
  have hl1 := textE_len _ _ hx
  have HB2 := Lib.hid (HB0.out.trans (hb2.mono (Nat.le_of_lt hz1)))
  have HX2 := Lib.hid (HX0.out.new' hb2)
  have HO2 := Lib.hid (hv2.down (Nat.le_of_lt hz1))
  have hz2 := HX2.out.lt
  clear he hb2 hx hv2 HT0 HB0 HX0
  have q1 := HX2.out.cell 1
  have q2 := HX2.out.cell 2
  have q3 := HX2.out.cell 3
  simp only [List.getElem?_toArray, List.getElem?_cons_zero, List.getElem?_cons_succ] at q1 q2 q3
  rw [List.nil_append] at HT1
  go_wp2_with fail
  have hz3 : w2.heap.size < (w2.alloc (.cells #[.int .i64 kd, .int .i64 pa, .int .i64 de] 3)).heap.size := by simp
  have HL3 := Lib.hid (Blk.new w2 3 #[.int .i64 kd, .int .i64 pa, .int .i64 de])
  have hb3 : Below w2.heap.size w2 (w2.alloc (.cells #[.int .i64 kd, .int .i64 pa, .int .i64 de] 3)) := (by repeat (first | exact Below.refl _ _ | assumption | refine Below.setCell ?_ (by first | (simp; done) | (simp; omega) | omega) _ | refine below_drewN ?_ _ | refine Below.drew ?_ | refine Below.alloc ?_ (by first | (simp; done) | (simp; omega) | omega) _))
  have HB3 := Lib.hid (HB2.out.trans (hb3.mono (Nat.le_of_lt hz2)))
  have HX3 := Lib.hid (HX2.out.new' hb3)
  have HO3 := Lib.hid (HO2.out.new hb3)
  clear hb3 HB2 HX2 HO2 q1 q2 q3
  generalize w2.alloc (.cells #[.int .i64 kd, .int .i64 pa, .int .i64 de] 3) = W3 at *
  generalize w2.heap.size = bl at *
  go_loopw [4, 7] (fun v i wr => ∃ (k : Nat) (d : List UInt8), k ≤ 3 ∧ i = .int .i64 k ∧ seqE numE ([kd, pa, de].take k) = .ok d ∧ NewB w.heap.size wr v (a1 ++ d) ∧ Below w.heap.size w wr ∧ Blk wr w.heap.size 49 #[.string nm, .int .i64 kd, .int .i64 pa, .int .i64 de, .bool false, .slice A1 n1 c1, .slice A2 n2 c2, .slice A3 n3 c3, .slice A4 n4 c4, .slice A5 n5 c5, .slice A6 n6 c6] ∧ Blk wr bl 3 #[.int .i64 kd, .int .i64 pa, .int .i64 de]) (fun _ i _ => 3 - (intOf i).toNat)
  case atStart => exact ⟨0, [], by omega, rfl, rfl, by rw [List.append_nil]; exact HO3.out, HB3.out, HX3.out, HL3.out⟩
  case round =>
    clear HB3 HX3 HO3 HL3
    obtain ⟨k, d, hk, rfl, hd, hO, hB, hX, hL⟩ := hrel
    obtain ⟨A4', c4', hv4⟩ := hO.val
    rw [List.length_append] at hv4
    subst hv4
    have HO := Lib.hid hO
    have HB := Lib.hid hB
    have HX := Lib.hid hX
    have HL := Lib.hid hL
    have HD := Lib.hid hd
    have hwz := hB.size
    have hxl := hX.lt
    have hll := hL.lt
    have hdl := seqE_len (m := 5) (fun x a h => numE_len h) hd
    rw [List.length_take] at hdl
    have hdl2 : min k [kd, pa, de].length * 5 ≤ 3 * 5 := Nat.mul_le_mul_right _ (by omega)
    replace hdl : d.length ≤ 15 := by omega
    clear hdl2
    by_cases hlt : k < 3
    · obtain ⟨x, hx, hc⟩ : ∃ x, [kd, pa, de][k]? = some x ∧ wr.cell? ⟨bl, k, none⟩ = some (.int .i64 x) := by
        rcases (show k = 0 ∨ k = 1 ∨ k = 2 by omega) with rfl | rfl | rfl
        · exact ⟨_, rfl, hL.cell 0⟩
        · exact ⟨_, rfl, hL.cell 1⟩
        · exact ⟨_, rfl, hL.cell 2⟩
      obtain ⟨htk, hsp⟩ := take_snoc hx
      have HTK := Lib.hid htk
      have HSP := Lib.hid hsp
      clear hO hB hX hL hd hx htk hsp
      by_cases hin : 0 ≤ x ∧ x ≤ 2147483647
      · obtain ⟨x0, rfl⟩ := Int.eq_ofNat_of_zero_le hin.1
        have hx3 : numE (x0 : Int) = .ok (numB x0) := by unfold numE; rw [if_pos hin]; rfl
        have HD3 := Lib.hid (show seqE numE ([kd, pa, de].take (k + 1)) = .ok (d ++ numB x0) by rw [HTK.out]; exact seqE_snoc_ok HD.out hx3)
        have hx0 : x0 ≤ 2147483647 := by omega
        have hnl : (numB x0).length ≤ 5 := numB_len (by omega) (by simp; omega)
        have KN := rnumber_any x0 hx0 (w := wr)
        have HNE := Lib.hid (numB_ne x0)
        generalize numB x0 = cs at *
        have HKN := Lib.hid KN
        clear KN hx3 hin
        go_wp2_with fail
        refine (right_yes x0 hx0).mono ?_
        rintro e w' ⟨rfl, rfl⟩
        go_wp2_with fail
        refine HKN.out.mono ?_
        rintro e w4 ⟨⟨v4, rfl, hv4⟩, hb4⟩
        obtain ⟨g4, c4, rfl, hg4, hc4⟩ := hv4.src HNE.out
        have HO4 := Lib.hid (HO.out.new hb4)
        have HB4 := Lib.hid (HB.out.trans (hb4.mono hwz))
        have HX4 := Lib.hid (HX.out.new' hb4)
        have HL4 := Lib.hid (HL.out.new' hb4)
        have HC4 := Lib.hid hc4
        have hwz4 := HB4.out.size
        have hr4 := HO4.out
        unfold NewB at hr4
        rw [List.length_append] at hr4
        have HR4 := Lib.hid hr4
        clear hv4 hb4 hc4 hr4 HO HB HX HL
        go_wp2_with (at_builtin; refine wpList_append_own _ rfl (.tmp 43) (.tmp 48) 30 rfl w.heap.size 5 i0 _ 1 1 Tryd.underlying30 HI.out.1 HI.out.2.1 HI.out.2.2.1 HI.out.2.2.2 rfl (by decide) (.slice A4' (a1.length + d.length) c4') (a1.length + d.length) (bcs (a1 ++ d)) rfl (by exact HR4.out) ⟨g4, 0, none⟩ cs.length c4 (bcs cs) rfl (by first | rfl | rw [bcs_length, Nat.mul_one]) (by exact HC4.out) (bcs_oneCell _) (by simp only [maxLen]; omega) (by omega) (by first | omega | (simp; omega)) ?_; intro v6 w6 ho6 hg6 _; obtain ⟨h7, hb7, hk7⟩ := NewB.app (cs := cs) HO4.out HB4.out (Nat.le_refl _) (Below.refl _ _) hg6 (by first | exact ho6 | (rw [List.length_append]; exact ho6)); have HO7 := Lib.hid h7; have HB7 := Lib.hid hb7; have HX7 := Lib.hid (hk7 _ _ _ HX4.out (by decide)); have HL7 := Lib.hid (hk7 _ _ _ HL4.out (by decide)); clear ho6 hg6 h7 hb7 hk7)
        go_roundw
        case rel => exact ⟨k + 1, d ++ cs, by omega, by go_num, HD3.out, by rw [← List.append_assoc]; exact HO7.out, HB7.out, HX7.out, HL7.out⟩
        case measure => simp [intOf]; omega
      · have hx3 : numE x = .error 1 := by unfold numE; rw [if_neg hin]
        have HE := Lib.hid (todo_err HT1.out (show seqE numE [kd, pa, de] = .error 1 by rw [HSP.out, seqE_stop HD.out hx3]))
        clear hx3
        go_wp2_with fail
        refine (right_no x hin).mono ?_
        rintro e w' ⟨rfl, rfl⟩
        go_wp2_with fail
        go_ret2
        rw [HE.out]
        exact ⟨HB.out, rfl⟩
    · obtain rfl : k = 3 := by omega
      have hd4 : seqE numE [kd, pa, de] = .ok d := hd
      have HT2 := Lib.hid (todo_ok HT1.out hd4)
      have hDl : (a1 ++ d).length ≤ 65600 := by rw [List.length_append]; omega
      rw [← List.length_append] at HO ⊢
      clear HT1 hd4 HD HL hL hd hO hB hX
      generalize a1 ++ d = D at *

      have q4 := HX.out.cell 4
      simp only [List.getElem?_toArray, List.getElem?_cons_zero, List.getElem?_cons_succ] at q4
      have hwo : wr.heap.size < (wr.alloc (.cells #[.int .u8 0] 5)).heap.size := by simp
      have HO1 : Hid (∀ j u, (bcs [0])[j]? = some u → (wr.alloc (.cells #[.int .u8 0] 5)).cell? ((⟨wr.heap.size, 0, none⟩ : Addr).add j) = some u) := Lib.hid (one_at wr 0)
      go_wp2_with (at_builtin; refine wpList_append_own _ rfl (.tmp 52) (.tmp 54) 30 rfl w.heap.size 5 i0 _ 1 1 Tryd.underlying30 HI.out.1 HI.out.2.1 HI.out.2.2.1 HI.out.2.2.2 rfl (by decide) (.slice A4' D.length c4') D.length (bcs D) rfl (by exact row_new HO.out (by repeat (first | exact Below.refl _ _ | assumption | refine Below.setCell ?_ (by first | (simp; done) | (simp; omega) | omega) _ | refine below_drewN ?_ _ | refine Below.drew ?_ | refine Below.alloc ?_ (by first | (simp; done) | (simp; omega) | omega) _))) ⟨wr.heap.size, 0, none⟩ 1 1 (bcs [0]) rfl (by first | rfl | rw [bcs_length, Nat.mul_one]) (by exact HO1.out) (bcs_oneCell _) (by simp only [maxLen]; omega) (by omega) (by first | omega | (simp; omega)) ?_; intro v6 w6 ho6 hg6 _; obtain ⟨h7, hb7, hk7⟩ := NewB.app (cs := [0]) HO.out HB.out (Nat.le_refl _) (by repeat (first | exact Below.refl _ _ | assumption | refine Below.setCell ?_ (by first | (simp; done) | (simp; omega) | omega) _ | refine below_drewN ?_ _ | refine Below.drew ?_ | refine Below.alloc ?_ (by first | (simp; done) | (simp; omega) | omega) _)) hg6 (by first | exact ho6 | (rw [List.length_append]; exact ho6)); have HO7 := Lib.hid h7; have HB7 := Lib.hid hb7; have HX7 := Lib.hid (hk7 _ _ _ HX.out (by decide)); have hxl7 := HX7.out.lt; have q5 : w6.cell? ⟨w.heap.size, 5, none⟩ = some (.slice A1 n1 c1) := HX7.out.cell 5; have q6 : w6.cell? ⟨w.heap.size, 6, none⟩ = some (.slice A2 n2 c2) := HX7.out.cell 6; have q7 : w6.cell? ⟨w.heap.size, 7, none⟩ = some (.slice A3 n3 c3) := HX7.out.cell 7; have q8 : w6.cell? ⟨w.heap.size, 8, none⟩ = some (.slice A4 n4 c4) := HX7.out.cell 8; clear ho6 hg6 h7 hb7 hk7)
      have HT3 := Lib.hid (todo_ok HT2.out (b := [0]) rfl)
      have hDl2 : (D ++ [0]).length ≤ 65700 := by simp only [List.length_append, List.length_cons, List.length_nil]; omega
      have hz8 : w6.heap.size < (w6.alloc (.cells #[.slice A1 n1 c1, .slice A2 n2 c2, .slice A3 n3 c3, .slice A4 n4 c4] 45)).heap.size := by simp
      have HS8 := Lib.hid (Blk.new w6 45 #[.slice A1 n1 c1, .slice A2 n2 c2, .slice A3 n3 c3, .slice A4 n4 c4])
      have hb8 : Below w6.heap.size w6 (w6.alloc (.cells #[.slice A1 n1 c1, .slice A2 n2 c2, .slice A3 n3 c3, .slice A4 n4 c4] 45)) := (by repeat (first | exact Below.refl _ _ | assumption | refine Below.setCell ?_ (by first | (simp; done) | (simp; omega) | omega) _ | refine below_drewN ?_ _ | refine Below.drew ?_ | refine Below.alloc ?_ (by first | (simp; done) | (simp; omega) | omega) _))
      have HB8 := Lib.hid (HB7.out.trans (hb8.mono (Nat.le_of_lt hxl7)))
      have HX8 := Lib.hid (HX7.out.new' hb8)
      have HO8 := Lib.hid (HO7.out.new hb8)
      clear hb8 HB7 HX7 HO7 q4 q5 q6 q7 q8 HT2 HO HB HX HO1 hwo
      generalize D ++ [0] = E at *
      generalize w6.alloc (.cells #[.slice A1 n1 c1, .slice A2 n2 c2, .slice A3 n3 c3, .slice A4 n4 c4] 45) = W8 at *
      generalize w6.heap.size = bs at *
      obtain ⟨wo, rfl⟩ : ∃ wo, wo = wr := ⟨_, rfl⟩
      go_loopw [4, 10] (fun v i wr => ∃ (k : Nat) (d : List UInt8), k ≤ 4 ∧ i = .int .i64 k ∧ seqE listE ([lo, ce, fr, na].take k) = .ok d ∧ NewB w.heap.size wr v (E ++ d) ∧ Below w.heap.size w wr ∧ Blk wr w.heap.size 49 #[.string nm, .int .i64 kd, .int .i64 pa, .int .i64 de, .bool false, .slice A1 n1 c1, .slice A2 n2 c2, .slice A3 n3 c3, .slice A4 n4 c4, .slice A5 n5 c5, .slice A6 n6 c6] ∧ Blk wr bs 45 #[.slice A1 n1 c1, .slice A2 n2 c2, .slice A3 n3 c3, .slice A4 n4 c4]) (fun _ i _ => 4 - (intOf i).toNat)
      case atStart => exact ⟨0, [], by omega, rfl, rfl, by rw [List.append_nil]; exact HO8.out, HB8.out, HX8.out, HS8.out⟩
      case round =>
        clear HB8 HX8 HO8 HS8
        obtain ⟨k, d, hk, rfl, hd, hO, hB, hX, hS⟩ := hrel
        obtain ⟨A4', c4', hv4⟩ := hO.val
        rw [List.length_append] at hv4
        subst hv4
        have HO := Lib.hid hO
        have HB := Lib.hid hB
        have HX := Lib.hid hX
        have HS := Lib.hid hS
        have HD := Lib.hid hd
        have hwz := hB.size
        have hxl := hX.lt
        have hsl := hS.lt
        have hdl := seqE_len listE_len hd
        rw [List.length_take] at hdl
        have hdl2 : min k [lo, ce, fr, na].length * 300000000 ≤ 4 * 300000000 := Nat.mul_le_mul_right _ (by omega)
        replace hdl : d.length ≤ 1200000000 := by omega
        clear hdl2
        by_cases hlt : k < 4
        · obtain ⟨A, n, c, l, hx, hc, hR⟩ : ∃ A n c l, [lo, ce, fr, na][k]? = some l ∧ wr.cell? ⟨bs, k, none⟩ = some (.slice A n c) ∧ RdS w A n c l := by
            rcases (show k = 0 ∨ k = 1 ∨ k = 2 ∨ k = 3 by omega) with rfl | rfl | rfl | rfl
            · exact ⟨A1, n1, c1, lo, rfl, hS.cell 0, H1.out⟩
            · exact ⟨A2, n2, c2, ce, rfl, hS.cell 1, H2.out⟩
            · exact ⟨A3, n3, c3, fr, rfl, hS.cell 2, H3.out⟩
            · exact ⟨A4, n4, c4, na, rfl, hS.cell 3, H4.out⟩
          obtain ⟨htk, hsp⟩ := take_snoc hx
          have HTK := Lib.hid htk
          have HSP := Lib.hid hsp
          have HR := Lib.hid (hR.new HB.out)
          clear hO hB hX hS hd hx htk hsp hR
          cases hx3 : listE l with
          | error y =>
            have HE := Lib.hid (todo_err HT3.out (show seqE listE [lo, ce, fr, na] = .error y by rw [HSP.out, seqE_stop HD.out hx3]))
            have hy := err_list l y hx3
            have KT : Hid (Calls Tryd.prog 45 #[.slice A n c] wr fun e w'' => Below wr.heap.size wr w'' ∧ e = .returned (.tuple #[.slice none 0 0, .int .i64 y])) := Lib.hid ((rlist_any A n c l HR.out).mono fun e w'' h => h.err hx3)
            clear hx3
            rcases hy with rfl | rfl
            all_goals
              go_wp2_with fail
              refine KT.out.mono ?_
              rintro e w3 ⟨hb3, rfl⟩
              have HB3 := Lib.hid (HB.out.trans (hb3.mono hwz))
              clear hb3
              go_wp2_with fail
              go_ret2
              rw [HE.out]
              exact ⟨HB3.out, rfl⟩
          | ok cs =>
            have hcl := listE_len _ _ hx3
            have HCN := Lib.hid (listE_ne hx3)
            have KT : Hid (Calls Tryd.prog 45 #[.slice A n c] wr fun e w'' => Below wr.heap.size wr w'' ∧ ∃ v, e = .returned (.tuple #[v, .int .i64 0]) ∧ NewB wr.heap.size w'' v cs) := Lib.hid ((rlist_any A n c l HR.out).mono fun e w'' h => h.ok hx3)
            have HD3 := Lib.hid (show seqE listE ([lo, ce, fr, na].take (k + 1)) = .ok (d ++ cs) by rw [HTK.out]; exact seqE_snoc_ok HD.out hx3)
            clear hx3
            go_wp2_with fail
            refine KT.out.mono ?_
            rintro e w3 ⟨hb3, v3, rfl, hv3⟩
            obtain ⟨g3, c3, rfl, hg3, hc3⟩ := hv3.src HCN.out
            have HO4 := Lib.hid (HO.out.new hb3)
            have HB4 := Lib.hid (HB.out.trans (hb3.mono hwz))
            have HX4 := Lib.hid (HX.out.new' hb3)
            have HS4 := Lib.hid (HS.out.new' hb3)
            have HC4 := Lib.hid hc3
            have hwz4 := HB4.out.size
            have hr4 := HO4.out
            unfold NewB at hr4
            rw [List.length_append] at hr4
            have HR4 := Lib.hid hr4
            clear hv3 hb3 hc3 hr4 HO HB HX HS hc
            go_wp2_with (at_builtin; refine wpList_append_own _ rfl (.tmp 80) (.tmp 81) 30 rfl w.heap.size 5 i0 _ 1 1 Tryd.underlying30 HI.out.1 HI.out.2.1 HI.out.2.2.1 HI.out.2.2.2 rfl (by decide) (.slice A4' (E.length + d.length) c4') (E.length + d.length) (bcs (E ++ d)) rfl (by exact HR4.out) ⟨g3, 0, none⟩ cs.length c3 (bcs cs) rfl (by first | rfl | rw [bcs_length, Nat.mul_one]) (by exact HC4.out) (bcs_oneCell _) (by simp only [maxLen]; omega) (by omega) (by first | omega | (simp; omega)) ?_; intro v6 w6 ho6 hg6 _; obtain ⟨h7, hb7, hk7⟩ := NewB.app (cs := cs) HO4.out HB4.out (Nat.le_refl _) (Below.refl _ _) hg6 (by first | exact ho6 | (rw [List.length_append]; exact ho6)); have HO7 := Lib.hid h7; have HB7 := Lib.hid hb7; have HX7 := Lib.hid (hk7 _ _ _ HX4.out (by decide)); have HS7 := Lib.hid (hk7 _ _ _ HS4.out (by decide)); clear ho6 hg6 h7 hb7 hk7)
            go_roundw
            case rel => exact ⟨k + 1, d ++ cs, by omega, by go_num, HD3.out, by rw [← List.append_assoc]; exact HO7.out, HB7.out, HX7.out, HS7.out⟩
            case measure => simp [intOf]; omega
        · obtain rfl : k = 4 := by omega
          have hd4 : seqE listE [lo, ce, fr, na] = .ok d := hd
          have HT4 := Lib.hid (todo_ok HT3.out hd4)
          have hDl3 : (E ++ d).length ≤ 1300000000 := by rw [List.length_append]; omega
          rw [← List.length_append] at HO ⊢
          clear HT3 hd4 HD HS hS hd hO hB hX
          generalize E ++ d = F at *
          have q9 : wr.cell? ⟨w.heap.size, 9, none⟩ = some (.slice A5 n5 c5) := HX.out.cell 9
          have hn5 := H5.out.2.le
          obtain ⟨wp, rfl⟩ : ∃ wp, wp = wr := ⟨_, rfl⟩
          by_cases hbig : 4096 < n5
          · have hd1 : decide (4096 < n5) = true := decide_eq_true hbig
            have hd2 : decide ((4096 : Int) < (n5 : Int)) = true := decide_eq_true (by omega)
            have HE := Lib.hid (todo_err HT4.out (show countE n5 4096 = .error 2 by unfold countE; rw [if_neg (by omega)]))
            go_wp2_with fail
            go_ret2
            rw [HE.out]
            exact ⟨HB.out, rfl⟩
          have hd1 : decide (4096 < n5) = false := decide_eq_false hbig
          have hd2 : decide ((4096 : Int) < (n5 : Int)) = false := decide_eq_false (by omega)
          have HT5 := Lib.hid (todo_ok HT4.out (countE_ok' (n := n5) (m := 4096) (by omega) (by omega)))
          have hnl : (numB n5).length ≤ 5 := numB_len (by omega) (by simp; omega)
          have HKN := Lib.hid (rnumber_any n5 (by omega) (w := wp))
          have HNE := Lib.hid (numB_ne n5)
          generalize numB n5 = cs at *
          go_wp2_with fail
          refine HKN.out.mono ?_
          rintro e w4 ⟨⟨v4, rfl, hv4⟩, hb4⟩
          obtain ⟨g4, k4, rfl, hg4, hc4⟩ := hv4.src HNE.out
          have HO4 := Lib.hid (HO.out.new hb4)
          have HB4 := Lib.hid (HB.out.trans (hb4.mono hwz))
          have HX4 := Lib.hid (HX.out.new' hb4)
          have HC4 := Lib.hid hc4
          have hwz4 := HB4.out.size
          clear hv4 hb4 hc4 HO HB HX HT4 q9
          go_wp2_with (at_builtin; refine wpList_append_own _ rfl (.tmp 87) (.tmp 91) 30 rfl w.heap.size 5 i0 _ 1 1 Tryd.underlying30 HI.out.1 HI.out.2.1 HI.out.2.2.1 HI.out.2.2.2 rfl (by decide) (.slice A4' F.length c4') F.length (bcs F) rfl (by exact row_new HO4.out (Below.refl _ _)) ⟨g4, 0, none⟩ cs.length k4 (bcs cs) rfl (by first | rfl | rw [bcs_length, Nat.mul_one]) (by exact HC4.out) (bcs_oneCell _) (by simp only [maxLen]; omega) (by omega) (by first | omega | (simp; omega)) ?_; intro v6 w6 ho6 hg6 _; obtain ⟨h7, hb7, hk7⟩ := NewB.app (cs := cs) HO4.out HB4.out (Nat.le_refl _) (Below.refl _ _) hg6 (by first | exact ho6 | (rw [List.length_append]; exact ho6)); have HO7 := Lib.hid h7; have HB7 := Lib.hid hb7; have HX7 := Lib.hid (hk7 _ _ _ HX4.out (by decide)); have hxl7 := HX7.out.lt; have q9 : w6.cell? ⟨w.heap.size, 9, none⟩ = some (.slice A5 n5 c5) := HX7.out.cell 9; clear ho6 hg6 h7 hb7 hk7)
          have hFl : (F ++ cs).length ≤ 1300000005 := by rw [List.length_append]; omega
          clear HO4 HB4 HX4 HC4 hd1 hd2
          generalize F ++ cs = G at *
          go_loopw [4, 13] (fun v i wr => ∃ (k : Nat) (d : List UInt8), k ≤ n5 ∧ i = .int .i64 k ∧ seqE valE (co.take k) = .ok d ∧ NewB w.heap.size wr v (G ++ d) ∧ Below w.heap.size w wr ∧ Blk wr w.heap.size 49 #[.string nm, .int .i64 kd, .int .i64 pa, .int .i64 de, .bool false, .slice A1 n1 c1, .slice A2 n2 c2, .slice A3 n3 c3, .slice A4 n4 c4, .slice A5 n5 c5, .slice A6 n6 c6]) (fun _ i _ => n5 - (intOf i).toNat)
          case atStart => exact ⟨0, [], by omega, rfl, rfl, by rw [List.append_nil]; exact HO7.out, HB7.out, HX7.out⟩
          case round =>
            clear HB7 HX7 HO7
            obtain ⟨k, d, hk, rfl, hd, hO, hB, hX⟩ := hrel
            obtain ⟨A4', c4', hv4⟩ := hO.val
            rw [List.length_append] at hv4
            subst hv4
            have HO := Lib.hid hO
            have HB := Lib.hid hB
            have HX := Lib.hid hX
            have HD := Lib.hid hd
            have hwz := hB.size
            have hxl := hX.lt
            have q9 : wr.cell? ⟨w.heap.size, 9, none⟩ = some (.slice A5 n5 c5) := hX.cell 9
            have hdl := seqE_len valE_len hd
            rw [List.length_take] at hdl
            have hdl2 : min k co.length * 65542 ≤ 4096 * 65542 := Nat.mul_le_mul_right _ (by omega)
            replace hdl : d.length ≤ 270000000 := by omega
            clear hdl2
            by_cases hlt : k < n5
            · obtain ⟨x, hx⟩ : ∃ x, co[k]? = some x := ⟨_, List.getElem?_eq_getElem (by rw [H5.out.1]; exact hlt)⟩
              obtain ⟨be, oe, rfl, hbe, hce⟩ := (H5.out.new HB.out).at_ (f := valCs) (m := 3) (fun _ => rfl) hx
              obtain ⟨htk, hsp⟩ := take_snoc hx
              have HTK := Lib.hid htk
              have HSP := Lib.hid hsp
              obtain ⟨vk, vn, vs⟩ := x
              have e0 : wr.cell? ⟨be, oe + k * 3, none⟩ = some (.int .i64 vk) := hce 0 _ rfl
              have e1 : wr.cell? ⟨be, oe + k * 3 + 1, none⟩ = some (.int .i64 vn) := hce 1 _ rfl
              have e2 : wr.cell? ⟨be, oe + k * 3 + 2, none⟩ = some (.string vs) := hce 2 _ rfl
              clear hO hB hX hd hx htk hsp hce
              cases hx3 : valE ⟨vk, vn, vs⟩ with
              | error y =>
                have HE := Lib.hid (todo_err HT5.out (show seqE valE co = .error y by rw [HSP.out, seqE_stop HD.out hx3]))
                have hy := err_val _ y hx3
                have KT : Hid (Calls Tryd.prog 46 #[.agg #[.int .i64 vk, .int .i64 vn, .string vs]] wr fun e w'' => Below wr.heap.size wr w'' ∧ e = .returned (.tuple #[.slice none 0 0, .int .i64 y])) := Lib.hid ((rcon_any ⟨vk, vn, vs⟩).mono fun e w'' h => h.err hx3)
                clear hx3
                rcases hy with rfl | rfl
                all_goals
                  go_wp2_with fail
                  refine KT.out.mono ?_
                  rintro e w3 ⟨hb3, rfl⟩
                  have HB3 := Lib.hid (HB.out.trans (hb3.mono hwz))
                  clear hb3
                  go_wp2_with fail
                  go_ret2
                  rw [HE.out]
                  exact ⟨HB3.out, rfl⟩
              | ok cs =>
                have hcl := valE_len _ _ hx3
                have HCN := Lib.hid (valE_ne hx3)
                have KT : Hid (Calls Tryd.prog 46 #[.agg #[.int .i64 vk, .int .i64 vn, .string vs]] wr fun e w'' => Below wr.heap.size wr w'' ∧ ∃ v, e = .returned (.tuple #[v, .int .i64 0]) ∧ NewB wr.heap.size w'' v cs) := Lib.hid ((rcon_any ⟨vk, vn, vs⟩).mono fun e w'' h => h.ok hx3)
                have HD3 := Lib.hid (show seqE valE (co.take (k + 1)) = .ok (d ++ cs) by rw [HTK.out]; exact seqE_snoc_ok HD.out hx3)
                clear hx3
                go_wp2_with fail
                refine KT.out.mono ?_
                rintro e w3 ⟨hb3, v3, rfl, hv3⟩
                obtain ⟨g3, k3, rfl, hg3, hc3⟩ := hv3.src HCN.out
                have HO4 := Lib.hid (HO.out.new hb3)
                have HB4 := Lib.hid (HB.out.trans (hb3.mono hwz))
                have HX4 := Lib.hid (HX.out.new' hb3)
                have HC4 := Lib.hid hc3
                have hwz4 := HB4.out.size
                have hr4 := HO4.out
                unfold NewB at hr4
                rw [List.length_append] at hr4
                have HR4 := Lib.hid hr4
                clear hv3 hb3 hc3 hr4 HO HB HX e0 e1 e2 q9
                go_wp2_with (at_builtin; refine wpList_append_own _ rfl (.tmp 112) (.tmp 113) 30 rfl w.heap.size 5 i0 _ 1 1 Tryd.underlying30 HI.out.1 HI.out.2.1 HI.out.2.2.1 HI.out.2.2.2 rfl (by decide) (.slice A4' (G.length + d.length) c4') (G.length + d.length) (bcs (G ++ d)) rfl (by exact HR4.out) ⟨g3, 0, none⟩ cs.length k3 (bcs cs) rfl (by first | rfl | rw [bcs_length, Nat.mul_one]) (by exact HC4.out) (bcs_oneCell _) (by simp only [maxLen]; omega) (by omega) (by first | omega | (simp; omega)) ?_; intro v6 w6 ho6 hg6 _; obtain ⟨h7, hb7, hk7⟩ := NewB.app (cs := cs) HO4.out HB4.out (Nat.le_refl _) (Below.refl _ _) hg6 (by first | exact ho6 | (rw [List.length_append]; exact ho6)); have HO7 := Lib.hid h7; have HB7 := Lib.hid hb7; have HX7 := Lib.hid (hk7 _ _ _ HX4.out (by decide)); clear ho6 hg6 h7 hb7 hk7)
                go_roundw
                case rel => exact ⟨k + 1, d ++ cs, by omega, by go_num, HD3.out, by rw [← List.append_assoc]; exact HO7.out, HB7.out, HX7.out⟩
                case measure => simp [intOf]; omega
            · obtain rfl : n5 = k := by omega
              have hd4 : seqE valE co = .ok d := by
                rw [List.take_of_length_le (by rw [H5.out.1]; omega)] at hd
                exact hd
              have HT6 := Lib.hid (todo_ok HT5.out hd4)
              have hGl : (G ++ d).length ≤ 1600000005 := by rw [List.length_append]; omega
              rw [← List.length_append] at HO ⊢
              clear HT5 hd4 HD hd hO hB hX
              generalize G ++ d = H at *
              have q10 : wr.cell? ⟨w.heap.size, 10, none⟩ = some (.slice A6 n6 c6) := HX.out.cell 10
              have hn6 := H6.out.2.le
              obtain ⟨wq, rfl⟩ : ∃ wq, wq = wr := ⟨_, rfl⟩
              by_cases hbig6 : 65536 < n6
              · have hd1 : decide (65536 < n6) = true := decide_eq_true hbig6
                have hd2 : decide ((65536 : Int) < (n6 : Int)) = true := decide_eq_true (by omega)
                have HE := Lib.hid (todo_err HT6.out (show countE n6 65536 = .error 2 by unfold countE; rw [if_neg (by omega)]))
                go_wp2_with fail
                go_ret2
                rw [HE.out]
                exact ⟨HB.out, rfl⟩
              have hd1 : decide (65536 < n6) = false := decide_eq_false hbig6
              have hd2 : decide ((65536 : Int) < (n6 : Int)) = false := decide_eq_false (by omega)
              have HT7 := Lib.hid (todo_ok HT6.out (countE_ok' (n := n6) (m := 65536) (by omega) (by omega)))
              have hnl : (numB n6).length ≤ 5 := numB_len (by omega) (by simp; omega)
              have HKN := Lib.hid (rnumber_any n6 (by omega) (w := wq))
              have HNE := Lib.hid (numB_ne n6)
              generalize numB n6 = cs at *
              go_wp2_with fail
              refine HKN.out.mono ?_
              rintro e w4 ⟨⟨v4, rfl, hv4⟩, hb4⟩
              obtain ⟨g4, k4, rfl, hg4, hc4⟩ := hv4.src HNE.out
              have HO4 := Lib.hid (HO.out.new hb4)
              have HB4 := Lib.hid (HB.out.trans (hb4.mono hwz))
              have HX4 := Lib.hid (HX.out.new' hb4)
              have HC4 := Lib.hid hc4
              have hwz4 := HB4.out.size
              clear hv4 hb4 hc4 HO HB HX HT6 q10 q9
              go_wp2_with (at_builtin; refine wpList_append_own _ rfl (.tmp 119) (.tmp 123) 30 rfl w.heap.size 5 i0 _ 1 1 Tryd.underlying30 HI.out.1 HI.out.2.1 HI.out.2.2.1 HI.out.2.2.2 rfl (by decide) (.slice A4' H.length c4') H.length (bcs H) rfl (by exact row_new HO4.out (Below.refl _ _)) ⟨g4, 0, none⟩ cs.length k4 (bcs cs) rfl (by first | rfl | rw [bcs_length, Nat.mul_one]) (by exact HC4.out) (bcs_oneCell _) (by simp only [maxLen]; omega) (by omega) (by first | omega | (simp; omega)) ?_; intro v6 w6 ho6 hg6 _; obtain ⟨h7, hb7, hk7⟩ := NewB.app (cs := cs) HO4.out HB4.out (Nat.le_refl _) (Below.refl _ _) hg6 (by first | exact ho6 | (rw [List.length_append]; exact ho6)); have HO7 := Lib.hid h7; have HB7 := Lib.hid hb7; have HX7 := Lib.hid (hk7 _ _ _ HX4.out (by decide)); have hxl7 := HX7.out.lt; have q10 : w6.cell? ⟨w.heap.size, 10, none⟩ = some (.slice A6 n6 c6) := HX7.out.cell 10; clear ho6 hg6 h7 hb7 hk7)
              have hHl : (H ++ cs).length ≤ 1600000010 := by rw [List.length_append]; omega
              clear HO4 HB4 HX4 HC4 hd1 hd2
              generalize H ++ cs = J at *
              go_loopw [4, 16] (fun v i wr => ∃ (k : Nat) (d : List UInt8), k ≤ n6 ∧ i = .int .i64 k ∧ seqE insE (is.take k) = .ok d ∧ NewB w.heap.size wr v (J ++ d) ∧ Below w.heap.size w wr ∧ Blk wr w.heap.size 49 #[.string nm, .int .i64 kd, .int .i64 pa, .int .i64 de, .bool false, .slice A1 n1 c1, .slice A2 n2 c2, .slice A3 n3 c3, .slice A4 n4 c4, .slice A5 n5 c5, .slice A6 n6 c6]) (fun _ i _ => n6 - (intOf i).toNat)
              case atStart => exact ⟨0, [], by omega, rfl, rfl, by rw [List.append_nil]; exact HO7.out, HB7.out, HX7.out⟩
              case round =>
                clear HB7 HX7 HO7
                obtain ⟨k, d, hk, rfl, hd, hO, hB, hX⟩ := hrel
                obtain ⟨A4', c4', hv4⟩ := hO.val
                rw [List.length_append] at hv4
                subst hv4
                have HO := Lib.hid hO
                have HB := Lib.hid hB
                have HX := Lib.hid hX
                have HD := Lib.hid hd
                have hwz := hB.size
                have hxl := hX.lt
                have q10 : wr.cell? ⟨w.heap.size, 10, none⟩ = some (.slice A6 n6 c6) := hX.cell 10
                have hdl := seqE_len insE_len hd
                rw [List.length_take] at hdl
                have hdl2 : min k is.length * 6 ≤ 65536 * 6 := Nat.mul_le_mul_right _ (by omega)
                replace hdl : d.length ≤ 400000 := by omega
                clear hdl2
                by_cases hlt : k < n6
                · obtain ⟨x, hx⟩ : ∃ x, is[k]? = some x := ⟨_, List.getElem?_eq_getElem (by rw [H6.out.1]; exact hlt)⟩
                  obtain ⟨be, oe, rfl, hbe, hce⟩ := (H6.out.new HB.out).at_ (f := insCs) (m := 2) (fun _ => rfl) hx
                  obtain ⟨htk, hsp⟩ := take_snoc hx
                  have HTK := Lib.hid htk
                  have HSP := Lib.hid hsp
                  obtain ⟨vo, va⟩ := x
                  have HXX := Lib.hid hx
                  have e0 : wr.cell? ⟨be, oe + k * 2, none⟩ = some (.int .i64 vo) := hce 0 _ rfl
                  have e1 : wr.cell? ⟨be, oe + k * 2 + 1, none⟩ = some (.int .i64 va) := hce 1 _ rfl
                  clear hO hB hX hd hx htk hsp hce
                  by_cases h01 : vo < 1
                  · have hs1 : decide (vo < 1) = true := decide_eq_true h01
                    have HE := Lib.hid (todo_stop HT7.out (show seqE insE is = .error 1 by rw [HSP.out, seqE_stop HD.out (show insE (vo, va) = .error 1 from if_neg (by simp only; omega))]))
                    go_wp2_with fail
                    go_ret2
                    rw [HE.out]
                    exact ⟨HB.out, rfl⟩
                  have hs1 : decide (vo < 1) = false := decide_eq_false h01
                  by_cases h56 : 56 < vo
                  · have hs2 : decide (56 < vo) = true := decide_eq_true h56
                    have HE := Lib.hid (todo_stop HT7.out (show seqE insE is = .error 1 by rw [HSP.out, seqE_stop HD.out (show insE (vo, va) = .error 1 from if_neg (by simp only; omega))]))
                    go_wp2_with fail
                    go_ret2
                    rw [HE.out]
                    exact ⟨HB.out, rfl⟩
                  have hs2 : decide (56 < vo) = false := decide_eq_false h56
                  have hie : insE (vo, va) = andE (.ok [byteI vo]) (numE va) := if_pos (by simp only; omega)
                  by_cases hin : 0 ≤ va ∧ va ≤ 2147483647
                  · obtain ⟨x0, rfl⟩ := Int.eq_ofNat_of_zero_le hin.1
                    have hx0 : x0 ≤ 2147483647 := by omega
                    have hx3 : insE (vo, (x0 : Int)) = .ok ([byteI vo] ++ numB x0) := by rw [hie]; unfold numE; rw [if_pos hin]; rfl
                    have HD3 := Lib.hid (show seqE insE (is.take (k + 1)) = .ok (d ++ ([byteI vo] ++ numB x0)) by rw [HTK.out]; exact seqE_snoc_ok HD.out hx3)
                    have hnl2 : (numB x0).length ≤ 5 := numB_len (by omega) (by simp; omega)
                    have HKN2 : Hid (∀ w', Calls Tryd.prog 28 #[.int .i64 (x0 : Int)] w' fun e w'' => (∃ v, e = .returned v ∧ NewB w'.heap.size w'' v (numB x0)) ∧ Below w'.heap.size w' w'') := Lib.hid fun w' => rnumber_any x0 hx0
                    have HNE2 := Lib.hid (numB_ne x0)
                    have hy : ((byteI vo).toNat : Int) = vo := by rw [byteI_toNat]; omega
                    have hv0 : 0 ≤ vo := by omega
                    have hv1 : vo ≤ 255 := by omega
                    clear hx3 hie hin
                    generalize numB x0 = cs2 at *
                    generalize byteI vo = y at *
                    have HY := Lib.hid hy
                    clear hy
                    have ho1 := one_at wr y
                    rw [HY.out] at ho1
                    have HO1 := Lib.hid ho1
                    have hr4 := HO.out
                    unfold NewB at hr4
                    rw [List.length_append] at hr4
                    have HR4 := Lib.hid hr4
                    clear ho1 hr4
                    go_wp2_with fail
                    refine (right_yes x0 hx0).mono ?_
                    rintro e w' ⟨rfl, rfl⟩
                    go_wp2_with (at_builtin; refine wpList_append_own _ rfl (.tmp 158) (.tmp 166) 30 rfl w.heap.size 5 i0 _ 1 1 Tryd.underlying30 HI.out.1 HI.out.2.1 HI.out.2.2.1 HI.out.2.2.2 rfl (by decide) (.slice A4' (J.length + d.length) c4') (J.length + d.length) (bcs (J ++ d)) rfl (by exact row_new HR4.out (by repeat (first | exact Below.refl _ _ | assumption | refine Below.setCell ?_ (by first | (simp; done) | (simp; omega) | omega) _ | refine below_drewN ?_ _ | refine Below.drew ?_ | refine Below.alloc ?_ (by first | (simp; done) | (simp; omega) | omega) _))) ⟨w'.heap.size, 0, none⟩ 1 1 (bcs [y]) rfl (by first | rfl | rw [bcs_length, Nat.mul_one]) (by exact HO1.out) (bcs_oneCell _) (by simp only [maxLen]; omega) (by omega) (by first | omega | (simp; omega)) ?_; intro v6 w6 ho6 hg6 _; obtain ⟨h7, hb7, hk7⟩ := NewB.app (cs := [y]) HO.out HB.out (Nat.le_refl _) (by repeat (first | exact Below.refl _ _ | assumption | refine Below.setCell ?_ (by first | (simp; done) | (simp; omega) | omega) _ | refine below_drewN ?_ _ | refine Below.drew ?_ | refine Below.alloc ?_ (by first | (simp; done) | (simp; omega) | omega) _)) hg6 (by first | exact ho6 | (rw [List.length_append]; exact ho6)); obtain ⟨A9, c9, hv9⟩ := h7.val; rw [show (J ++ d ++ [y]).length = J.length + d.length + 1 by simp only [List.length_append, List.length_cons, List.length_nil, Nat.zero_add]] at hv9; subst hv9; have HO7 := Lib.hid h7; have HB7 := Lib.hid hb7; have hx7 := hk7 _ _ _ HX.out (by decide); have HX7 := Lib.hid hx7; have hxl7 := hx7.lt; have q10' : w6.cell? ⟨w.heap.size, 10, none⟩ = some (.slice (some ⟨be, oe, none⟩) n6 c6) := hx7.cell 10; obtain ⟨be', oe', he', hbe', hce'⟩ := (H6.out.new hb7).at_ (f := insCs) (m := 2) (fun _ => rfl) HXX.out; injection he' with he'; injection he' with he1 he2 _; subst he1; subst he2; have s2 : w6.cell? ⟨be, oe + k * 2 + 1, none⟩ = some (.int .i64 (x0 : Int)) := hce' 1 _ rfl; have s1 := hbe'; clear hce' hx7; clear ho6 hg6 h7 hb7 hk7)
                    refine (HKN2.out _).mono ?_
                    rintro e w9 ⟨⟨v9, rfl, hv9⟩, hb9⟩
                    obtain ⟨g9, k9, rfl, hg9, hc9⟩ := hv9.src HNE2.out
                    have hwz7 := HB7.out.size
                    have HO9 := Lib.hid (HO7.out.new hb9)
                    have HB9 := Lib.hid (HB7.out.trans (hb9.mono hwz7))
                    have HX9 := Lib.hid (HX7.out.new' hb9)
                    have HC9 := Lib.hid hc9
                    have hwz9 := HB9.out.size
                    have hr9 := HO9.out
                    unfold NewB at hr9
                    rw [show (J ++ d ++ [y]).length = J.length + d.length + 1 by simp only [List.length_append, List.length_cons, List.length_nil, Nat.zero_add]] at hr9
                    have HR9 := Lib.hid hr9
                    clear hv9 hb9 hc9 hr9 HO HB HX HO7 HB7 HX7 e0 e1 q10 s1 s2
                    go_wp2_with (at_builtin; refine wpList_append_own _ rfl (.tmp 168) (.tmp 175) 30 rfl w.heap.size 5 i0 _ 1 1 Tryd.underlying30 HI.out.1 HI.out.2.1 HI.out.2.2.1 HI.out.2.2.2 rfl (by decide) (.slice A9 (J.length + d.length + 1) c9) (J.length + d.length + 1) (bcs (J ++ d ++ [y])) rfl (by exact HR9.out) ⟨g9, 0, none⟩ cs2.length k9 (bcs cs2) rfl (by first | rfl | rw [bcs_length, Nat.mul_one]) (by exact HC9.out) (bcs_oneCell _) (by simp only [maxLen]; omega) (by omega) (by first | omega | (simp; omega)) ?_; intro v6 w6 ho6 hg6 _; obtain ⟨h7, hb7, hk7⟩ := NewB.app (cs := cs2) HO9.out HB9.out (Nat.le_refl _) (Below.refl _ _) hg6 (by first | exact ho6 | (rw [show (J ++ d ++ [y]).length = J.length + d.length + 1 by simp only [List.length_append, List.length_cons, List.length_nil, Nat.zero_add]]; exact ho6)); have HO8 := Lib.hid h7; have HB8 := Lib.hid hb7; have HX8 := Lib.hid (hk7 _ _ _ HX9.out (by decide)); clear ho6 hg6 h7 hb7 hk7)
                    go_roundw
                    case rel => exact ⟨k + 1, d ++ ([y] ++ cs2), by omega, by go_num, HD3.out, by rw [← List.append_assoc, ← List.append_assoc]; exact HO8.out, HB8.out, HX8.out⟩
                    case measure => simp [intOf]; omega
                  · have HE := Lib.hid (todo_stop HT7.out (show seqE insE is = .error 1 by rw [HSP.out, seqE_stop HD.out (show insE (vo, va) = .error 1 by rw [hie]; unfold numE; rw [if_neg hin]; rfl)]))
                    clear hie
                    go_wp2_with fail
                    refine (right_no va hin).mono ?_
                    rintro e w' ⟨rfl, rfl⟩
                    go_wp2_with fail
                    go_ret2
                    rw [HE.out]
                    exact ⟨HB.out, rfl⟩
                · obtain rfl : n6 = k := by omega
                  have hd4 : seqE insE is = .ok d := by
                    rw [List.take_of_length_le (by rw [H6.out.1]; omega)] at hd
                    exact hd
                  have HE := Lib.hid (todo_end HT7.out hd4)
                  clear hO hB hX hd hd4 HD
                  go_wp2_with fail
                  go_ret2
                  rw [HE.out]
                  exact ⟨HB.out, _, rfl, HO.out⟩



set_option maxRecDepth 100000 in
set_option maxHeartbeats 2000000 in
theorem one_true {w : World} (c : CodeD) (hg : c.gen = true)
    {A1 A2 A3 A4 A5 A6 : Option Addr} {n1 c1 n2 c2 n3 c3 n4 c4 n5 c5 n6 c6 : Nat} (h1 : RdS w A1 n1 c1 c.locals) (h2 : RdS w A2 n2 c2 c.cells) (h3 : RdS w A3 n3 c3 c.free) (h4 : RdS w A4 n4 c4 c.names)
    (h5 : RdF valCs 3 w A5 n5 c5 c.consts) (h6 : RdF insCs 2 w A6 n6 c6 c.ins) :
    Calls Tryd.prog 29 #[.agg #[.string c.name, .int .i64 c.kind, .int .i64 c.params, .int .i64 c.defaults, .bool true, .slice A1 n1 c1, .slice A2 n2 c2, .slice A3 n3 c3, .slice A4 n4 c4, .slice A5 n5 c5, .slice A6 n6 c6]] w (RefB w (codeE c)) := by
  obtain ⟨i0, hi, hz0, hz1, hz2⟩ := info_parts info_B
  have HI := Lib.hid (And.intro hi (And.intro hz0 (And.intro hz1 hz2)))
  clear hi hz0 hz1 hz2
  have ht := codeE_todo c
  generalize codeE c = R at *
  obtain ⟨nm, kd, pa, de, ge, lo, ce, fr, na, co, is⟩ := c
  obtain rfl : ge = true := hg
  simp only at ht h1 h2 h3 h4 h5 h6 ⊢
  rw [← seq3] at ht
  have HB0 : Hid (Below w.heap.size w (w.alloc (.cells #[.string nm, .int .i64 kd, .int .i64 pa, .int .i64 de, .bool true, .slice A1 n1 c1, .slice A2 n2 c2, .slice A3 n3 c3, .slice A4 n4 c4, .slice A5 n5 c5, .slice A6 n6 c6] 49))) := Lib.hid (by repeat (first | exact Below.refl _ _ | assumption | refine Below.setCell ?_ (by first | (simp; done) | (simp; omega) | omega) _ | refine below_drewN ?_ _ | refine Below.drew ?_ | refine Below.alloc ?_ (by first | (simp; done) | (simp; omega) | omega) _))
  have HX0 := Lib.hid (Blk.new w 49 #[.string nm, .int .i64 kd, .int .i64 pa, .int .i64 de, .bool true, .slice A1 n1 c1, .slice A2 n2 c2, .slice A3 n3 c3, .slice A4 n4 c4, .slice A5 n5 c5, .slice A6 n6 c6])
  have H1 := Lib.hid h1
  have H2 := Lib.hid h2
  have H3 := Lib.hid h3
  have H4 := Lib.hid h4
  have H5 := Lib.hid h5
  have H6 := Lib.hid h6
  rw [h5.1, h6.1] at ht
  have HT0 := Lib.hid ht
  clear h1 h2 h3 h4 h5 h6 ht
  go_enter Tryd.func29, Tryd.ntmps29
  go_wp2_with fail
  have hz1 : w.heap.size < (w.alloc (.cells #[.string nm, .int .i64 kd, .int .i64 pa, .int .i64 de, .bool true, .slice A1 n1 c1, .slice A2 n2 c2, .slice A3 n3 c3, .slice A4 n4 c4, .slice A5 n5 c5, .slice A6 n6 c6] 49)).heap.size := HX0.out.lt
  generalize w.alloc (.cells #[.string nm, .int .i64 kd, .int .i64 pa, .int .i64 de, .bool true, .slice A1 n1 c1, .slice A2 n2 c2, .slice A3 n3 c3, .slice A4 n4 c4, .slice A5 n5 c5, .slice A6 n6 c6] 49) = W1 at *
  cases hx : textE nm with
  | error y =>
    obtain rfl : y = 2 := by
      unfold textE at hx
      split at hx <;> cases hx
      rfl
    refine (rtext_any nm).mono ?_
    rintro e w2 he
    obtain ⟨hb2, rfl⟩ := he.err hx
    have HB2 := Lib.hid (HB0.out.trans (hb2.mono (Nat.le_of_lt hz1)))
    have HE := Lib.hid (todo_err HT0.out hx)
    clear he hb2 hx
    go_wp2_with fail
    go_ret2
    rw [HE.out]
    exact ⟨HB2.out, rfl⟩
  | ok a1 =>
  refine (rtext_any nm).mono ?_
  rintro e w2 he
  obtain ⟨hb2, v2, rfl, hv2⟩ := he.ok hx
  have HT1 := Lib.hid (todo_ok HT0.out hx)
  have hl1 := textE_len _ _ hx
  have HB2 := Lib.hid (HB0.out.trans (hb2.mono (Nat.le_of_lt hz1)))
  have HX2 := Lib.hid (HX0.out.new' hb2)
  have HO2 := Lib.hid (hv2.down (Nat.le_of_lt hz1))
  have hz2 := HX2.out.lt
  clear he hb2 hx hv2 HT0 HB0 HX0
  have q1 := HX2.out.cell 1
  have q2 := HX2.out.cell 2
  have q3 := HX2.out.cell 3
  simp only [List.getElem?_toArray, List.getElem?_cons_zero, List.getElem?_cons_succ] at q1 q2 q3
  rw [List.nil_append] at HT1
  go_wp2_with fail
  have hz3 : w2.heap.size < (w2.alloc (.cells #[.int .i64 kd, .int .i64 pa, .int .i64 de] 3)).heap.size := by simp
  have HL3 := Lib.hid (Blk.new w2 3 #[.int .i64 kd, .int .i64 pa, .int .i64 de])
  have hb3 : Below w2.heap.size w2 (w2.alloc (.cells #[.int .i64 kd, .int .i64 pa, .int .i64 de] 3)) := (by repeat (first | exact Below.refl _ _ | assumption | refine Below.setCell ?_ (by first | (simp; done) | (simp; omega) | omega) _ | refine below_drewN ?_ _ | refine Below.drew ?_ | refine Below.alloc ?_ (by first | (simp; done) | (simp; omega) | omega) _))
  have HB3 := Lib.hid (HB2.out.trans (hb3.mono (Nat.le_of_lt hz2)))
  have HX3 := Lib.hid (HX2.out.new' hb3)
  have HO3 := Lib.hid (HO2.out.new hb3)
  clear hb3 HB2 HX2 HO2 q1 q2 q3
  generalize w2.alloc (.cells #[.int .i64 kd, .int .i64 pa, .int .i64 de] 3) = W3 at *
  generalize w2.heap.size = bl at *
  go_loopw [4, 7] (fun v i wr => ∃ (k : Nat) (d : List UInt8), k ≤ 3 ∧ i = .int .i64 k ∧ seqE numE ([kd, pa, de].take k) = .ok d ∧ NewB w.heap.size wr v (a1 ++ d) ∧ Below w.heap.size w wr ∧ Blk wr w.heap.size 49 #[.string nm, .int .i64 kd, .int .i64 pa, .int .i64 de, .bool true, .slice A1 n1 c1, .slice A2 n2 c2, .slice A3 n3 c3, .slice A4 n4 c4, .slice A5 n5 c5, .slice A6 n6 c6] ∧ Blk wr bl 3 #[.int .i64 kd, .int .i64 pa, .int .i64 de]) (fun _ i _ => 3 - (intOf i).toNat)
  case atStart => exact ⟨0, [], by omega, rfl, rfl, by rw [List.append_nil]; exact HO3.out, HB3.out, HX3.out, HL3.out⟩
  case round =>
    clear HB3 HX3 HO3 HL3
    obtain ⟨k, d, hk, rfl, hd, hO, hB, hX, hL⟩ := hrel
    obtain ⟨A4', c4', hv4⟩ := hO.val
    rw [List.length_append] at hv4
    subst hv4
    have HO := Lib.hid hO
    have HB := Lib.hid hB
    have HX := Lib.hid hX
    have HL := Lib.hid hL
    have HD := Lib.hid hd
    have hwz := hB.size
    have hxl := hX.lt
    have hll := hL.lt
    have hdl := seqE_len (m := 5) (fun x a h => numE_len h) hd
    rw [List.length_take] at hdl
    have hdl2 : min k [kd, pa, de].length * 5 ≤ 3 * 5 := Nat.mul_le_mul_right _ (by omega)
    replace hdl : d.length ≤ 15 := by omega
    clear hdl2
    by_cases hlt : k < 3
    · obtain ⟨x, hx, hc⟩ : ∃ x, [kd, pa, de][k]? = some x ∧ wr.cell? ⟨bl, k, none⟩ = some (.int .i64 x) := by
        rcases (show k = 0 ∨ k = 1 ∨ k = 2 by omega) with rfl | rfl | rfl
        · exact ⟨_, rfl, hL.cell 0⟩
        · exact ⟨_, rfl, hL.cell 1⟩
        · exact ⟨_, rfl, hL.cell 2⟩
      obtain ⟨htk, hsp⟩ := take_snoc hx
      have HTK := Lib.hid htk
      have HSP := Lib.hid hsp
      clear hO hB hX hL hd hx htk hsp
      by_cases hin : 0 ≤ x ∧ x ≤ 2147483647
      · obtain ⟨x0, rfl⟩ := Int.eq_ofNat_of_zero_le hin.1
        have hx3 : numE (x0 : Int) = .ok (numB x0) := by unfold numE; rw [if_pos hin]; rfl
        have HD3 := Lib.hid (show seqE numE ([kd, pa, de].take (k + 1)) = .ok (d ++ numB x0) by rw [HTK.out]; exact seqE_snoc_ok HD.out hx3)
        have hx0 : x0 ≤ 2147483647 := by omega
        have hnl : (numB x0).length ≤ 5 := numB_len (by omega) (by simp; omega)
        have KN := rnumber_any x0 hx0 (w := wr)
        have HNE := Lib.hid (numB_ne x0)
        generalize numB x0 = cs at *
        have HKN := Lib.hid KN
        clear KN hx3 hin
        go_wp2_with fail
        refine (right_yes x0 hx0).mono ?_
        rintro e w' ⟨rfl, rfl⟩
        go_wp2_with fail
        refine HKN.out.mono ?_
        rintro e w4 ⟨⟨v4, rfl, hv4⟩, hb4⟩
        obtain ⟨g4, c4, rfl, hg4, hc4⟩ := hv4.src HNE.out
        have HO4 := Lib.hid (HO.out.new hb4)
        have HB4 := Lib.hid (HB.out.trans (hb4.mono hwz))
        have HX4 := Lib.hid (HX.out.new' hb4)
        have HL4 := Lib.hid (HL.out.new' hb4)
        have HC4 := Lib.hid hc4
        have hwz4 := HB4.out.size
        have hr4 := HO4.out
        unfold NewB at hr4
        rw [List.length_append] at hr4
        have HR4 := Lib.hid hr4
        clear hv4 hb4 hc4 hr4 HO HB HX HL
        go_wp2_with (at_builtin; refine wpList_append_own _ rfl (.tmp 43) (.tmp 48) 30 rfl w.heap.size 5 i0 _ 1 1 Tryd.underlying30 HI.out.1 HI.out.2.1 HI.out.2.2.1 HI.out.2.2.2 rfl (by decide) (.slice A4' (a1.length + d.length) c4') (a1.length + d.length) (bcs (a1 ++ d)) rfl (by exact HR4.out) ⟨g4, 0, none⟩ cs.length c4 (bcs cs) rfl (by first | rfl | rw [bcs_length, Nat.mul_one]) (by exact HC4.out) (bcs_oneCell _) (by simp only [maxLen]; omega) (by omega) (by first | omega | (simp; omega)) ?_; intro v6 w6 ho6 hg6 _; obtain ⟨h7, hb7, hk7⟩ := NewB.app (cs := cs) HO4.out HB4.out (Nat.le_refl _) (Below.refl _ _) hg6 (by first | exact ho6 | (rw [List.length_append]; exact ho6)); have HO7 := Lib.hid h7; have HB7 := Lib.hid hb7; have HX7 := Lib.hid (hk7 _ _ _ HX4.out (by decide)); have HL7 := Lib.hid (hk7 _ _ _ HL4.out (by decide)); clear ho6 hg6 h7 hb7 hk7)
        go_roundw
        case rel => exact ⟨k + 1, d ++ cs, by omega, by go_num, HD3.out, by rw [← List.append_assoc]; exact HO7.out, HB7.out, HX7.out, HL7.out⟩
        case measure => simp [intOf]; omega
      · have hx3 : numE x = .error 1 := by unfold numE; rw [if_neg hin]
        have HE := Lib.hid (todo_err HT1.out (show seqE numE [kd, pa, de] = .error 1 by rw [HSP.out, seqE_stop HD.out hx3]))
        clear hx3
        go_wp2_with fail
        refine (right_no x hin).mono ?_
        rintro e w' ⟨rfl, rfl⟩
        go_wp2_with fail
        go_ret2
        rw [HE.out]
        exact ⟨HB.out, rfl⟩
    · obtain rfl : k = 3 := by omega
      have hd4 : seqE numE [kd, pa, de] = .ok d := hd
      have HT2 := Lib.hid (todo_ok HT1.out hd4)
      have hDl : (a1 ++ d).length ≤ 65600 := by rw [List.length_append]; omega
      rw [← List.length_append] at HO ⊢
      clear HT1 hd4 HD HL hL hd hO hB hX
      generalize a1 ++ d = D at *

      have q4 := HX.out.cell 4
      simp only [List.getElem?_toArray, List.getElem?_cons_zero, List.getElem?_cons_succ] at q4
      have hwo : wr.heap.size < (wr.alloc (.cells #[.int .u8 1] 5)).heap.size := by simp
      have HO1 : Hid (∀ j u, (bcs [1])[j]? = some u → (wr.alloc (.cells #[.int .u8 1] 5)).cell? ((⟨wr.heap.size, 0, none⟩ : Addr).add j) = some u) := Lib.hid (one_at wr 1)
      go_wp2_with (at_builtin; refine wpList_append_own _ rfl (.tmp 52) (.tmp 54) 30 rfl w.heap.size 5 i0 _ 1 1 Tryd.underlying30 HI.out.1 HI.out.2.1 HI.out.2.2.1 HI.out.2.2.2 rfl (by decide) (.slice A4' D.length c4') D.length (bcs D) rfl (by exact row_new HO.out (by repeat (first | exact Below.refl _ _ | assumption | refine Below.setCell ?_ (by first | (simp; done) | (simp; omega) | omega) _ | refine below_drewN ?_ _ | refine Below.drew ?_ | refine Below.alloc ?_ (by first | (simp; done) | (simp; omega) | omega) _))) ⟨wr.heap.size, 0, none⟩ 1 1 (bcs [1]) rfl (by first | rfl | rw [bcs_length, Nat.mul_one]) (by exact HO1.out) (bcs_oneCell _) (by simp only [maxLen]; omega) (by omega) (by first | omega | (simp; omega)) ?_; intro v6 w6 ho6 hg6 _; obtain ⟨h7, hb7, hk7⟩ := NewB.app (cs := [1]) HO.out HB.out (Nat.le_refl _) (by repeat (first | exact Below.refl _ _ | assumption | refine Below.setCell ?_ (by first | (simp; done) | (simp; omega) | omega) _ | refine below_drewN ?_ _ | refine Below.drew ?_ | refine Below.alloc ?_ (by first | (simp; done) | (simp; omega) | omega) _)) hg6 (by first | exact ho6 | (rw [List.length_append]; exact ho6)); have HO7 := Lib.hid h7; have HB7 := Lib.hid hb7; have HX7 := Lib.hid (hk7 _ _ _ HX.out (by decide)); have hxl7 := HX7.out.lt; have q5 : w6.cell? ⟨w.heap.size, 5, none⟩ = some (.slice A1 n1 c1) := HX7.out.cell 5; have q6 : w6.cell? ⟨w.heap.size, 6, none⟩ = some (.slice A2 n2 c2) := HX7.out.cell 6; have q7 : w6.cell? ⟨w.heap.size, 7, none⟩ = some (.slice A3 n3 c3) := HX7.out.cell 7; have q8 : w6.cell? ⟨w.heap.size, 8, none⟩ = some (.slice A4 n4 c4) := HX7.out.cell 8; clear ho6 hg6 h7 hb7 hk7)
      have HT3 := Lib.hid (todo_ok HT2.out (b := [1]) rfl)
      have hDl2 : (D ++ [1]).length ≤ 65700 := by simp only [List.length_append, List.length_cons, List.length_nil]; omega
      have hz8 : w6.heap.size < (w6.alloc (.cells #[.slice A1 n1 c1, .slice A2 n2 c2, .slice A3 n3 c3, .slice A4 n4 c4] 45)).heap.size := by simp
      have HS8 := Lib.hid (Blk.new w6 45 #[.slice A1 n1 c1, .slice A2 n2 c2, .slice A3 n3 c3, .slice A4 n4 c4])
      have hb8 : Below w6.heap.size w6 (w6.alloc (.cells #[.slice A1 n1 c1, .slice A2 n2 c2, .slice A3 n3 c3, .slice A4 n4 c4] 45)) := (by repeat (first | exact Below.refl _ _ | assumption | refine Below.setCell ?_ (by first | (simp; done) | (simp; omega) | omega) _ | refine below_drewN ?_ _ | refine Below.drew ?_ | refine Below.alloc ?_ (by first | (simp; done) | (simp; omega) | omega) _))
      have HB8 := Lib.hid (HB7.out.trans (hb8.mono (Nat.le_of_lt hxl7)))
      have HX8 := Lib.hid (HX7.out.new' hb8)
      have HO8 := Lib.hid (HO7.out.new hb8)
      clear hb8 HB7 HX7 HO7 q4 q5 q6 q7 q8 HT2 HO HB HX HO1 hwo
      generalize D ++ [1] = E at *
      generalize w6.alloc (.cells #[.slice A1 n1 c1, .slice A2 n2 c2, .slice A3 n3 c3, .slice A4 n4 c4] 45) = W8 at *
      generalize w6.heap.size = bs at *
      obtain ⟨wo, rfl⟩ : ∃ wo, wo = wr := ⟨_, rfl⟩
      go_loopw [4, 10] (fun v i wr => ∃ (k : Nat) (d : List UInt8), k ≤ 4 ∧ i = .int .i64 k ∧ seqE listE ([lo, ce, fr, na].take k) = .ok d ∧ NewB w.heap.size wr v (E ++ d) ∧ Below w.heap.size w wr ∧ Blk wr w.heap.size 49 #[.string nm, .int .i64 kd, .int .i64 pa, .int .i64 de, .bool true, .slice A1 n1 c1, .slice A2 n2 c2, .slice A3 n3 c3, .slice A4 n4 c4, .slice A5 n5 c5, .slice A6 n6 c6] ∧ Blk wr bs 45 #[.slice A1 n1 c1, .slice A2 n2 c2, .slice A3 n3 c3, .slice A4 n4 c4]) (fun _ i _ => 4 - (intOf i).toNat)
      case atStart => exact ⟨0, [], by omega, rfl, rfl, by rw [List.append_nil]; exact HO8.out, HB8.out, HX8.out, HS8.out⟩
      case round =>
        clear HB8 HX8 HO8 HS8
        obtain ⟨k, d, hk, rfl, hd, hO, hB, hX, hS⟩ := hrel
        obtain ⟨A4', c4', hv4⟩ := hO.val
        rw [List.length_append] at hv4
        subst hv4
        have HO := Lib.hid hO
        have HB := Lib.hid hB
        have HX := Lib.hid hX
        have HS := Lib.hid hS
        have HD := Lib.hid hd
        have hwz := hB.size
        have hxl := hX.lt
        have hsl := hS.lt
        have hdl := seqE_len listE_len hd
        rw [List.length_take] at hdl
        have hdl2 : min k [lo, ce, fr, na].length * 300000000 ≤ 4 * 300000000 := Nat.mul_le_mul_right _ (by omega)
        replace hdl : d.length ≤ 1200000000 := by omega
        clear hdl2
        by_cases hlt : k < 4
        · obtain ⟨A, n, c, l, hx, hc, hR⟩ : ∃ A n c l, [lo, ce, fr, na][k]? = some l ∧ wr.cell? ⟨bs, k, none⟩ = some (.slice A n c) ∧ RdS w A n c l := by
            rcases (show k = 0 ∨ k = 1 ∨ k = 2 ∨ k = 3 by omega) with rfl | rfl | rfl | rfl
            · exact ⟨A1, n1, c1, lo, rfl, hS.cell 0, H1.out⟩
            · exact ⟨A2, n2, c2, ce, rfl, hS.cell 1, H2.out⟩
            · exact ⟨A3, n3, c3, fr, rfl, hS.cell 2, H3.out⟩
            · exact ⟨A4, n4, c4, na, rfl, hS.cell 3, H4.out⟩
          obtain ⟨htk, hsp⟩ := take_snoc hx
          have HTK := Lib.hid htk
          have HSP := Lib.hid hsp
          have HR := Lib.hid (hR.new HB.out)
          clear hO hB hX hS hd hx htk hsp hR
          cases hx3 : listE l with
          | error y =>
            have HE := Lib.hid (todo_err HT3.out (show seqE listE [lo, ce, fr, na] = .error y by rw [HSP.out, seqE_stop HD.out hx3]))
            have hy := err_list l y hx3
            have KT : Hid (Calls Tryd.prog 45 #[.slice A n c] wr fun e w'' => Below wr.heap.size wr w'' ∧ e = .returned (.tuple #[.slice none 0 0, .int .i64 y])) := Lib.hid ((rlist_any A n c l HR.out).mono fun e w'' h => h.err hx3)
            clear hx3
            rcases hy with rfl | rfl
            all_goals
              go_wp2_with fail
              refine KT.out.mono ?_
              rintro e w3 ⟨hb3, rfl⟩
              have HB3 := Lib.hid (HB.out.trans (hb3.mono hwz))
              clear hb3
              go_wp2_with fail
              go_ret2
              rw [HE.out]
              exact ⟨HB3.out, rfl⟩
          | ok cs =>
            have hcl := listE_len _ _ hx3
            have HCN := Lib.hid (listE_ne hx3)
            have KT : Hid (Calls Tryd.prog 45 #[.slice A n c] wr fun e w'' => Below wr.heap.size wr w'' ∧ ∃ v, e = .returned (.tuple #[v, .int .i64 0]) ∧ NewB wr.heap.size w'' v cs) := Lib.hid ((rlist_any A n c l HR.out).mono fun e w'' h => h.ok hx3)
            have HD3 := Lib.hid (show seqE listE ([lo, ce, fr, na].take (k + 1)) = .ok (d ++ cs) by rw [HTK.out]; exact seqE_snoc_ok HD.out hx3)
            clear hx3
            go_wp2_with fail
            refine KT.out.mono ?_
            rintro e w3 ⟨hb3, v3, rfl, hv3⟩
            obtain ⟨g3, c3, rfl, hg3, hc3⟩ := hv3.src HCN.out
            have HO4 := Lib.hid (HO.out.new hb3)
            have HB4 := Lib.hid (HB.out.trans (hb3.mono hwz))
            have HX4 := Lib.hid (HX.out.new' hb3)
            have HS4 := Lib.hid (HS.out.new' hb3)
            have HC4 := Lib.hid hc3
            have hwz4 := HB4.out.size
            have hr4 := HO4.out
            unfold NewB at hr4
            rw [List.length_append] at hr4
            have HR4 := Lib.hid hr4
            clear hv3 hb3 hc3 hr4 HO HB HX HS hc
            go_wp2_with (at_builtin; refine wpList_append_own _ rfl (.tmp 80) (.tmp 81) 30 rfl w.heap.size 5 i0 _ 1 1 Tryd.underlying30 HI.out.1 HI.out.2.1 HI.out.2.2.1 HI.out.2.2.2 rfl (by decide) (.slice A4' (E.length + d.length) c4') (E.length + d.length) (bcs (E ++ d)) rfl (by exact HR4.out) ⟨g3, 0, none⟩ cs.length c3 (bcs cs) rfl (by first | rfl | rw [bcs_length, Nat.mul_one]) (by exact HC4.out) (bcs_oneCell _) (by simp only [maxLen]; omega) (by omega) (by first | omega | (simp; omega)) ?_; intro v6 w6 ho6 hg6 _; obtain ⟨h7, hb7, hk7⟩ := NewB.app (cs := cs) HO4.out HB4.out (Nat.le_refl _) (Below.refl _ _) hg6 (by first | exact ho6 | (rw [List.length_append]; exact ho6)); have HO7 := Lib.hid h7; have HB7 := Lib.hid hb7; have HX7 := Lib.hid (hk7 _ _ _ HX4.out (by decide)); have HS7 := Lib.hid (hk7 _ _ _ HS4.out (by decide)); clear ho6 hg6 h7 hb7 hk7)
            go_roundw
            case rel => exact ⟨k + 1, d ++ cs, by omega, by go_num, HD3.out, by rw [← List.append_assoc]; exact HO7.out, HB7.out, HX7.out, HS7.out⟩
            case measure => simp [intOf]; omega
        · obtain rfl : k = 4 := by omega
          have hd4 : seqE listE [lo, ce, fr, na] = .ok d := hd
          have HT4 := Lib.hid (todo_ok HT3.out hd4)
          have hDl3 : (E ++ d).length ≤ 1300000000 := by rw [List.length_append]; omega
          rw [← List.length_append] at HO ⊢
          clear HT3 hd4 HD HS hS hd hO hB hX
          generalize E ++ d = F at *
          have q9 : wr.cell? ⟨w.heap.size, 9, none⟩ = some (.slice A5 n5 c5) := HX.out.cell 9
          have hn5 := H5.out.2.le
          obtain ⟨wp, rfl⟩ : ∃ wp, wp = wr := ⟨_, rfl⟩
          by_cases hbig : 4096 < n5
          · have hd1 : decide (4096 < n5) = true := decide_eq_true hbig
            have hd2 : decide ((4096 : Int) < (n5 : Int)) = true := decide_eq_true (by omega)
            have HE := Lib.hid (todo_err HT4.out (show countE n5 4096 = .error 2 by unfold countE; rw [if_neg (by omega)]))
            go_wp2_with fail
            go_ret2
            rw [HE.out]
            exact ⟨HB.out, rfl⟩
          have hd1 : decide (4096 < n5) = false := decide_eq_false hbig
          have hd2 : decide ((4096 : Int) < (n5 : Int)) = false := decide_eq_false (by omega)
          have HT5 := Lib.hid (todo_ok HT4.out (countE_ok' (n := n5) (m := 4096) (by omega) (by omega)))
          have hnl : (numB n5).length ≤ 5 := numB_len (by omega) (by simp; omega)
          have HKN := Lib.hid (rnumber_any n5 (by omega) (w := wp))
          have HNE := Lib.hid (numB_ne n5)
          generalize numB n5 = cs at *
          go_wp2_with fail
          refine HKN.out.mono ?_
          rintro e w4 ⟨⟨v4, rfl, hv4⟩, hb4⟩
          obtain ⟨g4, k4, rfl, hg4, hc4⟩ := hv4.src HNE.out
          have HO4 := Lib.hid (HO.out.new hb4)
          have HB4 := Lib.hid (HB.out.trans (hb4.mono hwz))
          have HX4 := Lib.hid (HX.out.new' hb4)
          have HC4 := Lib.hid hc4
          have hwz4 := HB4.out.size
          clear hv4 hb4 hc4 HO HB HX HT4 q9
          go_wp2_with (at_builtin; refine wpList_append_own _ rfl (.tmp 87) (.tmp 91) 30 rfl w.heap.size 5 i0 _ 1 1 Tryd.underlying30 HI.out.1 HI.out.2.1 HI.out.2.2.1 HI.out.2.2.2 rfl (by decide) (.slice A4' F.length c4') F.length (bcs F) rfl (by exact row_new HO4.out (Below.refl _ _)) ⟨g4, 0, none⟩ cs.length k4 (bcs cs) rfl (by first | rfl | rw [bcs_length, Nat.mul_one]) (by exact HC4.out) (bcs_oneCell _) (by simp only [maxLen]; omega) (by omega) (by first | omega | (simp; omega)) ?_; intro v6 w6 ho6 hg6 _; obtain ⟨h7, hb7, hk7⟩ := NewB.app (cs := cs) HO4.out HB4.out (Nat.le_refl _) (Below.refl _ _) hg6 (by first | exact ho6 | (rw [List.length_append]; exact ho6)); have HO7 := Lib.hid h7; have HB7 := Lib.hid hb7; have HX7 := Lib.hid (hk7 _ _ _ HX4.out (by decide)); have hxl7 := HX7.out.lt; have q9 : w6.cell? ⟨w.heap.size, 9, none⟩ = some (.slice A5 n5 c5) := HX7.out.cell 9; clear ho6 hg6 h7 hb7 hk7)
          have hFl : (F ++ cs).length ≤ 1300000005 := by rw [List.length_append]; omega
          clear HO4 HB4 HX4 HC4 hd1 hd2
          generalize F ++ cs = G at *
          go_loopw [4, 13] (fun v i wr => ∃ (k : Nat) (d : List UInt8), k ≤ n5 ∧ i = .int .i64 k ∧ seqE valE (co.take k) = .ok d ∧ NewB w.heap.size wr v (G ++ d) ∧ Below w.heap.size w wr ∧ Blk wr w.heap.size 49 #[.string nm, .int .i64 kd, .int .i64 pa, .int .i64 de, .bool true, .slice A1 n1 c1, .slice A2 n2 c2, .slice A3 n3 c3, .slice A4 n4 c4, .slice A5 n5 c5, .slice A6 n6 c6]) (fun _ i _ => n5 - (intOf i).toNat)
          case atStart => exact ⟨0, [], by omega, rfl, rfl, by rw [List.append_nil]; exact HO7.out, HB7.out, HX7.out⟩
          case round =>
            clear HB7 HX7 HO7
            obtain ⟨k, d, hk, rfl, hd, hO, hB, hX⟩ := hrel
            obtain ⟨A4', c4', hv4⟩ := hO.val
            rw [List.length_append] at hv4
            subst hv4
            have HO := Lib.hid hO
            have HB := Lib.hid hB
            have HX := Lib.hid hX
            have HD := Lib.hid hd
            have hwz := hB.size
            have hxl := hX.lt
            have q9 : wr.cell? ⟨w.heap.size, 9, none⟩ = some (.slice A5 n5 c5) := hX.cell 9
            have hdl := seqE_len valE_len hd
            rw [List.length_take] at hdl
            have hdl2 : min k co.length * 65542 ≤ 4096 * 65542 := Nat.mul_le_mul_right _ (by omega)
            replace hdl : d.length ≤ 270000000 := by omega
            clear hdl2
            by_cases hlt : k < n5
            · obtain ⟨x, hx⟩ : ∃ x, co[k]? = some x := ⟨_, List.getElem?_eq_getElem (by rw [H5.out.1]; exact hlt)⟩
              obtain ⟨be, oe, rfl, hbe, hce⟩ := (H5.out.new HB.out).at_ (f := valCs) (m := 3) (fun _ => rfl) hx
              obtain ⟨htk, hsp⟩ := take_snoc hx
              have HTK := Lib.hid htk
              have HSP := Lib.hid hsp
              obtain ⟨vk, vn, vs⟩ := x
              have e0 : wr.cell? ⟨be, oe + k * 3, none⟩ = some (.int .i64 vk) := hce 0 _ rfl
              have e1 : wr.cell? ⟨be, oe + k * 3 + 1, none⟩ = some (.int .i64 vn) := hce 1 _ rfl
              have e2 : wr.cell? ⟨be, oe + k * 3 + 2, none⟩ = some (.string vs) := hce 2 _ rfl
              clear hO hB hX hd hx htk hsp hce
              cases hx3 : valE ⟨vk, vn, vs⟩ with
              | error y =>
                have HE := Lib.hid (todo_err HT5.out (show seqE valE co = .error y by rw [HSP.out, seqE_stop HD.out hx3]))
                have hy := err_val _ y hx3
                have KT : Hid (Calls Tryd.prog 46 #[.agg #[.int .i64 vk, .int .i64 vn, .string vs]] wr fun e w'' => Below wr.heap.size wr w'' ∧ e = .returned (.tuple #[.slice none 0 0, .int .i64 y])) := Lib.hid ((rcon_any ⟨vk, vn, vs⟩).mono fun e w'' h => h.err hx3)
                clear hx3
                rcases hy with rfl | rfl
                all_goals
                  go_wp2_with fail
                  refine KT.out.mono ?_
                  rintro e w3 ⟨hb3, rfl⟩
                  have HB3 := Lib.hid (HB.out.trans (hb3.mono hwz))
                  clear hb3
                  go_wp2_with fail
                  go_ret2
                  rw [HE.out]
                  exact ⟨HB3.out, rfl⟩
              | ok cs =>
                have hcl := valE_len _ _ hx3
                have HCN := Lib.hid (valE_ne hx3)
                have KT : Hid (Calls Tryd.prog 46 #[.agg #[.int .i64 vk, .int .i64 vn, .string vs]] wr fun e w'' => Below wr.heap.size wr w'' ∧ ∃ v, e = .returned (.tuple #[v, .int .i64 0]) ∧ NewB wr.heap.size w'' v cs) := Lib.hid ((rcon_any ⟨vk, vn, vs⟩).mono fun e w'' h => h.ok hx3)
                have HD3 := Lib.hid (show seqE valE (co.take (k + 1)) = .ok (d ++ cs) by rw [HTK.out]; exact seqE_snoc_ok HD.out hx3)
                clear hx3
                go_wp2_with fail
                refine KT.out.mono ?_
                rintro e w3 ⟨hb3, v3, rfl, hv3⟩
                obtain ⟨g3, k3, rfl, hg3, hc3⟩ := hv3.src HCN.out
                have HO4 := Lib.hid (HO.out.new hb3)
                have HB4 := Lib.hid (HB.out.trans (hb3.mono hwz))
                have HX4 := Lib.hid (HX.out.new' hb3)
                have HC4 := Lib.hid hc3
                have hwz4 := HB4.out.size
                have hr4 := HO4.out
                unfold NewB at hr4
                rw [List.length_append] at hr4
                have HR4 := Lib.hid hr4
                clear hv3 hb3 hc3 hr4 HO HB HX e0 e1 e2 q9
                go_wp2_with (at_builtin; refine wpList_append_own _ rfl (.tmp 112) (.tmp 113) 30 rfl w.heap.size 5 i0 _ 1 1 Tryd.underlying30 HI.out.1 HI.out.2.1 HI.out.2.2.1 HI.out.2.2.2 rfl (by decide) (.slice A4' (G.length + d.length) c4') (G.length + d.length) (bcs (G ++ d)) rfl (by exact HR4.out) ⟨g3, 0, none⟩ cs.length k3 (bcs cs) rfl (by first | rfl | rw [bcs_length, Nat.mul_one]) (by exact HC4.out) (bcs_oneCell _) (by simp only [maxLen]; omega) (by omega) (by first | omega | (simp; omega)) ?_; intro v6 w6 ho6 hg6 _; obtain ⟨h7, hb7, hk7⟩ := NewB.app (cs := cs) HO4.out HB4.out (Nat.le_refl _) (Below.refl _ _) hg6 (by first | exact ho6 | (rw [List.length_append]; exact ho6)); have HO7 := Lib.hid h7; have HB7 := Lib.hid hb7; have HX7 := Lib.hid (hk7 _ _ _ HX4.out (by decide)); clear ho6 hg6 h7 hb7 hk7)
                go_roundw
                case rel => exact ⟨k + 1, d ++ cs, by omega, by go_num, HD3.out, by rw [← List.append_assoc]; exact HO7.out, HB7.out, HX7.out⟩
                case measure => simp [intOf]; omega
            · obtain rfl : n5 = k := by omega
              have hd4 : seqE valE co = .ok d := by
                rw [List.take_of_length_le (by rw [H5.out.1]; omega)] at hd
                exact hd
              have HT6 := Lib.hid (todo_ok HT5.out hd4)
              have hGl : (G ++ d).length ≤ 1600000005 := by rw [List.length_append]; omega
              rw [← List.length_append] at HO ⊢
              clear HT5 hd4 HD hd hO hB hX
              generalize G ++ d = H at *
              have q10 : wr.cell? ⟨w.heap.size, 10, none⟩ = some (.slice A6 n6 c6) := HX.out.cell 10
              have hn6 := H6.out.2.le
              obtain ⟨wq, rfl⟩ : ∃ wq, wq = wr := ⟨_, rfl⟩
              by_cases hbig6 : 65536 < n6
              · have hd1 : decide (65536 < n6) = true := decide_eq_true hbig6
                have hd2 : decide ((65536 : Int) < (n6 : Int)) = true := decide_eq_true (by omega)
                have HE := Lib.hid (todo_err HT6.out (show countE n6 65536 = .error 2 by unfold countE; rw [if_neg (by omega)]))
                go_wp2_with fail
                go_ret2
                rw [HE.out]
                exact ⟨HB.out, rfl⟩
              have hd1 : decide (65536 < n6) = false := decide_eq_false hbig6
              have hd2 : decide ((65536 : Int) < (n6 : Int)) = false := decide_eq_false (by omega)
              have HT7 := Lib.hid (todo_ok HT6.out (countE_ok' (n := n6) (m := 65536) (by omega) (by omega)))
              have hnl : (numB n6).length ≤ 5 := numB_len (by omega) (by simp; omega)
              have HKN := Lib.hid (rnumber_any n6 (by omega) (w := wq))
              have HNE := Lib.hid (numB_ne n6)
              generalize numB n6 = cs at *
              go_wp2_with fail
              refine HKN.out.mono ?_
              rintro e w4 ⟨⟨v4, rfl, hv4⟩, hb4⟩
              obtain ⟨g4, k4, rfl, hg4, hc4⟩ := hv4.src HNE.out
              have HO4 := Lib.hid (HO.out.new hb4)
              have HB4 := Lib.hid (HB.out.trans (hb4.mono hwz))
              have HX4 := Lib.hid (HX.out.new' hb4)
              have HC4 := Lib.hid hc4
              have hwz4 := HB4.out.size
              clear hv4 hb4 hc4 HO HB HX HT6 q10 q9
              go_wp2_with (at_builtin; refine wpList_append_own _ rfl (.tmp 119) (.tmp 123) 30 rfl w.heap.size 5 i0 _ 1 1 Tryd.underlying30 HI.out.1 HI.out.2.1 HI.out.2.2.1 HI.out.2.2.2 rfl (by decide) (.slice A4' H.length c4') H.length (bcs H) rfl (by exact row_new HO4.out (Below.refl _ _)) ⟨g4, 0, none⟩ cs.length k4 (bcs cs) rfl (by first | rfl | rw [bcs_length, Nat.mul_one]) (by exact HC4.out) (bcs_oneCell _) (by simp only [maxLen]; omega) (by omega) (by first | omega | (simp; omega)) ?_; intro v6 w6 ho6 hg6 _; obtain ⟨h7, hb7, hk7⟩ := NewB.app (cs := cs) HO4.out HB4.out (Nat.le_refl _) (Below.refl _ _) hg6 (by first | exact ho6 | (rw [List.length_append]; exact ho6)); have HO7 := Lib.hid h7; have HB7 := Lib.hid hb7; have HX7 := Lib.hid (hk7 _ _ _ HX4.out (by decide)); have hxl7 := HX7.out.lt; have q10 : w6.cell? ⟨w.heap.size, 10, none⟩ = some (.slice A6 n6 c6) := HX7.out.cell 10; clear ho6 hg6 h7 hb7 hk7)
              have hHl : (H ++ cs).length ≤ 1600000010 := by rw [List.length_append]; omega
              clear HO4 HB4 HX4 HC4 hd1 hd2
              generalize H ++ cs = J at *
              go_loopw [4, 16] (fun v i wr => ∃ (k : Nat) (d : List UInt8), k ≤ n6 ∧ i = .int .i64 k ∧ seqE insE (is.take k) = .ok d ∧ NewB w.heap.size wr v (J ++ d) ∧ Below w.heap.size w wr ∧ Blk wr w.heap.size 49 #[.string nm, .int .i64 kd, .int .i64 pa, .int .i64 de, .bool true, .slice A1 n1 c1, .slice A2 n2 c2, .slice A3 n3 c3, .slice A4 n4 c4, .slice A5 n5 c5, .slice A6 n6 c6]) (fun _ i _ => n6 - (intOf i).toNat)
              case atStart => exact ⟨0, [], by omega, rfl, rfl, by rw [List.append_nil]; exact HO7.out, HB7.out, HX7.out⟩
              case round =>
                clear HB7 HX7 HO7
                obtain ⟨k, d, hk, rfl, hd, hO, hB, hX⟩ := hrel
                obtain ⟨A4', c4', hv4⟩ := hO.val
                rw [List.length_append] at hv4
                subst hv4
                have HO := Lib.hid hO
                have HB := Lib.hid hB
                have HX := Lib.hid hX
                have HD := Lib.hid hd
                have hwz := hB.size
                have hxl := hX.lt
                have q10 : wr.cell? ⟨w.heap.size, 10, none⟩ = some (.slice A6 n6 c6) := hX.cell 10
                have hdl := seqE_len insE_len hd
                rw [List.length_take] at hdl
                have hdl2 : min k is.length * 6 ≤ 65536 * 6 := Nat.mul_le_mul_right _ (by omega)
                replace hdl : d.length ≤ 400000 := by omega
                clear hdl2
                by_cases hlt : k < n6
                · obtain ⟨x, hx⟩ : ∃ x, is[k]? = some x := ⟨_, List.getElem?_eq_getElem (by rw [H6.out.1]; exact hlt)⟩
                  obtain ⟨be, oe, rfl, hbe, hce⟩ := (H6.out.new HB.out).at_ (f := insCs) (m := 2) (fun _ => rfl) hx
                  obtain ⟨htk, hsp⟩ := take_snoc hx
                  have HTK := Lib.hid htk
                  have HSP := Lib.hid hsp
                  obtain ⟨vo, va⟩ := x
                  have HXX := Lib.hid hx
                  have e0 : wr.cell? ⟨be, oe + k * 2, none⟩ = some (.int .i64 vo) := hce 0 _ rfl
                  have e1 : wr.cell? ⟨be, oe + k * 2 + 1, none⟩ = some (.int .i64 va) := hce 1 _ rfl
                  clear hO hB hX hd hx htk hsp hce
                  by_cases h01 : vo < 1
                  · have hs1 : decide (vo < 1) = true := decide_eq_true h01
                    have HE := Lib.hid (todo_stop HT7.out (show seqE insE is = .error 1 by rw [HSP.out, seqE_stop HD.out (show insE (vo, va) = .error 1 from if_neg (by simp only; omega))]))
                    go_wp2_with fail
                    go_ret2
                    rw [HE.out]
                    exact ⟨HB.out, rfl⟩
                  have hs1 : decide (vo < 1) = false := decide_eq_false h01
                  by_cases h56 : 56 < vo
                  · have hs2 : decide (56 < vo) = true := decide_eq_true h56
                    have HE := Lib.hid (todo_stop HT7.out (show seqE insE is = .error 1 by rw [HSP.out, seqE_stop HD.out (show insE (vo, va) = .error 1 from if_neg (by simp only; omega))]))
                    go_wp2_with fail
                    go_ret2
                    rw [HE.out]
                    exact ⟨HB.out, rfl⟩
                  have hs2 : decide (56 < vo) = false := decide_eq_false h56
                  have hie : insE (vo, va) = andE (.ok [byteI vo]) (numE va) := if_pos (by simp only; omega)
                  by_cases hin : 0 ≤ va ∧ va ≤ 2147483647
                  · obtain ⟨x0, rfl⟩ := Int.eq_ofNat_of_zero_le hin.1
                    have hx0 : x0 ≤ 2147483647 := by omega
                    have hx3 : insE (vo, (x0 : Int)) = .ok ([byteI vo] ++ numB x0) := by rw [hie]; unfold numE; rw [if_pos hin]; rfl
                    have HD3 := Lib.hid (show seqE insE (is.take (k + 1)) = .ok (d ++ ([byteI vo] ++ numB x0)) by rw [HTK.out]; exact seqE_snoc_ok HD.out hx3)
                    have hnl2 : (numB x0).length ≤ 5 := numB_len (by omega) (by simp; omega)
                    have HKN2 : Hid (∀ w', Calls Tryd.prog 28 #[.int .i64 (x0 : Int)] w' fun e w'' => (∃ v, e = .returned v ∧ NewB w'.heap.size w'' v (numB x0)) ∧ Below w'.heap.size w' w'') := Lib.hid fun w' => rnumber_any x0 hx0
                    have HNE2 := Lib.hid (numB_ne x0)
                    have hy : ((byteI vo).toNat : Int) = vo := by rw [byteI_toNat]; omega
                    have hv0 : 0 ≤ vo := by omega
                    have hv1 : vo ≤ 255 := by omega
                    clear hx3 hie hin
                    generalize numB x0 = cs2 at *
                    generalize byteI vo = y at *
                    have HY := Lib.hid hy
                    clear hy
                    have ho1 := one_at wr y
                    rw [HY.out] at ho1
                    have HO1 := Lib.hid ho1
                    have hr4 := HO.out
                    unfold NewB at hr4
                    rw [List.length_append] at hr4
                    have HR4 := Lib.hid hr4
                    clear ho1 hr4
                    go_wp2_with fail
                    refine (right_yes x0 hx0).mono ?_
                    rintro e w' ⟨rfl, rfl⟩
                    go_wp2_with (at_builtin; refine wpList_append_own _ rfl (.tmp 158) (.tmp 166) 30 rfl w.heap.size 5 i0 _ 1 1 Tryd.underlying30 HI.out.1 HI.out.2.1 HI.out.2.2.1 HI.out.2.2.2 rfl (by decide) (.slice A4' (J.length + d.length) c4') (J.length + d.length) (bcs (J ++ d)) rfl (by exact row_new HR4.out (by repeat (first | exact Below.refl _ _ | assumption | refine Below.setCell ?_ (by first | (simp; done) | (simp; omega) | omega) _ | refine below_drewN ?_ _ | refine Below.drew ?_ | refine Below.alloc ?_ (by first | (simp; done) | (simp; omega) | omega) _))) ⟨w'.heap.size, 0, none⟩ 1 1 (bcs [y]) rfl (by first | rfl | rw [bcs_length, Nat.mul_one]) (by exact HO1.out) (bcs_oneCell _) (by simp only [maxLen]; omega) (by omega) (by first | omega | (simp; omega)) ?_; intro v6 w6 ho6 hg6 _; obtain ⟨h7, hb7, hk7⟩ := NewB.app (cs := [y]) HO.out HB.out (Nat.le_refl _) (by repeat (first | exact Below.refl _ _ | assumption | refine Below.setCell ?_ (by first | (simp; done) | (simp; omega) | omega) _ | refine below_drewN ?_ _ | refine Below.drew ?_ | refine Below.alloc ?_ (by first | (simp; done) | (simp; omega) | omega) _)) hg6 (by first | exact ho6 | (rw [List.length_append]; exact ho6)); obtain ⟨A9, c9, hv9⟩ := h7.val; rw [show (J ++ d ++ [y]).length = J.length + d.length + 1 by simp only [List.length_append, List.length_cons, List.length_nil, Nat.zero_add]] at hv9; subst hv9; have HO7 := Lib.hid h7; have HB7 := Lib.hid hb7; have hx7 := hk7 _ _ _ HX.out (by decide); have HX7 := Lib.hid hx7; have hxl7 := hx7.lt; have q10' : w6.cell? ⟨w.heap.size, 10, none⟩ = some (.slice (some ⟨be, oe, none⟩) n6 c6) := hx7.cell 10; obtain ⟨be', oe', he', hbe', hce'⟩ := (H6.out.new hb7).at_ (f := insCs) (m := 2) (fun _ => rfl) HXX.out; injection he' with he'; injection he' with he1 he2 _; subst he1; subst he2; have s2 : w6.cell? ⟨be, oe + k * 2 + 1, none⟩ = some (.int .i64 (x0 : Int)) := hce' 1 _ rfl; have s1 := hbe'; clear hce' hx7; clear ho6 hg6 h7 hb7 hk7)
                    refine (HKN2.out _).mono ?_
                    rintro e w9 ⟨⟨v9, rfl, hv9⟩, hb9⟩
                    obtain ⟨g9, k9, rfl, hg9, hc9⟩ := hv9.src HNE2.out
                    have hwz7 := HB7.out.size
                    have HO9 := Lib.hid (HO7.out.new hb9)
                    have HB9 := Lib.hid (HB7.out.trans (hb9.mono hwz7))
                    have HX9 := Lib.hid (HX7.out.new' hb9)
                    have HC9 := Lib.hid hc9
                    have hwz9 := HB9.out.size
                    have hr9 := HO9.out
                    unfold NewB at hr9
                    rw [show (J ++ d ++ [y]).length = J.length + d.length + 1 by simp only [List.length_append, List.length_cons, List.length_nil, Nat.zero_add]] at hr9
                    have HR9 := Lib.hid hr9
                    clear hv9 hb9 hc9 hr9 HO HB HX HO7 HB7 HX7 e0 e1 q10 s1 s2
                    go_wp2_with (at_builtin; refine wpList_append_own _ rfl (.tmp 168) (.tmp 175) 30 rfl w.heap.size 5 i0 _ 1 1 Tryd.underlying30 HI.out.1 HI.out.2.1 HI.out.2.2.1 HI.out.2.2.2 rfl (by decide) (.slice A9 (J.length + d.length + 1) c9) (J.length + d.length + 1) (bcs (J ++ d ++ [y])) rfl (by exact HR9.out) ⟨g9, 0, none⟩ cs2.length k9 (bcs cs2) rfl (by first | rfl | rw [bcs_length, Nat.mul_one]) (by exact HC9.out) (bcs_oneCell _) (by simp only [maxLen]; omega) (by omega) (by first | omega | (simp; omega)) ?_; intro v6 w6 ho6 hg6 _; obtain ⟨h7, hb7, hk7⟩ := NewB.app (cs := cs2) HO9.out HB9.out (Nat.le_refl _) (Below.refl _ _) hg6 (by first | exact ho6 | (rw [show (J ++ d ++ [y]).length = J.length + d.length + 1 by simp only [List.length_append, List.length_cons, List.length_nil, Nat.zero_add]]; exact ho6)); have HO8 := Lib.hid h7; have HB8 := Lib.hid hb7; have HX8 := Lib.hid (hk7 _ _ _ HX9.out (by decide)); clear ho6 hg6 h7 hb7 hk7)
                    go_roundw
                    case rel => exact ⟨k + 1, d ++ ([y] ++ cs2), by omega, by go_num, HD3.out, by rw [← List.append_assoc, ← List.append_assoc]; exact HO8.out, HB8.out, HX8.out⟩
                    case measure => simp [intOf]; omega
                  · have HE := Lib.hid (todo_stop HT7.out (show seqE insE is = .error 1 by rw [HSP.out, seqE_stop HD.out (show insE (vo, va) = .error 1 by rw [hie]; unfold numE; rw [if_neg hin]; rfl)]))
                    clear hie
                    go_wp2_with fail
                    refine (right_no va hin).mono ?_
                    rintro e w' ⟨rfl, rfl⟩
                    go_wp2_with fail
                    go_ret2
                    rw [HE.out]
                    exact ⟨HB.out, rfl⟩
                · obtain rfl : n6 = k := by omega
                  have hd4 : seqE insE is = .ok d := by
                    rw [List.take_of_length_le (by rw [H6.out.1]; omega)] at hd
                    exact hd
                  have HE := Lib.hid (todo_end HT7.out hd4)
                  clear hO hB hX hd hd4 HD
                  go_wp2_with fail
                  go_ret2
                  rw [HE.out]
                  exact ⟨HB.out, _, rfl, HO.out⟩



theorem one_any {w : World} (c : CodeD) {cs : List Value} (hc : CodeAt w c cs) : Calls Tryd.prog 29 #[.agg cs.toArray] w (RefB w (codeE c)) := by
  obtain ⟨A1, n1, c1, A2, n2, c2, A3, n3, c3, A4, n4, c4, A5, n5, c5, A6, n6, c6, rfl, h1, h2, h3, h4, h5, h6⟩ := hc.parts
  cases hg : c.gen with
  | false => exact one_false c hg h1 h2 h3 h4 h5 h6
  | true => exact one_true c hg h1 h2 h3 h4 h5 h6
end Go.Proofs.YtcfelfhjhkenaaaDoor
