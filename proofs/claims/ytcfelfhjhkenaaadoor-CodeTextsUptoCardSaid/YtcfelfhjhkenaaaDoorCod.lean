/- out.code. -/
import Derived.Test.YtcfelfhjhkenaaaDoorRdp
import Derived.BigFrame
namespace Go.Proofs.YtcfelfhjhkenaaaDoor
open Go.RowKit
set_option linter.unusedVariables false
set_option linter.unusedSimpArgs false
attribute [local go_sem] Oper.semAt_some

/-- a, and what comes behind it -/
def preE (a : List UInt8) (B : Res) : Res := match B with
  | .error e => .error e
  | .ok y => .ok (a ++ y)
theorem todo_ok {R A B : Res} {d b : List UInt8} (h : R = preE d (andE A B)) (hA : A = .ok b) : R = preE (d ++ b) B := by
  rw [h, hA]
  cases B <;> simp [preE, andE]
theorem todo_err {R A B : Res} {d : List UInt8} {y : Int} (h : R = preE d (andE A B)) (hA : A = .error y) : R = .error y := by
  rw [h, hA]
  rfl
theorem todo_end {R B : Res} {d b : List UInt8} (h : R = preE d B) (hB : B = .ok b) : R = .ok (d ++ b) := by rw [h, hB]; rfl
theorem todo_stop {R B : Res} {d : List UInt8} {y : Int} (h : R = preE d B) (hB : B = .error y) : R = .error y := by rw [h, hB]; rfl
theorem andE_assoc (A B C : Res) : andE (andE A B) C = andE A (andE B C) := by
  cases A <;> cases B <;> cases C <;> simp [andE]
theorem seqE_cons {α : Type} (f : α → Res) (x : α) (xs : List α) : seqE f (x :: xs) = andE (f x) (seqE f xs) := by
  rw [seqE]
  cases f x with
  | error e => rfl
  | ok a => cases seqE f xs <;> rfl
theorem seq4 (f : List ByteArray → Res) (a b c d : List ByteArray) (B : Res) : andE (seqE f [a, b, c, d]) B = andE (f a) (andE (f b) (andE (f c) (andE (f d) B))) := by
  rw [seqE_cons, seqE_cons, seqE_cons, seqE_cons, andE_assoc, andE_assoc, andE_assoc, andE_assoc]
  congr 4
  show andE (.ok []) B = B
  cases B <;> rfl
theorem codeE_todo (c : CodeD) : codeE c = preE [] (andE (textE c.name) (andE (numE c.kind) (andE (numE c.params) (andE (numE c.defaults) (andE (.ok [if c.gen then 1 else 0])
    (andE (seqE listE [c.locals, c.cells, c.free, c.names])
      (andE (countE c.consts.length 4096) (andE (seqE valE c.consts) (andE (countE c.ins.length 65536) (seqE insE c.ins)))))))))) := by
  rw [seq4]
  unfold codeE
  generalize (andE (textE c.name) _) = R
  cases R <;> rfl
theorem countE_len {n most : Int} {a : List UInt8} (h : countE n most = .ok a) : a.length ≤ 5 ∧ n ≤ most := by
  unfold countE at h
  split at h
  · unfold numE at h
    split at h
    · cases h
      exact ⟨numB_len (by omega) (by simp; omega), by assumption⟩
    · cases h
  · cases h
theorem numE_len {n : Int} {a : List UInt8} (h : numE n = .ok a) : a.length ≤ 5 := by
  unfold numE at h
  split at h
  · cases h
    exact numB_len (by omega) (by simp; omega)
  · cases h
theorem listE_len (l : List ByteArray) (a : List UInt8) (h : listE l = .ok a) : a.length ≤ 300000000 := by
  unfold listE at h
  split at h
  · rename_i hl
    cases h1 : seqE textE l with
    | error e => rw [h1] at h; cases h
    | ok b =>
      rw [h1] at h
      cases h
      have h2 := seqE_len textE_len h1
      have h3 : (numB l.length).length ≤ 5 := numB_len (by omega) (by simp; omega)
      have h4 : l.length * 65541 ≤ 4096 * 65541 := Nat.mul_le_mul_right _ hl
      rw [List.length_append]
      omega
  · cases h
theorem insE_len (x : Int × Int) (a : List UInt8) (h : insE x = .ok a) : a.length ≤ 6 := by
  unfold insE at h
  split at h
  · obtain ⟨a1, a2, h1, h2, rfl⟩ := andE_ok.1 h
    cases h1
    have := numE_len h2
    simp
    omega
  · cases h
theorem take_snoc {α : Type} {l : List α} {k : Nat} {x : α} (h : l[k]? = some x) : l.take (k + 1) = l.take k ++ [x] ∧ l = l.take k ++ x :: l.drop (k + 1) := by
  obtain ⟨h1, h2⟩ := List.getElem?_eq_some_iff.1 h
  exact ⟨by rw [List.take_succ_eq_append_getElem h1, h2], by rw [← h2, List.getElem_cons_drop]; exact (List.take_append_drop k l).symm⟩

set_option maxRecDepth 100000 in
set_option maxHeartbeats 2000000 in
theorem code_false {w0 w : World} {o : Nat} {bs : List UInt8} (h : OutAt w0 w o bs) (hl : bs.length + 2000000000 ≤ 100000000000000) (c : CodeD) (hg : c.gen = false)
    {A1 A2 A3 A4 A5 A6 : Option Addr} {n1 c1 n2 c2 n3 c3 n4 c4 n5 c5 n6 c6 : Nat} (h1 : RdS w0 A1 n1 c1 c.locals) (h2 : RdS w0 A2 n2 c2 c.cells) (h3 : RdS w0 A3 n3 c3 c.free) (h4 : RdS w0 A4 n4 c4 c.names)
    (h5 : RdF valCs 3 w0 A5 n5 c5 c.consts) (h6 : RdF insCs 2 w0 A6 n6 c6 c.ins) :
    Calls Tryd.prog 25 #[.pointer (some ⟨o, 0, none⟩), .agg #[.string c.name, .int .i64 c.kind, .int .i64 c.params, .int .i64 c.defaults, .bool false, .slice A1 n1 c1, .slice A2 n2 c2, .slice A3 n3 c3, .slice A4 n4 c4, .slice A5 n5 c5, .slice A6 n6 c6]] w (Wrote w0 w o bs (codeE c)) := by
  obtain ⟨i0, hi, hz0, hz1, hz2⟩ := info_parts info_B
  have HI := Lib.hid (And.intro hi (And.intro hz0 (And.intro hz1 hz2)))
  clear hi hz0 hz1 hz2
  have ht := codeE_todo c
  generalize codeE c = R at *
  obtain ⟨nm, kd, pa, de, ge, lo, ce, fr, na, co, is⟩ := c
  obtain rfl : ge = false := hg
  simp only at ht h1 h2 h3 h4 h5 h6 ⊢
  have hb0 : Below w.heap.size w (w.alloc (.cells #[.string nm, .int .i64 kd, .int .i64 pa, .int .i64 de, .bool false, .slice A1 n1 c1, .slice A2 n2 c2, .slice A3 n3 c3, .slice A4 n4 c4, .slice A5 n5 c5, .slice A6 n6 c6] 49)) := (by repeat (first | exact Below.refl _ _ | assumption | refine Below.setCell ?_ (by first | (simp; done) | (simp; omega) | omega) _ | refine below_drewN ?_ _ | refine Below.drew ?_ | refine Below.alloc ?_ (by first | (simp; done) | (simp; omega) | omega) _))
  have HO0 := Lib.hid (h.new hb0)
  have HK0 := Lib.hid (KeepsT.new hb0)
  have HB0 := Lib.hid (Blk.new w 49 #[.string nm, .int .i64 kd, .int .i64 pa, .int .i64 de, .bool false, .slice A1 n1 c1, .slice A2 n2 c2, .slice A3 n3 c3, .slice A4 n4 c4, .slice A5 n5 c5, .slice A6 n6 c6])
  have H1 := Lib.hid h1
  have H2 := Lib.hid h2
  have H3 := Lib.hid h3
  have H4 := Lib.hid h4
  have H5 := Lib.hid h5
  have H6 := Lib.hid h6
  rw [h5.1, h6.1] at ht
  have HT0 := Lib.hid ht
  clear h h1 h2 h3 h4 h5 h6 ht hb0
  go_enter Tryd.func25, Tryd.ntmps25
  go_wp2_with fail
  generalize w.alloc (.cells #[.string nm, .int .i64 kd, .int .i64 pa, .int .i64 de, .bool false, .slice A1 n1 c1, .slice A2 n2 c2, .slice A3 n3 c3, .slice A4 n4 c4, .slice A5 n5 c5, .slice A6 n6 c6] 49) = W1 at *
  generalize w.heap.size = b at *
  refine (text_any HO0.out (by omega) nm).mono ?_
  rintro e W2 ⟨hK, hb, hr⟩
  cases hx : textE nm with
  | error y =>
    rw [hx] at hr
    obtain rfl := hr
    exact ⟨rfl, HK0.out.trans hK, hb, by rw [todo_err HT0.out hx]⟩
  | ok a1 =>
  rw [hx] at hr
  obtain ⟨rfl, hO⟩ := hr
  have hl1 := textE_len _ _ hx
  have HO1 := Lib.hid hO
  have HK1 := Lib.hid (HK0.out.trans hK)
  have HB1 := Lib.hid (hK.2 _ _ _ HB0.out (by decide) (by decide))
  have HT1 := Lib.hid (todo_ok HT0.out hx)
  clear HO0 HK0 HB0 HT0 hO hK hb hx
  have hbl := HB1.out.lt
  have q1 : W2.cell? ⟨b, 1, none⟩ = some (.int .i64 kd) := HB1.out.cell 1
  go_wp2_with fail
  clear q1 hbl
  refine (number_any HO1.out (by simp only [List.length_append]; omega) kd).mono ?_
  rintro e W3 ⟨hK, hb, hr⟩
  cases hx : numE kd with
  | error y =>
    rw [hx] at hr
    obtain rfl := hr
    exact ⟨rfl, HK1.out.trans hK, hb, by rw [todo_err HT1.out hx]⟩
  | ok a2 =>
  rw [hx] at hr
  obtain ⟨rfl, hO⟩ := hr
  have hl2 := numE_len hx
  have HO2 := Lib.hid hO
  have HK2 := Lib.hid (HK1.out.trans hK)
  have HB2 := Lib.hid (hK.2 _ _ _ HB1.out (by decide) (by decide))
  have HT2 := Lib.hid (todo_ok HT1.out hx)
  clear HO1 HK1 HB1 HT1 hO hK hb hx
  have hbl := HB2.out.lt
  have q2 : W3.cell? ⟨b, 2, none⟩ = some (.int .i64 pa) := HB2.out.cell 2
  go_wp2_with fail
  clear q2 hbl
  refine (number_any HO2.out (by simp only [List.length_append]; omega) pa).mono ?_
  rintro e W4 ⟨hK, hb, hr⟩
  cases hx : numE pa with
  | error y =>
    rw [hx] at hr
    obtain rfl := hr
    exact ⟨rfl, HK2.out.trans hK, hb, by rw [todo_err HT2.out hx]⟩
  | ok a3 =>
  rw [hx] at hr
  obtain ⟨rfl, hO⟩ := hr
  have hl3 := numE_len hx
  have HO3 := Lib.hid hO
  have HK3 := Lib.hid (HK2.out.trans hK)
  have HB3 := Lib.hid (hK.2 _ _ _ HB2.out (by decide) (by decide))
  have HT3 := Lib.hid (todo_ok HT2.out hx)
  clear HO2 HK2 HB2 HT2 hO hK hb hx
  have hbl := HB3.out.lt
  have q3 : W4.cell? ⟨b, 3, none⟩ = some (.int .i64 de) := HB3.out.cell 3
  go_wp2_with fail
  clear q3 hbl
  refine (number_any HO3.out (by simp only [List.length_append]; omega) de).mono ?_
  rintro e W5 ⟨hK, hb, hr⟩
  cases hx : numE de with
  | error y =>
    rw [hx] at hr
    obtain rfl := hr
    exact ⟨rfl, HK3.out.trans hK, hb, by rw [todo_err HT3.out hx]⟩
  | ok a4 =>
  rw [hx] at hr
  obtain ⟨rfl, hO⟩ := hr
  have hl4 := numE_len hx
  have HO4 := Lib.hid hO
  have HK4 := Lib.hid (HK3.out.trans hK)
  have HB4 := Lib.hid (hK.2 _ _ _ HB3.out (by decide) (by decide))
  have HT4 := Lib.hid (todo_ok HT3.out hx)
  clear HO3 HK3 HB3 HT3 hO hK hb hx
  have hbl := HB4.out.lt
  have q4 : W5.cell? ⟨b, 4, none⟩ = some (.bool false) := HB4.out.cell 4
  clear q4 hbl
  have q4 : W5.cell? ⟨b, 4, none⟩ = some (.bool false) := HB4.out.cell 4
  obtain ⟨v, hb1, hb2⟩ := HO4.out.row
  obtain ⟨A, cc, rfl, -, -⟩ := Own.rd (row_own hb2)
  have hbz := HO4.out.bel.size
  have hbl := HB4.out.lt
  have q0 := hb1.cell 0
  simp only [List.getElem?_toArray, List.getElem?_cons_zero] at q0
  have hlo := hb1.lt
  have hLL : (bs ++ a1 ++ a2 ++ a3 ++ a4).length ≤ bs.length + 66000 := by simp only [List.length_append]; omega
  generalize hL : bs ++ a1 ++ a2 ++ a3 ++ a4 = L at *
  have HL := Lib.hid hL
  clear hL
  go_wp2_with (at_builtin; refine wpList_append_own _ rfl (.tmp 33) (.tmp 35) 30 rfl w0.heap.size 5 i0 _ 1 1 Tryd.underlying30 HI.out.1 HI.out.2.1 HI.out.2.2.1 HI.out.2.2.2 rfl (by decide) (.slice A L.length cc) L.length (bcs L) rfl (by exact row_new hb2 (by repeat (first | exact Below.refl _ _ | assumption | refine Below.setCell ?_ (by first | (simp; done) | (simp; omega) | omega) _ | refine below_drewN ?_ _ | refine Below.drew ?_ | refine Below.alloc ?_ (by first | (simp; done) | (simp; omega) | omega) _))) ⟨W5.heap.size, 0, none⟩ 1 1 (bcs [0]) rfl rfl (by exact one_at W5 0) (bcs_oneCell _) (by simp only [maxLen]; omega) (by omega) (by simp; omega) ?_; intro v6 w6 ho6 hg6 _; obtain ⟨A6', c6', rfl, -, -⟩ := Own.rd (row_own ho6); obtain ⟨p6, f6, l6, hO6, hK6⟩ := OutAt.push (cs := [0]) hb1 hb2 HO4.out.bel HO4.out.base (by repeat (first | exact Below.refl _ _ | assumption | refine Below.setCell ?_ (by first | (simp; done) | (simp; omega) | omega) _ | refine below_drewN ?_ _ | refine Below.drew ?_ | refine Below.alloc ?_ (by first | (simp; done) | (simp; omega) | omega) _)) ho6 hg6; have HO5 := Lib.hid hO6; have HK5 := Lib.hid (HK4.out.trans hK6); have HB5 := Lib.hid (hK6.2 _ _ _ HB4.out (by decide) (by decide)); have q5 := HB5.out.cell 5; have q6 := HB5.out.cell 6; have q7 := HB5.out.cell 7; have q8 := HB5.out.cell 8; simp only [List.getElem?_toArray, List.getElem?_cons_zero, List.getElem?_cons_succ] at q5 q6 q7 q8; have l5 := HB5.out.lt; clear ho6 hg6 hO6 hK6)

  have HT5 := Lib.hid (todo_ok HT4.out (b := [0]) rfl)
  have hLD : L ++ [0] = bs ++ ([] ++ a1 ++ a2 ++ a3 ++ a4 ++ [0]) := by rw [← HL.out]; simp only [List.nil_append, List.append_assoc]
  have hDl : ([] ++ a1 ++ a2 ++ a3 ++ a4 ++ [0]).length ≤ 66000 := by simp only [List.length_append, List.length_nil, List.length_cons]; omega
  rw [hLD] at HO5
  clear hLD HL hLL hl1 hl2 hl3 hl4 q0 q4 q5 q6 q7 q8 p6 f6 l6 hb1 hb2 HO4 HB4 HK4 HT4 hbz hbl hlo l5
  generalize [] ++ a1 ++ a2 ++ a3 ++ a4 ++ [0] = D at *
  have hz6 : ∀ u, (w6.setCell ⟨o, 0, none⟩ u).heap.size = w6.heap.size := fun u => by simp [World.setCell]
  replace hz6 := hz6 (.slice A6' (L.length + 1) c6')
  generalize w6.setCell ⟨o, 0, none⟩ _ = W6 at *
  have hb7 : Below W6.heap.size W6 (W6.alloc (.cells #[.slice A1 n1 c1, .slice A2 n2 c2, .slice A3 n3 c3, .slice A4 n4 c4] 45)) := (by repeat (first | exact Below.refl _ _ | assumption | refine Below.setCell ?_ (by first | (simp; done) | (simp; omega) | omega) _ | refine below_drewN ?_ _ | refine Below.drew ?_ | refine Below.alloc ?_ (by first | (simp; done) | (simp; omega) | omega) _))
  have HO6 := Lib.hid (HO5.out.new hb7)
  have HK6 := Lib.hid (HK5.out.trans (KeepsT.new hb7))
  have HB6 := Lib.hid (HB5.out.new' hb7)
  have hs6 := Blk.new W6 45 #[.slice A1 n1 c1, .slice A2 n2 c2, .slice A3 n3 c3, .slice A4 n4 c4]
  rw [hz6] at hs6
  have HS6 := Lib.hid hs6
  clear HO5 HK5 HB5 hb7 hs6 hz6
  generalize W6.alloc (.cells #[.slice A1 n1 c1, .slice A2 n2 c2, .slice A3 n3 c3, .slice A4 n4 c4] 45) = W7 at *
  generalize w6.heap.size = bl at *
  go_loopw [49] (fun i wr => ∃ (k : Nat) (d : List UInt8), k ≤ 4 ∧ i = .int .i64 k ∧ seqE listE ([lo, ce, fr, na].take k) = .ok d ∧ OutAt w0 wr o (bs ++ D ++ d) ∧ KeepsT w wr ∧ Blk wr b 49 #[.string nm, .int .i64 kd, .int .i64 pa, .int .i64 de, .bool false, .slice A1 n1 c1, .slice A2 n2 c2, .slice A3 n3 c3, .slice A4 n4 c4, .slice A5 n5 c5, .slice A6 n6 c6] ∧ Blk wr bl 45 #[.slice A1 n1 c1, .slice A2 n2 c2, .slice A3 n3 c3, .slice A4 n4 c4]) (fun i _ => 4 - (intOf i).toNat)
  case atStart => exact ⟨0, [], by omega, rfl, rfl, by rw [List.append_nil]; exact HO6.out, HK6.out, HB6.out, HS6.out⟩
  case round =>
    clear HO6 HK6 HB6 HS6
    obtain ⟨k, d, hk, rfl, hd, hO, hK, hB, hS⟩ := hrel
    have HO := Lib.hid hO
    have HK := Lib.hid hK
    have HB := Lib.hid hB
    have HS := Lib.hid hS
    have HD := Lib.hid hd
    have hdl := seqE_len listE_len hd
    rw [List.length_take] at hdl
    have hdl2 : min k [lo, ce, fr, na].length * 300000000 ≤ 4 * 300000000 := Nat.mul_le_mul_right _ (by omega)
    replace hdl : d.length ≤ 1200000000 := by omega
    clear hdl2
    by_cases hlt : k < 4
    · obtain ⟨A, n, c, l, hx, hc, hR⟩ : ∃ A n c l, [lo, ce, fr, na][k]? = some l ∧ wr.cell? ⟨bl, k, none⟩ = some (.slice A n c) ∧ RdS w0 A n c l := by
        rcases (show k = 0 ∨ k = 1 ∨ k = 2 ∨ k = 3 by omega) with rfl | rfl | rfl | rfl
        · exact ⟨A1, n1, c1, lo, rfl, hS.cell 0, H1.out⟩
        · exact ⟨A2, n2, c2, ce, rfl, hS.cell 1, H2.out⟩
        · exact ⟨A3, n3, c3, fr, rfl, hS.cell 2, H3.out⟩
        · exact ⟨A4, n4, c4, na, rfl, hS.cell 3, H4.out⟩
      obtain ⟨htk, hsp⟩ := take_snoc hx
      have HTK := Lib.hid htk
      have HSP := Lib.hid hsp
      have HR := Lib.hid hR
      have hbs := hS.lt
      clear hO hK hB hS hd hx hR htk hsp
      go_wp2_with fail
      refine (list_any HO.out (by simp only [List.length_append]; omega) A n c l HR.out).mono ?_
      rintro e w3 ⟨hK3, hb3, hr3⟩
      cases hx3 : listE l with
      | error y =>
        rw [hx3] at hr3
        obtain rfl := hr3
        refine ⟨rfl, HK.out.trans hK3, hb3, ?_⟩
        rw [todo_err HT5.out (show seqE listE [lo, ce, fr, na] = .error y by rw [HSP.out, seqE_stop HD.out hx3])]
      | ok cs =>
        rw [hx3] at hr3
        obtain ⟨rfl, hO3⟩ := hr3
        have HO3 := Lib.hid hO3
        have HK3 := Lib.hid (HK.out.trans hK3)
        have HB3 := Lib.hid (hK3.2 _ _ _ HB.out (by decide) (by decide))
        have HS3 := Lib.hid (hK3.2 _ _ _ HS.out (by decide) (by decide))
        have HD3 := Lib.hid (show seqE listE ([lo, ce, fr, na].take (k + 1)) = .ok (d ++ cs) by rw [HTK.out]; exact seqE_snoc_ok HD.out hx3)
        clear hO3 hK3 hb3 hx3 hc
        go_wp2
        go_roundw
        case rel => exact ⟨k + 1, d ++ cs, by omega, by go_num, HD3.out, by rw [← List.append_assoc]; exact HO3.out, HK3.out, HB3.out, HS3.out⟩
        case measure => simp [intOf]; omega
    · obtain rfl : k = 4 := by omega
      have hd4 : seqE listE [lo, ce, fr, na] = .ok d := hd
      have HT6 := Lib.hid (todo_ok HT5.out hd4)
      rw [List.append_assoc] at HO
      have hDl2 : (D ++ d).length ≤ 1300000000 := by rw [List.length_append]; omega
      clear HT5 hd4 HD HS hS hd hO hK hB
      generalize D ++ d = D2 at *
      have hbl := HB.out.lt
      have q9 : wr.cell? ⟨b, 9, none⟩ = some (.slice A5 n5 c5) := HB.out.cell 9
      obtain ⟨wo, rfl⟩ : ∃ wo, wo = wr := ⟨_, rfl⟩
      go_wp2_with fail
      refine (count_any HO.out (by simp only [List.length_append]; omega) _ _).mono ?_
      rintro e w7 ⟨hK7, hb7, hr7⟩
      cases hx7 : countE n5 4096 with
      | error y =>
        rw [hx7] at hr7
        obtain rfl := hr7
        refine ⟨rfl, HK.out.trans hK7, hb7, ?_⟩
        rw [todo_err HT6.out hx7]
      | ok s7 =>
        rw [hx7] at hr7
        obtain ⟨rfl, hO7⟩ := hr7
        have HO7 := Lib.hid hO7
        have HK7 := Lib.hid (HK.out.trans hK7)
        have HB7 := Lib.hid (hK7.2 _ _ _ HB.out (by decide) (by decide))
        have HT7 := Lib.hid (todo_ok HT6.out hx7)
        have hs7 := countE_len hx7
        rw [List.append_assoc] at HO7
        have hDl3 : (D2 ++ s7).length ≤ 1300000005 := by rw [List.length_append]; omega
        clear HO HK HB HT6 hO7 hK7 hb7 hx7 q9 hbl
        generalize D2 ++ s7 = D3 at *
        have hbl := HB7.out.lt
        have q9 : w7.cell? ⟨b, 9, none⟩ = some (.slice A5 n5 c5) := HB7.out.cell 9
        go_wp2_with fail
        have hn5 : n5 ≤ 4096 := by have := hs7.2; omega
        clear q9 hbl hDl2
        go_loopw [65] (fun i wr => ∃ (k : Nat) (d : List UInt8), k ≤ n5 ∧ i = .int .i64 k ∧ seqE valE (co.take k) = .ok d ∧ OutAt w0 wr o (bs ++ D3 ++ d) ∧ KeepsT w wr ∧ Blk wr b 49 #[.string nm, .int .i64 kd, .int .i64 pa, .int .i64 de, .bool false, .slice A1 n1 c1, .slice A2 n2 c2, .slice A3 n3 c3, .slice A4 n4 c4, .slice A5 n5 c5, .slice A6 n6 c6]) (fun i _ => n5 - (intOf i).toNat)
        case atStart => exact ⟨0, [], by omega, rfl, rfl, by rw [List.append_nil]; exact HO7.out, HK7.out, HB7.out⟩
        case round =>
          clear HO7 HK7 HB7
          obtain ⟨k, d, hk, rfl, hd, hO, hK, hB⟩ := hrel
          have HO := Lib.hid hO
          have HK := Lib.hid hK
          have HB := Lib.hid hB
          have HD := Lib.hid hd
          have hdl := seqE_len valE_len hd
          rw [List.length_take] at hdl
          have hdl2 : min k co.length * 65542 ≤ 4096 * 65542 := Nat.mul_le_mul_right _ (by have := hs7.2; omega)
          replace hdl : d.length ≤ 270000000 := by omega
          clear hdl2
          by_cases hlt : k < n5
          · obtain ⟨v, hx⟩ : ∃ v, co[k]? = some v := ⟨_, List.getElem?_eq_getElem (by rw [H5.out.1]; exact hlt)⟩
            obtain ⟨be, oe, rfl, hbe, hce⟩ := (H5.out.new HO.out.bel).at_ (f := valCs) (m := 3) (fun _ => rfl) hx
            obtain ⟨htk, hsp⟩ := take_snoc hx
            have HTK := Lib.hid htk
            have HSP := Lib.hid hsp
            obtain ⟨vk, vn, vs⟩ := v
            have e0 : wr.cell? ⟨be, oe + k * 3, none⟩ = some (.int .i64 vk) := hce 0 _ rfl
            have e1 : wr.cell? ⟨be, oe + k * 3 + 1, none⟩ = some (.int .i64 vn) := hce 1 _ rfl
            have e2 : wr.cell? ⟨be, oe + k * 3 + 2, none⟩ = some (.string vs) := hce 2 _ rfl
            clear hO hK hB hd hx htk hsp hce hs7
            go_wp2_with fail
            have hb8 : Below wr.heap.size wr (wr.alloc (.cells #[.int .i64 vk, .int .i64 vn, .string vs] 77)) := (by repeat (first | exact Below.refl _ _ | assumption | refine Below.setCell ?_ (by first | (simp; done) | (simp; omega) | omega) _ | refine below_drewN ?_ _ | refine Below.drew ?_ | refine Below.alloc ?_ (by first | (simp; done) | (simp; omega) | omega) _))
            refine (const_any (HO.out.new hb8) (by simp only [List.length_append] at hDl3 ⊢; omega) ⟨vk, vn, vs⟩).mono ?_
            rintro e w3 ⟨hK3, hb3, hr3⟩
            have hK3 := (KeepsT.new hb8).trans hK3
            cases hx3 : valE ⟨vk, vn, vs⟩ with
            | error y =>
              rw [hx3] at hr3
              obtain rfl := hr3
              refine ⟨rfl, HK.out.trans hK3, hb3, ?_⟩
              rw [todo_err HT7.out (show seqE valE co = .error y by rw [HSP.out, seqE_stop HD.out hx3])]
            | ok cs =>
              rw [hx3] at hr3
              obtain ⟨rfl, hO3⟩ := hr3
              have HO3 := Lib.hid hO3
              have HK3 := Lib.hid (HK.out.trans hK3)
              have HB3 := Lib.hid (hK3.2 _ _ _ HB.out (by decide) (by decide))
              have HD3 := Lib.hid (show seqE valE (co.take (k + 1)) = .ok (d ++ cs) by rw [HTK.out]; exact seqE_snoc_ok HD.out hx3)
              clear hO3 hK3 hb3 hx3 e0 e1 e2 hb8
              go_wp2
              go_roundw
              case rel => exact ⟨k + 1, d ++ cs, by omega, by go_num, HD3.out, by rw [← List.append_assoc]; exact HO3.out, HK3.out, HB3.out⟩
              case measure => simp [intOf]; omega
          · obtain rfl : k = n5 := by omega
            have hd4 : seqE valE co = .ok d := by
              rw [List.take_of_length_le (by rw [H5.out.1]; omega)] at hd
              exact hd
            have HT8 := Lib.hid (todo_ok HT7.out hd4)
            rw [List.append_assoc] at HO
            have hDl2 : (D3 ++ d).length ≤ 1600000000 := by rw [List.length_append]; omega
            clear HT7 hd4 HD hd hO hK hB hs7
            generalize D3 ++ d = D4 at *
            have hbl := HB.out.lt
            have q10 : wr.cell? ⟨b, 10, none⟩ = some (.slice A6 n6 c6) := HB.out.cell 10
            obtain ⟨wp, rfl⟩ : ∃ wp, wp = wr := ⟨_, rfl⟩
            go_wp2_with fail
            refine (count_any HO.out (by simp only [List.length_append]; omega) _ _).mono ?_
            rintro e w8 ⟨hK8, hb8, hr8⟩
            cases hx8 : countE n6 65536 with
            | error y =>
              rw [hx8] at hr8
              obtain rfl := hr8
              refine ⟨rfl, HK.out.trans hK8, hb8, ?_⟩
              rw [todo_err HT8.out hx8]
            | ok s8 =>
              rw [hx8] at hr8
              obtain ⟨rfl, hO8⟩ := hr8
              have HO8 := Lib.hid hO8
              have HK8 := Lib.hid (HK.out.trans hK8)
              have HB8 := Lib.hid (hK8.2 _ _ _ HB.out (by decide) (by decide))
              have HT9 := Lib.hid (todo_ok HT8.out hx8)
              have hs8 := countE_len hx8
              rw [List.append_assoc] at HO8
              have hDl5 : (D4 ++ s8).length ≤ 1600000005 := by rw [List.length_append]; omega
              clear HO HK HB HT8 hO8 hK8 hb8 hx8 q10 hbl
              generalize D4 ++ s8 = D5 at *
              have hbl := HB8.out.lt
              have q10 : w8.cell? ⟨b, 10, none⟩ = some (.slice A6 n6 c6) := HB8.out.cell 10
              go_wp2_with fail
              have hn6 : n6 ≤ 65536 := by have := hs8.2; omega
              clear q10 hbl hDl2
              go_loopw [81] (fun i wr => ∃ (k : Nat) (d : List UInt8), k ≤ n6 ∧ i = .int .i64 k ∧ seqE insE (is.take k) = .ok d ∧ OutAt w0 wr o (bs ++ D5 ++ d) ∧ KeepsT w wr) (fun i _ => n6 - (intOf i).toNat)
              case atStart => exact ⟨0, [], by omega, rfl, rfl, by rw [List.append_nil]; exact HO8.out, HK8.out⟩
              case round =>
                clear HO8 HK8 HB8
                obtain ⟨k, d, hk, rfl, hd, hO, hK⟩ := hrel
                have HO := Lib.hid hO
                have HK := Lib.hid hK
                have HD := Lib.hid hd
                have hdl := seqE_len insE_len hd
                rw [List.length_take] at hdl
                have hdl2 : min k is.length * 6 ≤ 65536 * 6 := Nat.mul_le_mul_right _ (by have := hs8.2; omega)
                replace hdl : d.length ≤ 400000 := by omega
                clear hdl2
                by_cases hlt : k < n6
                · obtain ⟨v, hx⟩ : ∃ v, is[k]? = some v := ⟨_, List.getElem?_eq_getElem (by rw [H6.out.1]; exact hlt)⟩
                  obtain ⟨be, oe, rfl, hbe, hce⟩ := (H6.out.new HO.out.bel).at_ (f := insCs) (m := 2) (fun _ => rfl) hx
                  obtain ⟨htk, hsp⟩ := take_snoc hx
                  have HTK := Lib.hid htk
                  have HSP := Lib.hid hsp
                  obtain ⟨vo, va⟩ := v
                  have e0 : wr.cell? ⟨be, oe + k * 2, none⟩ = some (.int .i64 vo) := hce 0 _ rfl
                  have e1 : wr.cell? ⟨be, oe + k * 2 + 1, none⟩ = some (.int .i64 va) := hce 1 _ rfl
                  clear hO hK hd hx htk hsp hce hs8
                  have hb9 : Below wr.heap.size wr (wr.alloc (.cells #[.int .i64 vo, .int .i64 va] 64)) := (by repeat (first | exact Below.refl _ _ | assumption | refine Below.setCell ?_ (by first | (simp; done) | (simp; omega) | omega) _ | refine below_drewN ?_ _ | refine Below.drew ?_ | refine Below.alloc ?_ (by first | (simp; done) | (simp; omega) | omega) _))
                  by_cases hin : 1 ≤ vo ∧ vo < 57
                  · have hd1 : decide ((1 : Int) ≤ vo) = true := decide_eq_true hin.1
                    have hd2 : decide (vo < 57) = true := decide_eq_true hin.2
                    go_wp2_with fail
                    refine (need_yes 1 _).mono ?_
                    rintro e w1 ⟨rfl, rfl⟩
                    clear e0 e1 hd1 hd2
                    have HO2 := Lib.hid (HO.out.new hb9)
                    have HK2 := Lib.hid (HK.out.trans (KeepsT.new hb9))
                    have HX := Lib.hid (Blk.new wr 64 #[.int .i64 vo, .int .i64 va])
                    clear HO HK hb9 hbe
                    generalize wr.alloc (.cells #[.int .i64 vo, .int .i64 va] 64) = W at *
                    generalize wr.heap.size = bx at *
                    have hLl : (bs ++ D5 ++ d).length ≤ bs.length + 1700000000 := by simp only [List.length_append] at hDl5 ⊢; omega
                    generalize hL : bs ++ D5 ++ d = L at *
                    have HL := Lib.hid hL
                    clear hL
                    obtain ⟨v, hb1, hb2⟩ := HO2.out.row
                    obtain ⟨A', c', rfl, -, -⟩ := Own.rd (row_own hb2)
                    have hbz2 := HO2.out.bel.size
                    have q0 := hb1.cell 0
                    have q1 := HX.out.cell 0
                    simp only [List.getElem?_toArray, List.getElem?_cons_zero, List.getElem?_cons_succ] at q0 q1
                    have hlo := hb1.lt
                    have hlx := HX.out.lt
                    have hy : IntKind.u8.wrap vo = ((byteI vo).toNat : Int) := (byteI_toNat vo).symm ▸ rfl
                    have hie : insE (vo, va) = andE (.ok [byteI vo]) (numE va) := if_pos hin
                    have hin1 := hin.1
                    have hin2 := hin.2
                    clear hin
                    generalize byteI vo = y at *
                    have HIE := Lib.hid hie
                    clear hie
                    go_wp2_with fail
                    go_region_law (refine step_append_row rfl (.tmp 98) (.tmp 102) 30 rfl w0.heap.size 5 i0 _ 1 1 Tryd.underlying30 HI.out.1 HI.out.2.1 HI.out.2.2.1 HI.out.2.2.2 rfl (by decide) (.slice A' L.length c') L.length (bcs L) rfl (by exact row_new hb2 (by repeat (first | exact Below.refl _ _ | assumption | refine Below.setCell ?_ (by first | (simp; done) | (simp; omega) | omega) _ | refine below_drewN ?_ _ | refine Below.drew ?_ | refine Below.alloc ?_ (by first | (simp; done) | (simp; omega) | omega) _))) ⟨W.heap.size, 0, none⟩ 1 1 (bcs [y]) rfl rfl (by exact one_at W y) (bcs_oneCell _) (by simp only [maxLen]; omega) (by omega) (by simp; omega) ?_; intro v6 w6 ho6 hg6 _; obtain ⟨A7, c7, rfl, -, -⟩ := Own.rd (row_own ho6); obtain ⟨p6, f6, l6, hO6, hK6⟩ := OutAt.push (cs := [y]) hb1 hb2 HO2.out.bel HO2.out.base (by repeat (first | exact Below.refl _ _ | assumption | refine Below.setCell ?_ (by first | (simp; done) | (simp; omega) | omega) _ | refine below_drewN ?_ _ | refine Below.drew ?_ | refine Below.alloc ?_ (by first | (simp; done) | (simp; omega) | omega) _)) ho6 hg6; have kb6 := hK6.2 _ _ _ HX.out (by decide) (by decide); have HO6 := Lib.hid hO6; have HX6 := Lib.hid kb6; have HK6 := Lib.hid (HK2.out.trans hK6); clear ho6 hg6 hO6 hK6 kb6)
                    all_goals
                      have q2 := HX6.out.cell 1
                      simp only [List.getElem?_toArray, List.getElem?_cons_zero, List.getElem?_cons_succ] at q2
                      have hlx6 := HX6.out.lt
                      clear hy q0 q1 p6 f6 l6
                      go_wp2_with fail
                      refine (number_any HO6.out (by rw [List.length_append, List.length_cons, List.length_nil]; omega) va).mono ?_
                      rintro e w9 ⟨hK9, hb9, hr9⟩
                      cases hx9 : numE va with
                      | error z =>
                        rw [hx9] at hr9
                        obtain rfl := hr9
                        refine ⟨rfl, HK6.out.trans hK9, hb9, ?_⟩
                        rw [todo_stop HT9.out (show seqE insE is = .error z by rw [HSP.out, seqE_stop HD.out (show insE (vo, va) = .error z by rw [HIE.out, hx9]; rfl)])]
                      | ok cs =>
                        rw [hx9] at hr9
                        obtain ⟨rfl, hO9⟩ := hr9
                        have HO9 := Lib.hid hO9
                        have HK9 := Lib.hid (HK6.out.trans hK9)
                        have HD9 := Lib.hid (show seqE insE (is.take (k + 1)) = .ok (d ++ ([y] ++ cs)) by rw [HTK.out]; exact seqE_snoc_ok HD.out (show insE (vo, va) = .ok ([y] ++ cs) by rw [HIE.out, hx9]; rfl))
                        clear hO9 hK9 hb9 hx9 q2 hlx6
                        go_wp2
                        go_roundw
                        case rel => exact ⟨k + 1, d ++ ([y] ++ cs), by omega, by go_num, HD9.out, by rw [← List.append_assoc, ← List.append_assoc, HL.out]; exact HO9.out, HK9.out⟩
                        case measure => simp [intOf]; omega
                  · have hins : insE (vo, va) = .error 1 := if_neg hin
                    have HE := Lib.hid (todo_stop HT9.out (show seqE insE is = .error 1 by rw [HSP.out, seqE_stop HD.out hins]))
                    rcases (show vo < 1 ∨ (1 ≤ vo ∧ 57 ≤ vo) by omega) with h0 | ⟨h0, h1⟩
                    · have hd1 : decide ((1 : Int) ≤ vo) = false := decide_eq_false (by omega)
                      clear hins
                      go_wp2_with fail
                      refine (need_no 1 _).mono ?_
                      rintro e w1 ⟨rfl, rfl⟩
                      refine ⟨rfl, HK.out.trans (KeepsT.new hb9), (HO.out.new hb9).bel, ?_⟩
                      rw [HE.out]
                    · have hd1 : decide ((1 : Int) ≤ vo) = true := decide_eq_true h0
                      have hd2 : decide (vo < 57) = false := decide_eq_false (by omega)
                      clear hins
                      go_wp2_with fail
                      refine (need_no 1 _).mono ?_
                      rintro e w1 ⟨rfl, rfl⟩
                      refine ⟨rfl, HK.out.trans (KeepsT.new hb9), (HO.out.new hb9).bel, ?_⟩
                      rw [HE.out]
                · obtain rfl : k = n6 := by omega
                  have hd4 : seqE insE is = .ok d := by
                    rw [List.take_of_length_le (by rw [H6.out.1]; omega)] at hd
                    exact hd
                  have HE := Lib.hid (todo_end HT9.out hd4)
                  clear hO hK hd hd4 HD hs8
                  go_wp2
                  go_end0
                  refine ⟨HK.out, HO.out.bel, ?_⟩
                  rw [HE.out]
                  refine ⟨rfl, ?_⟩
                  rw [← List.append_assoc]
                  exact HO.out

set_option maxRecDepth 100000 in
set_option maxHeartbeats 2000000 in
theorem code_true {w0 w : World} {o : Nat} {bs : List UInt8} (h : OutAt w0 w o bs) (hl : bs.length + 2000000000 ≤ 100000000000000) (c : CodeD) (hg : c.gen = true)
    {A1 A2 A3 A4 A5 A6 : Option Addr} {n1 c1 n2 c2 n3 c3 n4 c4 n5 c5 n6 c6 : Nat} (h1 : RdS w0 A1 n1 c1 c.locals) (h2 : RdS w0 A2 n2 c2 c.cells) (h3 : RdS w0 A3 n3 c3 c.free) (h4 : RdS w0 A4 n4 c4 c.names)
    (h5 : RdF valCs 3 w0 A5 n5 c5 c.consts) (h6 : RdF insCs 2 w0 A6 n6 c6 c.ins) :
    Calls Tryd.prog 25 #[.pointer (some ⟨o, 0, none⟩), .agg #[.string c.name, .int .i64 c.kind, .int .i64 c.params, .int .i64 c.defaults, .bool true, .slice A1 n1 c1, .slice A2 n2 c2, .slice A3 n3 c3, .slice A4 n4 c4, .slice A5 n5 c5, .slice A6 n6 c6]] w (Wrote w0 w o bs (codeE c)) := by
  obtain ⟨i0, hi, hz0, hz1, hz2⟩ := info_parts info_B
  have HI := Lib.hid (And.intro hi (And.intro hz0 (And.intro hz1 hz2)))
  clear hi hz0 hz1 hz2
  have ht := codeE_todo c
  generalize codeE c = R at *
  obtain ⟨nm, kd, pa, de, ge, lo, ce, fr, na, co, is⟩ := c
  obtain rfl : ge = true := hg
  simp only at ht h1 h2 h3 h4 h5 h6 ⊢
  have hb0 : Below w.heap.size w (w.alloc (.cells #[.string nm, .int .i64 kd, .int .i64 pa, .int .i64 de, .bool true, .slice A1 n1 c1, .slice A2 n2 c2, .slice A3 n3 c3, .slice A4 n4 c4, .slice A5 n5 c5, .slice A6 n6 c6] 49)) := (by repeat (first | exact Below.refl _ _ | assumption | refine Below.setCell ?_ (by first | (simp; done) | (simp; omega) | omega) _ | refine below_drewN ?_ _ | refine Below.drew ?_ | refine Below.alloc ?_ (by first | (simp; done) | (simp; omega) | omega) _))
  have HO0 := Lib.hid (h.new hb0)
  have HK0 := Lib.hid (KeepsT.new hb0)
  have HB0 := Lib.hid (Blk.new w 49 #[.string nm, .int .i64 kd, .int .i64 pa, .int .i64 de, .bool true, .slice A1 n1 c1, .slice A2 n2 c2, .slice A3 n3 c3, .slice A4 n4 c4, .slice A5 n5 c5, .slice A6 n6 c6])
  have H1 := Lib.hid h1
  have H2 := Lib.hid h2
  have H3 := Lib.hid h3
  have H4 := Lib.hid h4
  have H5 := Lib.hid h5
  have H6 := Lib.hid h6
  rw [h5.1, h6.1] at ht
  have HT0 := Lib.hid ht
  clear h h1 h2 h3 h4 h5 h6 ht hb0
  go_enter Tryd.func25, Tryd.ntmps25
  go_wp2_with fail
  generalize w.alloc (.cells #[.string nm, .int .i64 kd, .int .i64 pa, .int .i64 de, .bool true, .slice A1 n1 c1, .slice A2 n2 c2, .slice A3 n3 c3, .slice A4 n4 c4, .slice A5 n5 c5, .slice A6 n6 c6] 49) = W1 at *
  generalize w.heap.size = b at *
  refine (text_any HO0.out (by omega) nm).mono ?_
  rintro e W2 ⟨hK, hb, hr⟩
  cases hx : textE nm with
  | error y =>
    rw [hx] at hr
    obtain rfl := hr
    exact ⟨rfl, HK0.out.trans hK, hb, by rw [todo_err HT0.out hx]⟩
  | ok a1 =>
  rw [hx] at hr
  obtain ⟨rfl, hO⟩ := hr
  have hl1 := textE_len _ _ hx
  have HO1 := Lib.hid hO
  have HK1 := Lib.hid (HK0.out.trans hK)
  have HB1 := Lib.hid (hK.2 _ _ _ HB0.out (by decide) (by decide))
  have HT1 := Lib.hid (todo_ok HT0.out hx)
  clear HO0 HK0 HB0 HT0 hO hK hb hx
  have hbl := HB1.out.lt
  have q1 : W2.cell? ⟨b, 1, none⟩ = some (.int .i64 kd) := HB1.out.cell 1
  go_wp2_with fail
  clear q1 hbl
  refine (number_any HO1.out (by simp only [List.length_append]; omega) kd).mono ?_
  rintro e W3 ⟨hK, hb, hr⟩
  cases hx : numE kd with
  | error y =>
    rw [hx] at hr
    obtain rfl := hr
    exact ⟨rfl, HK1.out.trans hK, hb, by rw [todo_err HT1.out hx]⟩
  | ok a2 =>
  rw [hx] at hr
  obtain ⟨rfl, hO⟩ := hr
  have hl2 := numE_len hx
  have HO2 := Lib.hid hO
  have HK2 := Lib.hid (HK1.out.trans hK)
  have HB2 := Lib.hid (hK.2 _ _ _ HB1.out (by decide) (by decide))
  have HT2 := Lib.hid (todo_ok HT1.out hx)
  clear HO1 HK1 HB1 HT1 hO hK hb hx
  have hbl := HB2.out.lt
  have q2 : W3.cell? ⟨b, 2, none⟩ = some (.int .i64 pa) := HB2.out.cell 2
  go_wp2_with fail
  clear q2 hbl
  refine (number_any HO2.out (by simp only [List.length_append]; omega) pa).mono ?_
  rintro e W4 ⟨hK, hb, hr⟩
  cases hx : numE pa with
  | error y =>
    rw [hx] at hr
    obtain rfl := hr
    exact ⟨rfl, HK2.out.trans hK, hb, by rw [todo_err HT2.out hx]⟩
  | ok a3 =>
  rw [hx] at hr
  obtain ⟨rfl, hO⟩ := hr
  have hl3 := numE_len hx
  have HO3 := Lib.hid hO
  have HK3 := Lib.hid (HK2.out.trans hK)
  have HB3 := Lib.hid (hK.2 _ _ _ HB2.out (by decide) (by decide))
  have HT3 := Lib.hid (todo_ok HT2.out hx)
  clear HO2 HK2 HB2 HT2 hO hK hb hx
  have hbl := HB3.out.lt
  have q3 : W4.cell? ⟨b, 3, none⟩ = some (.int .i64 de) := HB3.out.cell 3
  go_wp2_with fail
  clear q3 hbl
  refine (number_any HO3.out (by simp only [List.length_append]; omega) de).mono ?_
  rintro e W5 ⟨hK, hb, hr⟩
  cases hx : numE de with
  | error y =>
    rw [hx] at hr
    obtain rfl := hr
    exact ⟨rfl, HK3.out.trans hK, hb, by rw [todo_err HT3.out hx]⟩
  | ok a4 =>
  rw [hx] at hr
  obtain ⟨rfl, hO⟩ := hr
  have hl4 := numE_len hx
  have HO4 := Lib.hid hO
  have HK4 := Lib.hid (HK3.out.trans hK)
  have HB4 := Lib.hid (hK.2 _ _ _ HB3.out (by decide) (by decide))
  have HT4 := Lib.hid (todo_ok HT3.out hx)
  clear HO3 HK3 HB3 HT3 hO hK hb hx
  have hbl := HB4.out.lt
  have q4 : W5.cell? ⟨b, 4, none⟩ = some (.bool true) := HB4.out.cell 4
  clear q4 hbl
  have q4 : W5.cell? ⟨b, 4, none⟩ = some (.bool true) := HB4.out.cell 4
  obtain ⟨v, hb1, hb2⟩ := HO4.out.row
  obtain ⟨A, cc, rfl, -, -⟩ := Own.rd (row_own hb2)
  have hbz := HO4.out.bel.size
  have hbl := HB4.out.lt
  have q0 := hb1.cell 0
  simp only [List.getElem?_toArray, List.getElem?_cons_zero] at q0
  have hlo := hb1.lt
  have hLL : (bs ++ a1 ++ a2 ++ a3 ++ a4).length ≤ bs.length + 66000 := by simp only [List.length_append]; omega
  generalize hL : bs ++ a1 ++ a2 ++ a3 ++ a4 = L at *
  have HL := Lib.hid hL
  clear hL
  go_wp2_with (at_builtin; refine wpList_append_own _ rfl (.tmp 33) (.tmp 35) 30 rfl w0.heap.size 5 i0 _ 1 1 Tryd.underlying30 HI.out.1 HI.out.2.1 HI.out.2.2.1 HI.out.2.2.2 rfl (by decide) (.slice A L.length cc) L.length (bcs L) rfl (by exact row_new hb2 (by repeat (first | exact Below.refl _ _ | assumption | refine Below.setCell ?_ (by first | (simp; done) | (simp; omega) | omega) _ | refine below_drewN ?_ _ | refine Below.drew ?_ | refine Below.alloc ?_ (by first | (simp; done) | (simp; omega) | omega) _))) ⟨W5.heap.size, 0, none⟩ 1 1 (bcs [1]) rfl rfl (by exact one_at W5 1) (bcs_oneCell _) (by simp only [maxLen]; omega) (by omega) (by simp; omega) ?_; intro v6 w6 ho6 hg6 _; obtain ⟨A6', c6', rfl, -, -⟩ := Own.rd (row_own ho6); obtain ⟨p6, f6, l6, hO6, hK6⟩ := OutAt.push (cs := [1]) hb1 hb2 HO4.out.bel HO4.out.base (by repeat (first | exact Below.refl _ _ | assumption | refine Below.setCell ?_ (by first | (simp; done) | (simp; omega) | omega) _ | refine below_drewN ?_ _ | refine Below.drew ?_ | refine Below.alloc ?_ (by first | (simp; done) | (simp; omega) | omega) _)) ho6 hg6; have HO5 := Lib.hid hO6; have HK5 := Lib.hid (HK4.out.trans hK6); have HB5 := Lib.hid (hK6.2 _ _ _ HB4.out (by decide) (by decide)); have q5 := HB5.out.cell 5; have q6 := HB5.out.cell 6; have q7 := HB5.out.cell 7; have q8 := HB5.out.cell 8; simp only [List.getElem?_toArray, List.getElem?_cons_zero, List.getElem?_cons_succ] at q5 q6 q7 q8; have l5 := HB5.out.lt; clear ho6 hg6 hO6 hK6)

  have HT5 := Lib.hid (todo_ok HT4.out (b := [1]) rfl)
  have hLD : L ++ [1] = bs ++ ([] ++ a1 ++ a2 ++ a3 ++ a4 ++ [1]) := by rw [← HL.out]; simp only [List.nil_append, List.append_assoc]
  have hDl : ([] ++ a1 ++ a2 ++ a3 ++ a4 ++ [1]).length ≤ 66000 := by simp only [List.length_append, List.length_nil, List.length_cons]; omega
  rw [hLD] at HO5
  clear hLD HL hLL hl1 hl2 hl3 hl4 q0 q4 q5 q6 q7 q8 p6 f6 l6 hb1 hb2 HO4 HB4 HK4 HT4 hbz hbl hlo l5
  generalize [] ++ a1 ++ a2 ++ a3 ++ a4 ++ [1] = D at *
  have hz6 : ∀ u, (w6.setCell ⟨o, 0, none⟩ u).heap.size = w6.heap.size := fun u => by simp [World.setCell]
  replace hz6 := hz6 (.slice A6' (L.length + 1) c6')
  generalize w6.setCell ⟨o, 0, none⟩ _ = W6 at *
  have hb7 : Below W6.heap.size W6 (W6.alloc (.cells #[.slice A1 n1 c1, .slice A2 n2 c2, .slice A3 n3 c3, .slice A4 n4 c4] 45)) := (by repeat (first | exact Below.refl _ _ | assumption | refine Below.setCell ?_ (by first | (simp; done) | (simp; omega) | omega) _ | refine below_drewN ?_ _ | refine Below.drew ?_ | refine Below.alloc ?_ (by first | (simp; done) | (simp; omega) | omega) _))
  have HO6 := Lib.hid (HO5.out.new hb7)
  have HK6 := Lib.hid (HK5.out.trans (KeepsT.new hb7))
  have HB6 := Lib.hid (HB5.out.new' hb7)
  have hs6 := Blk.new W6 45 #[.slice A1 n1 c1, .slice A2 n2 c2, .slice A3 n3 c3, .slice A4 n4 c4]
  rw [hz6] at hs6
  have HS6 := Lib.hid hs6
  clear HO5 HK5 HB5 hb7 hs6 hz6
  generalize W6.alloc (.cells #[.slice A1 n1 c1, .slice A2 n2 c2, .slice A3 n3 c3, .slice A4 n4 c4] 45) = W7 at *
  generalize w6.heap.size = bl at *
  go_loopw [49] (fun i wr => ∃ (k : Nat) (d : List UInt8), k ≤ 4 ∧ i = .int .i64 k ∧ seqE listE ([lo, ce, fr, na].take k) = .ok d ∧ OutAt w0 wr o (bs ++ D ++ d) ∧ KeepsT w wr ∧ Blk wr b 49 #[.string nm, .int .i64 kd, .int .i64 pa, .int .i64 de, .bool true, .slice A1 n1 c1, .slice A2 n2 c2, .slice A3 n3 c3, .slice A4 n4 c4, .slice A5 n5 c5, .slice A6 n6 c6] ∧ Blk wr bl 45 #[.slice A1 n1 c1, .slice A2 n2 c2, .slice A3 n3 c3, .slice A4 n4 c4]) (fun i _ => 4 - (intOf i).toNat)
  case atStart => exact ⟨0, [], by omega, rfl, rfl, by rw [List.append_nil]; exact HO6.out, HK6.out, HB6.out, HS6.out⟩
  case round =>
    clear HO6 HK6 HB6 HS6
    obtain ⟨k, d, hk, rfl, hd, hO, hK, hB, hS⟩ := hrel
    have HO := Lib.hid hO
    have HK := Lib.hid hK
    have HB := Lib.hid hB
    have HS := Lib.hid hS
    have HD := Lib.hid hd
    have hdl := seqE_len listE_len hd
    rw [List.length_take] at hdl
    have hdl2 : min k [lo, ce, fr, na].length * 300000000 ≤ 4 * 300000000 := Nat.mul_le_mul_right _ (by omega)
    replace hdl : d.length ≤ 1200000000 := by omega
    clear hdl2
    by_cases hlt : k < 4
    · obtain ⟨A, n, c, l, hx, hc, hR⟩ : ∃ A n c l, [lo, ce, fr, na][k]? = some l ∧ wr.cell? ⟨bl, k, none⟩ = some (.slice A n c) ∧ RdS w0 A n c l := by
        rcases (show k = 0 ∨ k = 1 ∨ k = 2 ∨ k = 3 by omega) with rfl | rfl | rfl | rfl
        · exact ⟨A1, n1, c1, lo, rfl, hS.cell 0, H1.out⟩
        · exact ⟨A2, n2, c2, ce, rfl, hS.cell 1, H2.out⟩
        · exact ⟨A3, n3, c3, fr, rfl, hS.cell 2, H3.out⟩
        · exact ⟨A4, n4, c4, na, rfl, hS.cell 3, H4.out⟩
      obtain ⟨htk, hsp⟩ := take_snoc hx
      have HTK := Lib.hid htk
      have HSP := Lib.hid hsp
      have HR := Lib.hid hR
      have hbs := hS.lt
      clear hO hK hB hS hd hx hR htk hsp
      go_wp2_with fail
      refine (list_any HO.out (by simp only [List.length_append]; omega) A n c l HR.out).mono ?_
      rintro e w3 ⟨hK3, hb3, hr3⟩
      cases hx3 : listE l with
      | error y =>
        rw [hx3] at hr3
        obtain rfl := hr3
        refine ⟨rfl, HK.out.trans hK3, hb3, ?_⟩
        rw [todo_err HT5.out (show seqE listE [lo, ce, fr, na] = .error y by rw [HSP.out, seqE_stop HD.out hx3])]
      | ok cs =>
        rw [hx3] at hr3
        obtain ⟨rfl, hO3⟩ := hr3
        have HO3 := Lib.hid hO3
        have HK3 := Lib.hid (HK.out.trans hK3)
        have HB3 := Lib.hid (hK3.2 _ _ _ HB.out (by decide) (by decide))
        have HS3 := Lib.hid (hK3.2 _ _ _ HS.out (by decide) (by decide))
        have HD3 := Lib.hid (show seqE listE ([lo, ce, fr, na].take (k + 1)) = .ok (d ++ cs) by rw [HTK.out]; exact seqE_snoc_ok HD.out hx3)
        clear hO3 hK3 hb3 hx3 hc
        go_wp2
        go_roundw
        case rel => exact ⟨k + 1, d ++ cs, by omega, by go_num, HD3.out, by rw [← List.append_assoc]; exact HO3.out, HK3.out, HB3.out, HS3.out⟩
        case measure => simp [intOf]; omega
    · obtain rfl : k = 4 := by omega
      have hd4 : seqE listE [lo, ce, fr, na] = .ok d := hd
      have HT6 := Lib.hid (todo_ok HT5.out hd4)
      rw [List.append_assoc] at HO
      have hDl2 : (D ++ d).length ≤ 1300000000 := by rw [List.length_append]; omega
      clear HT5 hd4 HD HS hS hd hO hK hB
      generalize D ++ d = D2 at *
      have hbl := HB.out.lt
      have q9 : wr.cell? ⟨b, 9, none⟩ = some (.slice A5 n5 c5) := HB.out.cell 9
      obtain ⟨wo, rfl⟩ : ∃ wo, wo = wr := ⟨_, rfl⟩
      go_wp2_with fail
      refine (count_any HO.out (by simp only [List.length_append]; omega) _ _).mono ?_
      rintro e w7 ⟨hK7, hb7, hr7⟩
      cases hx7 : countE n5 4096 with
      | error y =>
        rw [hx7] at hr7
        obtain rfl := hr7
        refine ⟨rfl, HK.out.trans hK7, hb7, ?_⟩
        rw [todo_err HT6.out hx7]
      | ok s7 =>
        rw [hx7] at hr7
        obtain ⟨rfl, hO7⟩ := hr7
        have HO7 := Lib.hid hO7
        have HK7 := Lib.hid (HK.out.trans hK7)
        have HB7 := Lib.hid (hK7.2 _ _ _ HB.out (by decide) (by decide))
        have HT7 := Lib.hid (todo_ok HT6.out hx7)
        have hs7 := countE_len hx7
        rw [List.append_assoc] at HO7
        have hDl3 : (D2 ++ s7).length ≤ 1300000005 := by rw [List.length_append]; omega
        clear HO HK HB HT6 hO7 hK7 hb7 hx7 q9 hbl
        generalize D2 ++ s7 = D3 at *
        have hbl := HB7.out.lt
        have q9 : w7.cell? ⟨b, 9, none⟩ = some (.slice A5 n5 c5) := HB7.out.cell 9
        go_wp2_with fail
        have hn5 : n5 ≤ 4096 := by have := hs7.2; omega
        clear q9 hbl hDl2
        go_loopw [65] (fun i wr => ∃ (k : Nat) (d : List UInt8), k ≤ n5 ∧ i = .int .i64 k ∧ seqE valE (co.take k) = .ok d ∧ OutAt w0 wr o (bs ++ D3 ++ d) ∧ KeepsT w wr ∧ Blk wr b 49 #[.string nm, .int .i64 kd, .int .i64 pa, .int .i64 de, .bool true, .slice A1 n1 c1, .slice A2 n2 c2, .slice A3 n3 c3, .slice A4 n4 c4, .slice A5 n5 c5, .slice A6 n6 c6]) (fun i _ => n5 - (intOf i).toNat)
        case atStart => exact ⟨0, [], by omega, rfl, rfl, by rw [List.append_nil]; exact HO7.out, HK7.out, HB7.out⟩
        case round =>
          clear HO7 HK7 HB7
          obtain ⟨k, d, hk, rfl, hd, hO, hK, hB⟩ := hrel
          have HO := Lib.hid hO
          have HK := Lib.hid hK
          have HB := Lib.hid hB
          have HD := Lib.hid hd
          have hdl := seqE_len valE_len hd
          rw [List.length_take] at hdl
          have hdl2 : min k co.length * 65542 ≤ 4096 * 65542 := Nat.mul_le_mul_right _ (by have := hs7.2; omega)
          replace hdl : d.length ≤ 270000000 := by omega
          clear hdl2
          by_cases hlt : k < n5
          · obtain ⟨v, hx⟩ : ∃ v, co[k]? = some v := ⟨_, List.getElem?_eq_getElem (by rw [H5.out.1]; exact hlt)⟩
            obtain ⟨be, oe, rfl, hbe, hce⟩ := (H5.out.new HO.out.bel).at_ (f := valCs) (m := 3) (fun _ => rfl) hx
            obtain ⟨htk, hsp⟩ := take_snoc hx
            have HTK := Lib.hid htk
            have HSP := Lib.hid hsp
            obtain ⟨vk, vn, vs⟩ := v
            have e0 : wr.cell? ⟨be, oe + k * 3, none⟩ = some (.int .i64 vk) := hce 0 _ rfl
            have e1 : wr.cell? ⟨be, oe + k * 3 + 1, none⟩ = some (.int .i64 vn) := hce 1 _ rfl
            have e2 : wr.cell? ⟨be, oe + k * 3 + 2, none⟩ = some (.string vs) := hce 2 _ rfl
            clear hO hK hB hd hx htk hsp hce hs7
            go_wp2_with fail
            have hb8 : Below wr.heap.size wr (wr.alloc (.cells #[.int .i64 vk, .int .i64 vn, .string vs] 77)) := (by repeat (first | exact Below.refl _ _ | assumption | refine Below.setCell ?_ (by first | (simp; done) | (simp; omega) | omega) _ | refine below_drewN ?_ _ | refine Below.drew ?_ | refine Below.alloc ?_ (by first | (simp; done) | (simp; omega) | omega) _))
            refine (const_any (HO.out.new hb8) (by simp only [List.length_append] at hDl3 ⊢; omega) ⟨vk, vn, vs⟩).mono ?_
            rintro e w3 ⟨hK3, hb3, hr3⟩
            have hK3 := (KeepsT.new hb8).trans hK3
            cases hx3 : valE ⟨vk, vn, vs⟩ with
            | error y =>
              rw [hx3] at hr3
              obtain rfl := hr3
              refine ⟨rfl, HK.out.trans hK3, hb3, ?_⟩
              rw [todo_err HT7.out (show seqE valE co = .error y by rw [HSP.out, seqE_stop HD.out hx3])]
            | ok cs =>
              rw [hx3] at hr3
              obtain ⟨rfl, hO3⟩ := hr3
              have HO3 := Lib.hid hO3
              have HK3 := Lib.hid (HK.out.trans hK3)
              have HB3 := Lib.hid (hK3.2 _ _ _ HB.out (by decide) (by decide))
              have HD3 := Lib.hid (show seqE valE (co.take (k + 1)) = .ok (d ++ cs) by rw [HTK.out]; exact seqE_snoc_ok HD.out hx3)
              clear hO3 hK3 hb3 hx3 e0 e1 e2 hb8
              go_wp2
              go_roundw
              case rel => exact ⟨k + 1, d ++ cs, by omega, by go_num, HD3.out, by rw [← List.append_assoc]; exact HO3.out, HK3.out, HB3.out⟩
              case measure => simp [intOf]; omega
          · obtain rfl : k = n5 := by omega
            have hd4 : seqE valE co = .ok d := by
              rw [List.take_of_length_le (by rw [H5.out.1]; omega)] at hd
              exact hd
            have HT8 := Lib.hid (todo_ok HT7.out hd4)
            rw [List.append_assoc] at HO
            have hDl2 : (D3 ++ d).length ≤ 1600000000 := by rw [List.length_append]; omega
            clear HT7 hd4 HD hd hO hK hB hs7
            generalize D3 ++ d = D4 at *
            have hbl := HB.out.lt
            have q10 : wr.cell? ⟨b, 10, none⟩ = some (.slice A6 n6 c6) := HB.out.cell 10
            obtain ⟨wp, rfl⟩ : ∃ wp, wp = wr := ⟨_, rfl⟩
            go_wp2_with fail
            refine (count_any HO.out (by simp only [List.length_append]; omega) _ _).mono ?_
            rintro e w8 ⟨hK8, hb8, hr8⟩
            cases hx8 : countE n6 65536 with
            | error y =>
              rw [hx8] at hr8
              obtain rfl := hr8
              refine ⟨rfl, HK.out.trans hK8, hb8, ?_⟩
              rw [todo_err HT8.out hx8]
            | ok s8 =>
              rw [hx8] at hr8
              obtain ⟨rfl, hO8⟩ := hr8
              have HO8 := Lib.hid hO8
              have HK8 := Lib.hid (HK.out.trans hK8)
              have HB8 := Lib.hid (hK8.2 _ _ _ HB.out (by decide) (by decide))
              have HT9 := Lib.hid (todo_ok HT8.out hx8)
              have hs8 := countE_len hx8
              rw [List.append_assoc] at HO8
              have hDl5 : (D4 ++ s8).length ≤ 1600000005 := by rw [List.length_append]; omega
              clear HO HK HB HT8 hO8 hK8 hb8 hx8 q10 hbl
              generalize D4 ++ s8 = D5 at *
              have hbl := HB8.out.lt
              have q10 : w8.cell? ⟨b, 10, none⟩ = some (.slice A6 n6 c6) := HB8.out.cell 10
              go_wp2_with fail
              have hn6 : n6 ≤ 65536 := by have := hs8.2; omega
              clear q10 hbl hDl2
              go_loopw [81] (fun i wr => ∃ (k : Nat) (d : List UInt8), k ≤ n6 ∧ i = .int .i64 k ∧ seqE insE (is.take k) = .ok d ∧ OutAt w0 wr o (bs ++ D5 ++ d) ∧ KeepsT w wr) (fun i _ => n6 - (intOf i).toNat)
              case atStart => exact ⟨0, [], by omega, rfl, rfl, by rw [List.append_nil]; exact HO8.out, HK8.out⟩
              case round =>
                clear HO8 HK8 HB8
                obtain ⟨k, d, hk, rfl, hd, hO, hK⟩ := hrel
                have HO := Lib.hid hO
                have HK := Lib.hid hK
                have HD := Lib.hid hd
                have hdl := seqE_len insE_len hd
                rw [List.length_take] at hdl
                have hdl2 : min k is.length * 6 ≤ 65536 * 6 := Nat.mul_le_mul_right _ (by have := hs8.2; omega)
                replace hdl : d.length ≤ 400000 := by omega
                clear hdl2
                by_cases hlt : k < n6
                · obtain ⟨v, hx⟩ : ∃ v, is[k]? = some v := ⟨_, List.getElem?_eq_getElem (by rw [H6.out.1]; exact hlt)⟩
                  obtain ⟨be, oe, rfl, hbe, hce⟩ := (H6.out.new HO.out.bel).at_ (f := insCs) (m := 2) (fun _ => rfl) hx
                  obtain ⟨htk, hsp⟩ := take_snoc hx
                  have HTK := Lib.hid htk
                  have HSP := Lib.hid hsp
                  obtain ⟨vo, va⟩ := v
                  have e0 : wr.cell? ⟨be, oe + k * 2, none⟩ = some (.int .i64 vo) := hce 0 _ rfl
                  have e1 : wr.cell? ⟨be, oe + k * 2 + 1, none⟩ = some (.int .i64 va) := hce 1 _ rfl
                  clear hO hK hd hx htk hsp hce hs8
                  have hb9 : Below wr.heap.size wr (wr.alloc (.cells #[.int .i64 vo, .int .i64 va] 64)) := (by repeat (first | exact Below.refl _ _ | assumption | refine Below.setCell ?_ (by first | (simp; done) | (simp; omega) | omega) _ | refine below_drewN ?_ _ | refine Below.drew ?_ | refine Below.alloc ?_ (by first | (simp; done) | (simp; omega) | omega) _))
                  by_cases hin : 1 ≤ vo ∧ vo < 57
                  · have hd1 : decide ((1 : Int) ≤ vo) = true := decide_eq_true hin.1
                    have hd2 : decide (vo < 57) = true := decide_eq_true hin.2
                    go_wp2_with fail
                    refine (need_yes 1 _).mono ?_
                    rintro e w1 ⟨rfl, rfl⟩
                    clear e0 e1 hd1 hd2
                    have HO2 := Lib.hid (HO.out.new hb9)
                    have HK2 := Lib.hid (HK.out.trans (KeepsT.new hb9))
                    have HX := Lib.hid (Blk.new wr 64 #[.int .i64 vo, .int .i64 va])
                    clear HO HK hb9 hbe
                    generalize wr.alloc (.cells #[.int .i64 vo, .int .i64 va] 64) = W at *
                    generalize wr.heap.size = bx at *
                    have hLl : (bs ++ D5 ++ d).length ≤ bs.length + 1700000000 := by simp only [List.length_append] at hDl5 ⊢; omega
                    generalize hL : bs ++ D5 ++ d = L at *
                    have HL := Lib.hid hL
                    clear hL
                    obtain ⟨v, hb1, hb2⟩ := HO2.out.row
                    obtain ⟨A', c', rfl, -, -⟩ := Own.rd (row_own hb2)
                    have hbz2 := HO2.out.bel.size
                    have q0 := hb1.cell 0
                    have q1 := HX.out.cell 0
                    simp only [List.getElem?_toArray, List.getElem?_cons_zero, List.getElem?_cons_succ] at q0 q1
                    have hlo := hb1.lt
                    have hlx := HX.out.lt
                    have hy : IntKind.u8.wrap vo = ((byteI vo).toNat : Int) := (byteI_toNat vo).symm ▸ rfl
                    have hie : insE (vo, va) = andE (.ok [byteI vo]) (numE va) := if_pos hin
                    have hin1 := hin.1
                    have hin2 := hin.2
                    clear hin
                    generalize byteI vo = y at *
                    have HIE := Lib.hid hie
                    clear hie
                    go_wp2_with fail
                    go_region_law (refine step_append_row rfl (.tmp 98) (.tmp 102) 30 rfl w0.heap.size 5 i0 _ 1 1 Tryd.underlying30 HI.out.1 HI.out.2.1 HI.out.2.2.1 HI.out.2.2.2 rfl (by decide) (.slice A' L.length c') L.length (bcs L) rfl (by exact row_new hb2 (by repeat (first | exact Below.refl _ _ | assumption | refine Below.setCell ?_ (by first | (simp; done) | (simp; omega) | omega) _ | refine below_drewN ?_ _ | refine Below.drew ?_ | refine Below.alloc ?_ (by first | (simp; done) | (simp; omega) | omega) _))) ⟨W.heap.size, 0, none⟩ 1 1 (bcs [y]) rfl rfl (by exact one_at W y) (bcs_oneCell _) (by simp only [maxLen]; omega) (by omega) (by simp; omega) ?_; intro v6 w6 ho6 hg6 _; obtain ⟨A7, c7, rfl, -, -⟩ := Own.rd (row_own ho6); obtain ⟨p6, f6, l6, hO6, hK6⟩ := OutAt.push (cs := [y]) hb1 hb2 HO2.out.bel HO2.out.base (by repeat (first | exact Below.refl _ _ | assumption | refine Below.setCell ?_ (by first | (simp; done) | (simp; omega) | omega) _ | refine below_drewN ?_ _ | refine Below.drew ?_ | refine Below.alloc ?_ (by first | (simp; done) | (simp; omega) | omega) _)) ho6 hg6; have kb6 := hK6.2 _ _ _ HX.out (by decide) (by decide); have HO6 := Lib.hid hO6; have HX6 := Lib.hid kb6; have HK6 := Lib.hid (HK2.out.trans hK6); clear ho6 hg6 hO6 hK6 kb6)
                    all_goals
                      have q2 := HX6.out.cell 1
                      simp only [List.getElem?_toArray, List.getElem?_cons_zero, List.getElem?_cons_succ] at q2
                      have hlx6 := HX6.out.lt
                      clear hy q0 q1 p6 f6 l6
                      go_wp2_with fail
                      refine (number_any HO6.out (by rw [List.length_append, List.length_cons, List.length_nil]; omega) va).mono ?_
                      rintro e w9 ⟨hK9, hb9, hr9⟩
                      cases hx9 : numE va with
                      | error z =>
                        rw [hx9] at hr9
                        obtain rfl := hr9
                        refine ⟨rfl, HK6.out.trans hK9, hb9, ?_⟩
                        rw [todo_stop HT9.out (show seqE insE is = .error z by rw [HSP.out, seqE_stop HD.out (show insE (vo, va) = .error z by rw [HIE.out, hx9]; rfl)])]
                      | ok cs =>
                        rw [hx9] at hr9
                        obtain ⟨rfl, hO9⟩ := hr9
                        have HO9 := Lib.hid hO9
                        have HK9 := Lib.hid (HK6.out.trans hK9)
                        have HD9 := Lib.hid (show seqE insE (is.take (k + 1)) = .ok (d ++ ([y] ++ cs)) by rw [HTK.out]; exact seqE_snoc_ok HD.out (show insE (vo, va) = .ok ([y] ++ cs) by rw [HIE.out, hx9]; rfl))
                        clear hO9 hK9 hb9 hx9 q2 hlx6
                        go_wp2
                        go_roundw
                        case rel => exact ⟨k + 1, d ++ ([y] ++ cs), by omega, by go_num, HD9.out, by rw [← List.append_assoc, ← List.append_assoc, HL.out]; exact HO9.out, HK9.out⟩
                        case measure => simp [intOf]; omega
                  · have hins : insE (vo, va) = .error 1 := if_neg hin
                    have HE := Lib.hid (todo_stop HT9.out (show seqE insE is = .error 1 by rw [HSP.out, seqE_stop HD.out hins]))
                    rcases (show vo < 1 ∨ (1 ≤ vo ∧ 57 ≤ vo) by omega) with h0 | ⟨h0, h1⟩
                    · have hd1 : decide ((1 : Int) ≤ vo) = false := decide_eq_false (by omega)
                      clear hins
                      go_wp2_with fail
                      refine (need_no 1 _).mono ?_
                      rintro e w1 ⟨rfl, rfl⟩
                      refine ⟨rfl, HK.out.trans (KeepsT.new hb9), (HO.out.new hb9).bel, ?_⟩
                      rw [HE.out]
                    · have hd1 : decide ((1 : Int) ≤ vo) = true := decide_eq_true h0
                      have hd2 : decide (vo < 57) = false := decide_eq_false (by omega)
                      clear hins
                      go_wp2_with fail
                      refine (need_no 1 _).mono ?_
                      rintro e w1 ⟨rfl, rfl⟩
                      refine ⟨rfl, HK.out.trans (KeepsT.new hb9), (HO.out.new hb9).bel, ?_⟩
                      rw [HE.out]
                · obtain rfl : k = n6 := by omega
                  have hd4 : seqE insE is = .ok d := by
                    rw [List.take_of_length_le (by rw [H6.out.1]; omega)] at hd
                    exact hd
                  have HE := Lib.hid (todo_end HT9.out hd4)
                  clear hO hK hd hd4 HD hs8
                  go_wp2
                  go_end0
                  refine ⟨HK.out, HO.out.bel, ?_⟩
                  rw [HE.out]
                  refine ⟨rfl, ?_⟩
                  rw [← List.append_assoc]
                  exact HO.out

theorem code_any {w0 w : World} {o : Nat} {bs : List UInt8} (h : OutAt w0 w o bs) (hl : bs.length + 2000000000 ≤ 100000000000000) (c : CodeD) {cs : List Value} (hc : CodeAt w0 c cs) :
    Calls Tryd.prog 25 #[.pointer (some ⟨o, 0, none⟩), .agg cs.toArray] w (Wrote w0 w o bs (codeE c)) := by
  obtain ⟨A1, n1, c1, A2, n2, c2, A3, n3, c3, A4, n4, c4, A5, n5, c5, A6, n6, c6, rfl, h1, h2, h3, h4, h5, h6⟩ := hc.parts
  cases hg : c.gen with
  | false => exact code_false h hl c hg h1 h2 h3 h4 h5 h6
  | true => exact code_true h hl c hg h1 h2 h3 h4 h5 h6
end Go.Proofs.YtcfelfhjhkenaaaDoor
