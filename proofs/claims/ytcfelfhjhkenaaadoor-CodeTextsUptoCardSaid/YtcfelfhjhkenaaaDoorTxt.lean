/- count, text: bytes that are written. -/
import Derived.Test.YtcfelfhjhkenaaaDoorOut
namespace Go.Proofs.YtcfelfhjhkenaaaDoor
open Go.RowKit
attribute [local go_sem] Oper.semAt_some

def countE (n most : Int) : Except Int (List UInt8) := if n ≤ most then numE n else .error 2
def textE (s : ByteArray) : Except Int (List UInt8) := if s.size ≤ 65536 then .ok (numB s.size ++ s.data.toList) else .error 2

set_option maxHeartbeats 400000 in
theorem count_any {w0 w : World} {o : Nat} {bs : List UInt8} (h : OutAt w0 w o bs) (hl : bs.length + 5 ≤ 100000000000000) (n most : Int) :
    Calls Tryd.prog 24 #[.pointer (some ⟨o, 0, none⟩), .int .i64 n, .int .i64 most] w (Wrote w0 w o bs (countE n most)) := by
  have H := Lib.hid h
  clear h
  by_cases hn : n ≤ most
  · have hr : countE n most = numE n := if_pos hn
    rw [hr]
    clear hr
    have hd : decide (n ≤ most) = true := decide_eq_true hn
    go_enter Tryd.func24, Tryd.ntmps24
    go_wp2_with fail
    refine (need_yes 2 _).mono ?_
    rintro e w1 ⟨rfl, rfl⟩
    go_wp2_with fail
    refine (number_any H.out hl n).mono ?_
    rintro e w2 ⟨hK, hb, hr⟩
    cases hr' : numE n with
    | ok cs =>
      rw [hr'] at hr
      obtain ⟨rfl, hO⟩ := hr
      go_wp2_with fail
      go_end0
      refine ⟨hK, hb, ?_⟩
      rw [hr']
      exact ⟨rfl, hO⟩
    | error x =>
      rw [hr'] at hr
      obtain rfl := hr
      exact ⟨rfl, hK, hb, rfl⟩
  · have hr : countE n most = .error 2 := if_neg hn
    rw [hr]
    clear hr
    have hd : decide (n ≤ most) = false := decide_eq_false hn
    go_enter Tryd.func24, Tryd.ntmps24
    go_wp2_with fail
    refine (need_no 2 _).mono ?_
    rintro e w1 ⟨rfl, rfl⟩
    exact ⟨rfl, KeepsT.refl _, H.out.bel, rfl⟩

theorem strB (s : ByteArray) : Lib.strCells s = bcs s.data.toList := rfl
theorem sizeB (s : ByteArray) : s.data.toList.length = s.size := by rw [Array.length_toList]; rfl
theorem und9 : Tryd.prog.underlying 9 = some .string := by kernel_rfl

set_option maxHeartbeats 1000000 in
theorem text_any {w0 w : World} {o : Nat} {bs : List UInt8} (h : OutAt w0 w o bs) (hl : bs.length + 65541 ≤ 100000000000000) (s : ByteArray) :
    Calls Tryd.prog 39 #[.pointer (some ⟨o, 0, none⟩), .string s] w (Wrote w0 w o bs (textE s)) := by
  obtain ⟨i0, hi, hz0, hz1, hz2⟩ := info_parts info_B
  have HI := Lib.hid (And.intro hi (And.intro hz0 (And.intro hz1 hz2)))
  clear hi hz0 hz1 hz2
  have H := Lib.hid h
  clear h
  go_enter Tryd.func39, Tryd.ntmps39
  go_wp2_with fail
  refine (count_any H.out (by omega) _ _).mono ?_
  rintro e w1 ⟨hK, hb, hr⟩
  by_cases hs : s.size ≤ 65536
  · have hc : countE (s.size : Int) 65536 = .ok (numB s.size) := by
      rw [countE, if_pos (by omega), numE, if_pos (by omega), Int.toNat_natCast]
    have ht : textE s = .ok (numB s.size ++ s.data.toList) := if_pos hs
    have hlen : (numB s.size).length ≤ 5 := numB_len (by omega) (by simp; omega)
    rw [hc] at hr
    obtain ⟨rfl, hO⟩ := hr
    have HT := Lib.hid ht
    obtain ⟨v, hb1, hb2⟩ := hO.row
    rw [List.length_append] at hb2
    obtain ⟨A, c, rfl, -, -⟩ := Own.rd (row_own hb2)
    have hbz := hO.bel.size
    have q0 := hb1.cell 0
    simp only [List.getElem?_toArray, List.getElem?_cons_zero] at q0
    have hlo := hb1.lt
    have hO' := Lib.hid hO
    clear hO hc ht
    go_wp2_with (at_builtin; refine Lib.wpList_append_own_string _ rfl (.tmp 12) (.tmp 13) 30 9 rfl w0.heap.size 5 i0 Tryd.underlying30 und9 HI.out.1 HI.out.2.1 HI.out.2.2.1 HI.out.2.2.2 (.slice A (bs.length + (numB s.size).length) c) (bs.length + (numB s.size).length) (bcs (bs ++ numB s.size)) rfl hb2 s rfl (by simp only [maxLen]; omega) (by omega) hbz ?_; intro v6 w6 ho6 hg6 _; obtain ⟨A6, c6, rfl, -, -⟩ := Own.rd (row_own ho6); obtain ⟨p6, f6, l6, hO6, hK6⟩ := OutAt.push (cs := s.data.toList) hb1 (by rw [List.length_append]; exact hb2) hO'.out.bel hO'.out.base (Below.refl _ _) (by rw [List.length_append, sizeB]; exact ho6) hg6; have HO6 := Lib.hid hO6; have HK6 := Lib.hid (hK.trans hK6); clear ho6 hg6 hO6 hK6)
    go_end0
    refine ⟨HK6.out, HO6.out.bel, ?_⟩
    rw [HT.out]
    refine ⟨rfl, ?_⟩
    rw [← List.append_assoc]
    exact HO6.out
  · have hc : countE (s.size : Int) 65536 = .error 2 := if_neg (by omega)
    have ht : textE s = .error 2 := if_neg hs
    rw [hc] at hr
    obtain rfl := hr
    refine ⟨rfl, hK, hb, ?_⟩
    rw [ht]
/-- one behind the other, till one gives up -/
def seqE {α : Type} (f : α → Except Int (List UInt8)) : List α → Except Int (List UInt8)
  | [] => .ok []
  | x :: xs => match f x with
    | .error e => .error e
    | .ok a => match seqE f xs with
      | .error e => .error e
      | .ok b => .ok (a ++ b)
section
variable {α : Type} {f : α → Except Int (List UInt8)}
theorem seqE_snoc_ok : ∀ {l : List α} {x : α} {a b : List UInt8}, seqE f l = .ok a → f x = .ok b → seqE f (l ++ [x]) = .ok (a ++ b)
  | [], x, a, b, h, hx => by cases h; simp [seqE, hx]
  | y :: l, x, a, b, h, hx => by
    simp only [seqE] at h
    cases hy : f y with
    | error e => rw [hy] at h; cases h
    | ok c =>
      rw [hy] at h
      cases hl : seqE f l with
      | error e => simp only [hl] at h; cases h
      | ok d =>
        simp only [hl] at h
        cases h
        simp [seqE, hy, seqE_snoc_ok hl hx]
theorem seqE_stop : ∀ {l r : List α} {x : α} {a : List UInt8} {e : Int}, seqE f l = .ok a → f x = .error e → seqE f (l ++ x :: r) = .error e
  | [], r, x, a, e, h, hx => by simp [seqE, hx]
  | y :: l, r, x, a, e, h, hx => by
    simp only [seqE] at h
    cases hy : f y with
    | error e => rw [hy] at h; cases h
    | ok c =>
      rw [hy] at h
      cases hl : seqE f l with
      | error e => simp only [hl] at h; cases h
      | ok d => simp [seqE, hy, seqE_stop hl hx]
theorem seqE_len {m : Nat} (hm : ∀ x a, f x = .ok a → a.length ≤ m) : ∀ {l : List α} {a : List UInt8}, seqE f l = .ok a → a.length ≤ l.length * m
  | [], a, h => by cases h; simp
  | y :: l, a, h => by
    simp only [seqE] at h
    cases hy : f y with
    | error e => rw [hy] at h; cases h
    | ok c =>
      rw [hy] at h
      cases hl : seqE f l with
      | error e => simp only [hl] at h; cases h
      | ok d =>
        simp only [hl] at h
        cases h
        have h1 := hm y c hy
        have h2 := seqE_len hm hl
        rw [List.length_append, List.length_cons, Nat.succ_mul]
        omega
end
theorem textE_len (s : ByteArray) (a : List UInt8) (h : textE s = .ok a) : a.length ≤ 65541 := by
  unfold textE at h
  split at h
  · injection h with h
    subst h
    have := numB_len (n := s.size) (k := 5) (by omega) (by simp; omega)
    rw [List.length_append, sizeB]
    omega
  · cases h
def listE (l : List ByteArray) : Except Int (List UInt8) := if l.length ≤ 4096 then (match seqE textE l with
  | .error e => .error e
  | .ok a => .ok (numB l.length ++ a)) else .error 2

set_option maxHeartbeats 1000000 in
theorem list_any {w0 w : World} {o : Nat} {bs : List UInt8} (h : OutAt w0 w o bs) (hl : bs.length + 300000000 ≤ 100000000000000) (A : Option Addr) (n c : Nat) (l : List ByteArray) (hr : RdS w0 A n c l) :
    Calls Tryd.prog 40 #[.pointer (some ⟨o, 0, none⟩), .slice A n c] w (Wrote w0 w o bs (listE l)) := by
  have H := Lib.hid h
  have HR := Lib.hid hr
  have hn := hr.le
  have hln := hr.1
  clear h hr
  go_enter Tryd.func40, Tryd.ntmps40
  go_wp2_with fail
  refine (count_any H.out (by omega) _ _).mono ?_
  rintro e w1 ⟨hK, hb, hr⟩
  by_cases hs : l.length ≤ 4096
  · have hc : countE (n : Int) 4096 = .ok (numB l.length) := by
      rw [countE, if_pos (by omega), numE, if_pos (by omega), Int.toNat_natCast, hln]
    have hlen : (numB l.length).length ≤ 5 := numB_len (by omega) (by simp; omega)
    rw [hc] at hr
    obtain ⟨rfl, hO⟩ := hr
    have HO := Lib.hid hO
    have HK := Lib.hid hK
    clear hO hK hb hc
    go_wp2_with fail
    go_loopw [12] (fun i wr => ∃ (k : Nat) (d : List UInt8), k ≤ n ∧ i = .int .i64 k ∧ seqE textE (l.take k) = .ok d ∧ OutAt w0 wr o (bs ++ numB l.length ++ d) ∧ KeepsT w wr) (fun i _ => n - (intOf i).toNat)
    case atStart => exact ⟨0, [], Nat.zero_le _, rfl, rfl, by rw [List.append_nil]; exact HO.out, HK.out⟩
    case round =>
      clear HO HK
      obtain ⟨k, d, hk, rfl, hd, hO, hK⟩ := hrel
      have HO := Lib.hid hO
      have HK := Lib.hid hK
      have HD := Lib.hid hd
      have hdl := seqE_len textE_len hd
      rw [List.length_take] at hdl
      have hbel := hO.bel
      by_cases hlt : k < n
      · obtain ⟨b, of, rfl, hbl, hc⟩ := (HR.out.new HO.out.bel).at_ hlt
        have hkl : k < l.length := by omega
        have hx : l[k]? = some l[k] := List.getElem?_eq_getElem hkl
        have htk : l.take (k + 1) = l.take k ++ [l[k]] := List.take_succ_eq_append_getElem hkl
        have hsp : l = l.take k ++ l[k] :: l.drop (k + 1) := by rw [List.getElem_cons_drop]; exact (List.take_append_drop k l).symm
        generalize l[k] = x at hc hx htk hsp
        have HT := Lib.hid htk
        have HS := Lib.hid hsp
        clear hO hK hd hbel htk hsp hx
        go_wp2_with fail
        refine (text_any HO.out (by rw [List.length_append, List.length_append]; have : min k l.length * 65541 ≤ 4096 * 65541 := Nat.mul_le_mul_right _ (by omega); omega) x).mono ?_
        rintro e w3 ⟨hK3, hb3, hr3⟩
        cases hx3 : textE x with
        | error y =>
          rw [hx3] at hr3
          obtain rfl := hr3
          have hle : listE l = .error y := by
            rw [listE, if_pos hs, HS.out, seqE_stop HD.out hx3]
          refine ⟨rfl, HK.out.trans hK3, hb3, ?_⟩
          rw [hle]
        | ok cs =>
          rw [hx3] at hr3
          obtain ⟨rfl, hO3⟩ := hr3
          have HO3 := Lib.hid hO3
          have HK3 := Lib.hid (HK.out.trans hK3)
          have HD3 := Lib.hid (show seqE textE (l.take (k + 1)) = .ok (d ++ cs) by rw [HT.out]; exact seqE_snoc_ok HD.out hx3)
          clear hO3 hK3 hb3 hx3 hc
          go_wp2
          go_roundw
          case rel => exact ⟨k + 1, d ++ cs, by omega, by go_num, HD3.out, by rw [← List.append_assoc]; exact HO3.out, HK3.out⟩
          case measure => simp [intOf]; omega
      · have hle : listE l = .ok (numB l.length ++ d) := by
          rw [List.take_of_length_le (by omega)] at hd
          rw [listE, if_pos hs, hd]
        have HL := Lib.hid hle
        clear hO hK hd hle hbel
        go_wp2
        go_end0
        refine ⟨HK.out, HO.out.bel, ?_⟩
        rw [HL.out]
        refine ⟨rfl, ?_⟩
        rw [← List.append_assoc]
        exact HO.out
  · have hc : countE (n : Int) 4096 = .error 2 := if_neg (by omega)
    have ht : listE l = .error 2 := if_neg hs
    rw [hc] at hr
    obtain rfl := hr
    refine ⟨rfl, hK, hb, ?_⟩
    rw [ht]
end Go.Proofs.YtcfelfhjhkenaaaDoor
