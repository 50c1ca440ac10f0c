/- constant. -/
import Derived.Test.YtcfelfhjhkenaaaDoorTxt
import Derived.BigFrame
namespace Go.Proofs.YtcfelfhjhkenaaaDoor
open Go.RowKit
attribute [local go_sem] Oper.semAt_some

/-- a const: its kind, a number, a text -/
structure ValD where
  k : Int
  n : Int
  s : ByteArray
def byteI (n : Int) : UInt8 := UInt8.ofNat (n % 256).toNat
def int8 (n : Int) : List UInt8 := [56, 48, 40, 32, 24, 16, 8, 0].map fun by_ : Nat => byteI (n / 2 ^ by_)
def valE (v : ValD) : Except Int (List UInt8) :=
  if v.k = 0 then (if v.s.toList.isEmpty = true ∧ v.n = 0 then .ok [0] else .error 1)
  else if v.k = 1 then (if v.s.toList.isEmpty = true ∧ (v.n = 0 ∨ v.n = 1) then .ok [1, byteI v.n] else .error 1)
  else if v.k = 2 then (if v.s.toList.isEmpty = true then .ok (2 :: int8 v.n) else .error 1)
  else if v.k = 3 then (if v.n = 0 then (match textE v.s with | .ok a => .ok (3 :: a) | .error e => .error e) else .error 1)
  else .error 1

theorem step_append_row {P : Program} {w : World} {ops : Array Oper} {o : Oper} {a : Act} {K : Act → World → Prop} {Q : Exit → Act → World → Prop} {E : Prop} (hgd : o.guard = none) (s x : Operand) (t : TypeId)
    (ho : o.op = .call { callee := .builtin .append, args := #[s, x], argTypes := #[t, t] })
    (base : Nat) (e : TypeId) (i : TypeInfo) (z : Value) (size bytes : Nat) (ht : P.underlying t = some (.slice e)) (hi : P.info? e = some i) (hz : i.zero = some z)
    (hsize : i.size = size) (hby : i.bytes = bytes) (hzs : z.cells.size = size) (hsz : 0 < size)
    (v : Value) (n : Nat) (xs : List Value) (hs : a.eval s = v) (hown : w.ownsRow base e size v n xs)
    (ad : Addr) (m c : Nat) (news : List Value) (hx : a.eval x = .slice (some ad) m c) (hl : news.length = m * size) (hnews : ∀ j u, news[j]? = some u → w.cell? (ad.add j) = some u) (h1 : ∀ u ∈ news, u.oneCell' = true)
    (h63 : n + m ≤ maxLen) (hbytes : (n + m) * bytes ≤ 140737488355328) (hbase : base ≤ w.heap.size)
    (h : ∀ v' w', w'.ownsRow base e size v' (n + m) (xs ++ news) → w.grownBy w' v.ownBlock → (v' = .slice none 0 0 ↔ v = .slice none 0 0 ∧ m = 0) → K (a.put o.dst v') w') :
    if Region.wanted o (yielded ops a.tmps) = true then Oper.wp P o a w K Q else E := by
  have hw : Region.wanted o (yielded ops a.tmps) = true := by simp [Region.wanted, hgd]
  rw [if_pos hw]
  exact wp_append_own w s x t ho base e i z size bytes ht hi hz hsize hby hzs hsz v n xs hs hown ad m c news hx hl hnews h1 h63 hbytes hbase h
theorem cells_at (w : World) (ys : List UInt8) (cs : Array Value) (h : bcs ys = cs.toList) : ∀ j u, (bcs ys)[j]? = some u → (w.alloc (.cells cs 5)).cell? ((⟨w.heap.size, 0, none⟩ : Addr).add j) = some u := by
  intro j u hu
  rw [show (⟨w.heap.size, 0, none⟩ : Addr).add j = ⟨w.heap.size, j, none⟩ from by unfold Addr.add; split <;> simp_all, (Blk.new w 5 cs).cell]
  rw [h] at hu
  simpa using hu

set_option maxRecDepth 100000 in
set_option maxHeartbeats 1000000 in
theorem const_other {w0 w : World} {o : Nat} {bs : List UInt8} (h : OutAt w0 w o bs) (k n : Int) (s : ByteArray) (h0 : k ≠ 0) (h1 : k ≠ 1) (h2 : k ≠ 2) (h3 : k ≠ 3) :
    Calls Tryd.prog 41 #[.pointer (some ⟨o, 0, none⟩), .agg #[.int .i64 k, .int .i64 n, .string s]] w (Wrote w0 w o bs (.error 1)) := by
  have H := Lib.hid h
  clear h
  go_enter Tryd.func41, Tryd.ntmps41
  go_wp2_with fail
  refine ⟨rfl, KeepsT.new (by repeat (first | exact Below.refl _ _ | assumption | refine Below.setCell ?_ (by first | (simp; done) | (simp; omega) | omega) _ | refine below_drewN ?_ _ | refine Below.drew ?_ | refine Below.alloc ?_ (by first | (simp; done) | (simp; omega) | omega) _)), ?_, rfl⟩
  exact H.out.bel.trans ((show Below w.heap.size w _ from (by repeat (first | exact Below.refl _ _ | assumption | refine Below.setCell ?_ (by first | (simp; done) | (simp; omega) | omega) _ | refine below_drewN ?_ _ | refine Below.drew ?_ | refine Below.alloc ?_ (by first | (simp; done) | (simp; omega) | omega) _))).mono H.out.bel.size)

set_option maxRecDepth 100000 in
set_option maxHeartbeats 1000000 in
theorem const_text {w0 w : World} {o : Nat} {bs : List UInt8} (h : OutAt w0 w o bs) (hl : bs.length + 65542 ≤ 100000000000000) (n : Int) (s : ByteArray) :
    Calls Tryd.prog 41 #[.pointer (some ⟨o, 0, none⟩), .agg #[.int .i64 3, .int .i64 n, .string s]] w (Wrote w0 w o bs (valE ⟨3, n, s⟩)) := by
  obtain ⟨i0, hi, hz0, hz1, hz2⟩ := info_parts info_B
  have HI := Lib.hid (And.intro hi (And.intro hz0 (And.intro hz1 hz2)))
  clear hi hz0 hz1 hz2
  have hb0 : Below w.heap.size w (w.alloc (.cells #[.int .i64 3, .int .i64 n, .string s] 77)) := (by repeat (first | exact Below.refl _ _ | assumption | refine Below.setCell ?_ (by first | (simp; done) | (simp; omega) | omega) _ | refine below_drewN ?_ _ | refine Below.drew ?_ | refine Below.alloc ?_ (by first | (simp; done) | (simp; omega) | omega) _))
  have H0 := h.new hb0
  have hbx := Blk.new w 77 #[.int .i64 3, .int .i64 n, .string s]
  have H := Lib.hid h
  clear h
  by_cases hn : n = 0
  · subst hn
    have hv : valE ⟨3, 0, s⟩ = match textE s with | .ok a => .ok (3 :: a) | .error e => .error e := rfl
    have HV := Lib.hid hv
    clear hv
    go_enter Tryd.func41, Tryd.ntmps41
    go_wp2_with fail
    refine (need_yes 1 _).mono ?_
    rintro e w1 ⟨rfl, rfl⟩
    have HKW := Lib.hid (KeepsT.new hb0)
    generalize w.alloc (.cells #[.int .i64 3, .int .i64 0, .string s] 77) = W1 at *
    obtain ⟨v, hb1, hb2⟩ := H0.row
    obtain ⟨A, c, rfl, -, -⟩ := Own.rd (row_own hb2)
    have hbz := H0.bel.size
    have q0 := hb1.cell 0
    simp only [List.getElem?_toArray, List.getElem?_cons_zero] at q0
    have hlo := hb1.lt
    have H0' := Lib.hid H0
    have HBX := Lib.hid hbx
    clear H0 hbx
    go_wp2_with (at_builtin; refine wpList_append_own _ rfl (.tmp 97) (.tmp 98) 30 rfl w0.heap.size 5 i0 _ 1 1 Tryd.underlying30 HI.out.1 HI.out.2.1 HI.out.2.2.1 HI.out.2.2.2 rfl (by decide) (.slice A bs.length c) bs.length (bcs bs) rfl (by exact row_new hb2 (by repeat (first | exact Below.refl _ _ | assumption | refine Below.setCell ?_ (by first | (simp; done) | (simp; omega) | omega) _ | refine below_drewN ?_ _ | refine Below.drew ?_ | refine Below.alloc ?_ (by first | (simp; done) | (simp; omega) | omega) _))) ⟨W1.heap.size, 0, none⟩ 1 1 (bcs [3]) rfl rfl (by exact one_at W1 3) (bcs_oneCell _) (by simp only [maxLen]; omega) (by omega) (by simp; omega) ?_; intro v6 w6 ho6 hg6 _; obtain ⟨A6, c6, rfl, -, -⟩ := Own.rd (row_own ho6); obtain ⟨p6, f6, l6, hO6, hK6⟩ := OutAt.push (cs := [3]) hb1 hb2 H0'.out.bel H0'.out.base (by repeat (first | exact Below.refl _ _ | assumption | refine Below.setCell ?_ (by first | (simp; done) | (simp; omega) | omega) _ | refine below_drewN ?_ _ | refine Below.drew ?_ | refine Below.alloc ?_ (by first | (simp; done) | (simp; omega) | omega) _)) ho6 hg6; have HO6 := Lib.hid hO6; have kb6 := hK6.2 _ _ _ HBX.out (by decide) (by decide); have c6 := kb6.cell 2; simp only [List.getElem?_toArray, List.getElem?_cons_succ, List.getElem?_cons_zero] at c6; have lb6 := kb6.lt; have HK6 := Lib.hid (HKW.out.trans hK6); clear ho6 hg6 hO6 hK6 kb6)
    refine (text_any HO6.out (by simp; omega) s).mono ?_
    rintro e w3 ⟨hK3, hb3, hr3⟩
    cases hx3 : textE s with
    | error y =>
      rw [hx3] at hr3
      obtain rfl := hr3
      refine ⟨rfl, HK6.out.trans hK3, hb3, ?_⟩
      rw [HV.out, hx3]
    | ok cs =>
      rw [hx3] at hr3
      obtain ⟨rfl, hO3⟩ := hr3
      have HO3 := Lib.hid hO3
      have HK3 := Lib.hid (HK6.out.trans hK3)
      clear hO3 hK3
      go_wp2
      go_end0
      refine ⟨HK3.out, hb3, ?_⟩
      rw [HV.out, hx3]
      refine ⟨rfl, ?_⟩
      have := HO3.out
      rw [List.append_assoc] at this
      exact this
  · have hv : valE ⟨3, n, s⟩ = .error 1 := by simp [valE, hn]
    rw [hv]
    clear hv
    have hnb : (n == 0) = false := by simpa using hn
    go_enter Tryd.func41, Tryd.ntmps41
    go_wp2_with fail
    refine (need_no 1 _).mono ?_
    rintro e w1 ⟨rfl, rfl⟩
    refine ⟨rfl, KeepsT.new hb0, H0.bel, rfl⟩

set_option maxRecDepth 100000 in
set_option maxHeartbeats 1000000 in
theorem const_none {w0 w : World} {o : Nat} {bs : List UInt8} (h : OutAt w0 w o bs) (hl : bs.length + 65542 ≤ 100000000000000) (n : Int) (s : ByteArray) :
    Calls Tryd.prog 41 #[.pointer (some ⟨o, 0, none⟩), .agg #[.int .i64 0, .int .i64 n, .string s]] w (Wrote w0 w o bs (valE ⟨0, n, s⟩)) := by
  obtain ⟨i0, hi, hz0, hz1, hz2⟩ := info_parts info_B
  have HI := Lib.hid (And.intro hi (And.intro hz0 (And.intro hz1 hz2)))
  clear hi hz0 hz1 hz2
  have hb0 : Below w.heap.size w (w.alloc (.cells #[.int .i64 0, .int .i64 n, .string s] 77)) := (by repeat (first | exact Below.refl _ _ | assumption | refine Below.setCell ?_ (by first | (simp; done) | (simp; omega) | omega) _ | refine below_drewN ?_ _ | refine Below.drew ?_ | refine Below.alloc ?_ (by first | (simp; done) | (simp; omega) | omega) _))
  have H0 := h.new hb0
  have hbx := Blk.new w 77 #[.int .i64 0, .int .i64 n, .string s]
  clear h
  cases he : s.toList.isEmpty with
  | false =>
    have hv : valE ⟨0, n, s⟩ = .error 1 := by simp [valE, he]
    rw [hv]
    clear hv
    go_enter Tryd.func41, Tryd.ntmps41
    go_wp2_with fail
    refine (need_no 1 _).mono ?_
    rintro e w1 ⟨rfl, rfl⟩
    refine ⟨rfl, KeepsT.new hb0, H0.bel, rfl⟩
  | true =>
    by_cases hn : n = 0
    · have hv : valE ⟨0, n, s⟩ = .ok [0] := by simp [valE, he, hn]
      rw [hv]
      subst hn
      clear hv
      go_enter Tryd.func41, Tryd.ntmps41
      go_wp2_with fail
      refine (need_yes 1 _).mono ?_
      rintro e w1 ⟨rfl, rfl⟩
      have HKW := Lib.hid (KeepsT.new hb0)
      generalize w.alloc (.cells #[.int .i64 0, .int .i64 0, .string s] 77) = W1 at *
      obtain ⟨v, hb1, hb2⟩ := H0.row
      obtain ⟨A, c, rfl, -, -⟩ := Own.rd (row_own hb2)
      have hbz := H0.bel.size
      have q0 := hb1.cell 0
      simp only [List.getElem?_toArray, List.getElem?_cons_zero] at q0
      have hlo := hb1.lt
      have H0' := Lib.hid H0
      have HBX := Lib.hid hbx
      clear H0 hbx
      go_wp2_with (at_builtin; refine wpList_append_own _ rfl (.tmp 25) (.tmp 26) 30 rfl w0.heap.size 5 i0 _ 1 1 Tryd.underlying30 HI.out.1 HI.out.2.1 HI.out.2.2.1 HI.out.2.2.2 rfl (by decide) (.slice A bs.length c) bs.length (bcs bs) rfl (by exact row_new hb2 (by repeat (first | exact Below.refl _ _ | assumption | refine Below.setCell ?_ (by first | (simp; done) | (simp; omega) | omega) _ | refine below_drewN ?_ _ | refine Below.drew ?_ | refine Below.alloc ?_ (by first | (simp; done) | (simp; omega) | omega) _))) ⟨W1.heap.size, 0, none⟩ 1 1 (bcs [0]) rfl rfl (by exact one_at W1 0) (bcs_oneCell _) (by simp only [maxLen]; omega) (by omega) (by simp; omega) ?_; intro v6 w6 ho6 hg6 _; obtain ⟨A6, c6, rfl, -, -⟩ := Own.rd (row_own ho6); obtain ⟨p6, f6, l6, hO6, hK6⟩ := OutAt.push (cs := [0]) hb1 hb2 H0'.out.bel H0'.out.base (by repeat (first | exact Below.refl _ _ | assumption | refine Below.setCell ?_ (by first | (simp; done) | (simp; omega) | omega) _ | refine below_drewN ?_ _ | refine Below.drew ?_ | refine Below.alloc ?_ (by first | (simp; done) | (simp; omega) | omega) _)) ho6 hg6; have HO6 := Lib.hid hO6; have kb6 := hK6.2 _ _ _ HBX.out (by decide) (by decide); have lb6 := kb6.lt; have HK6 := Lib.hid (HKW.out.trans hK6); clear ho6 hg6 hO6 hK6 kb6)
      go_end0
      exact ⟨HK6.out, HO6.out.bel, rfl, HO6.out⟩
    · have hv : valE ⟨0, n, s⟩ = .error 1 := by simp [valE, hn]
      rw [hv]
      clear hv
      have hnb : (n == 0) = false := by simpa using hn
      go_enter Tryd.func41, Tryd.ntmps41
      go_wp2_with fail
      refine (need_no 1 _).mono ?_
      rintro e w1 ⟨rfl, rfl⟩
      refine ⟨rfl, KeepsT.new hb0, H0.bel, rfl⟩

set_option maxRecDepth 100000 in
set_option maxHeartbeats 1000000 in
theorem const_bool {w0 w : World} {o : Nat} {bs : List UInt8} (h : OutAt w0 w o bs) (hl : bs.length + 65542 ≤ 100000000000000) (n : Int) (s : ByteArray) :
    Calls Tryd.prog 41 #[.pointer (some ⟨o, 0, none⟩), .agg #[.int .i64 1, .int .i64 n, .string s]] w (Wrote w0 w o bs (valE ⟨1, n, s⟩)) := by
  obtain ⟨i0, hi, hz0, hz1, hz2⟩ := info_parts info_B
  have HI := Lib.hid (And.intro hi (And.intro hz0 (And.intro hz1 hz2)))
  clear hi hz0 hz1 hz2
  have hb0 : Below w.heap.size w (w.alloc (.cells #[.int .i64 1, .int .i64 n, .string s] 77)) := (by repeat (first | exact Below.refl _ _ | assumption | refine Below.setCell ?_ (by first | (simp; done) | (simp; omega) | omega) _ | refine below_drewN ?_ _ | refine Below.drew ?_ | refine Below.alloc ?_ (by first | (simp; done) | (simp; omega) | omega) _))
  have H0 := h.new hb0
  have hbx := Blk.new w 77 #[.int .i64 1, .int .i64 n, .string s]
  clear h
  cases he : s.toList.isEmpty with
  | false =>
    have hv : valE ⟨1, n, s⟩ = .error 1 := by simp [valE, he]
    rw [hv]
    clear hv
    go_enter Tryd.func41, Tryd.ntmps41
    go_wp2_with fail
    refine (need_no 1 _).mono ?_
    rintro e w1 ⟨rfl, rfl⟩
    refine ⟨rfl, KeepsT.new hb0, H0.bel, rfl⟩
  | true =>
    by_cases hn : n = 0 ∨ n = 1
    · rcases hn with rfl | rfl
      · skip
        have hv : valE ⟨1, 0, s⟩ = .ok [1, 0] := by simp [valE, he]; rfl
        rw [hv]
        clear hv
        go_enter Tryd.func41, Tryd.ntmps41
        go_wp2_with fail
        refine (need_yes 1 _).mono ?_
        rintro e w1 ⟨rfl, rfl⟩
        have HKW := Lib.hid (KeepsT.new hb0)
        generalize w.alloc (.cells #[.int .i64 1, .int .i64 0, .string s] 77) = W1 at *
        obtain ⟨v, hb1, hb2⟩ := H0.row
        obtain ⟨A, c, rfl, -, -⟩ := Own.rd (row_own hb2)
        have hbz := H0.bel.size
        have q0 := hb1.cell 0
        have q1 := hbx.cell 1
        simp only [List.getElem?_toArray, List.getElem?_cons_zero, List.getElem?_cons_succ] at q0 q1
        have hlo := hb1.lt
        have hlx := hbx.lt
        have H0' := Lib.hid H0
        have HBX := Lib.hid hbx
        clear H0 hbx
        go_wp2_with fail
        go_region_law (refine step_append_row rfl (.tmp 48) (.tmp 52) 30 rfl w0.heap.size 5 i0 _ 1 1 Tryd.underlying30 HI.out.1 HI.out.2.1 HI.out.2.2.1 HI.out.2.2.2 rfl (by decide) (.slice A bs.length c) bs.length (bcs bs) rfl (by exact row_new hb2 (by repeat (first | exact Below.refl _ _ | assumption | refine Below.setCell ?_ (by first | (simp; done) | (simp; omega) | omega) _ | refine below_drewN ?_ _ | refine Below.drew ?_ | refine Below.alloc ?_ (by first | (simp; done) | (simp; omega) | omega) _))) ⟨W1.heap.size, 0, none⟩ 2 2 (bcs [1, 0]) rfl rfl (by exact cells_at W1 [1, 0] _ rfl) (bcs_oneCell _) (by simp only [maxLen]; omega) (by omega) (by simp; omega) ?_; intro v6 w6 ho6 hg6 _; obtain ⟨A6, c6, rfl, -, -⟩ := Own.rd (row_own ho6); obtain ⟨p6, f6, l6, hO6, hK6⟩ := OutAt.push (cs := [1, 0]) hb1 hb2 H0'.out.bel H0'.out.base (by repeat (first | exact Below.refl _ _ | assumption | refine Below.setCell ?_ (by first | (simp; done) | (simp; omega) | omega) _ | refine below_drewN ?_ _ | refine Below.drew ?_ | refine Below.alloc ?_ (by first | (simp; done) | (simp; omega) | omega) _)) ho6 hg6; have HO6 := Lib.hid hO6; have HK6 := Lib.hid (HKW.out.trans hK6); clear ho6 hg6 hO6 hK6)
        all_goals
          go_wp2
          go_end0
          exact ⟨HK6.out, HO6.out.bel, rfl, HO6.out⟩
      · skip
        have hv : valE ⟨1, 1, s⟩ = .ok [1, 1] := by simp [valE, he]; rfl
        rw [hv]
        clear hv
        go_enter Tryd.func41, Tryd.ntmps41
        go_wp2_with fail
        refine (need_yes 1 _).mono ?_
        rintro e w1 ⟨rfl, rfl⟩
        have HKW := Lib.hid (KeepsT.new hb0)
        generalize w.alloc (.cells #[.int .i64 1, .int .i64 1, .string s] 77) = W1 at *
        obtain ⟨v, hb1, hb2⟩ := H0.row
        obtain ⟨A, c, rfl, -, -⟩ := Own.rd (row_own hb2)
        have hbz := H0.bel.size
        have q0 := hb1.cell 0
        have q1 := hbx.cell 1
        simp only [List.getElem?_toArray, List.getElem?_cons_zero, List.getElem?_cons_succ] at q0 q1
        have hlo := hb1.lt
        have hlx := hbx.lt
        have H0' := Lib.hid H0
        have HBX := Lib.hid hbx
        clear H0 hbx
        go_wp2_with fail
        go_region_law (refine step_append_row rfl (.tmp 48) (.tmp 52) 30 rfl w0.heap.size 5 i0 _ 1 1 Tryd.underlying30 HI.out.1 HI.out.2.1 HI.out.2.2.1 HI.out.2.2.2 rfl (by decide) (.slice A bs.length c) bs.length (bcs bs) rfl (by exact row_new hb2 (by repeat (first | exact Below.refl _ _ | assumption | refine Below.setCell ?_ (by first | (simp; done) | (simp; omega) | omega) _ | refine below_drewN ?_ _ | refine Below.drew ?_ | refine Below.alloc ?_ (by first | (simp; done) | (simp; omega) | omega) _))) ⟨W1.heap.size, 0, none⟩ 2 2 (bcs [1, 1]) rfl rfl (by exact cells_at W1 [1, 1] _ rfl) (bcs_oneCell _) (by simp only [maxLen]; omega) (by omega) (by simp; omega) ?_; intro v6 w6 ho6 hg6 _; obtain ⟨A6, c6, rfl, -, -⟩ := Own.rd (row_own ho6); obtain ⟨p6, f6, l6, hO6, hK6⟩ := OutAt.push (cs := [1, 1]) hb1 hb2 H0'.out.bel H0'.out.base (by repeat (first | exact Below.refl _ _ | assumption | refine Below.setCell ?_ (by first | (simp; done) | (simp; omega) | omega) _ | refine below_drewN ?_ _ | refine Below.drew ?_ | refine Below.alloc ?_ (by first | (simp; done) | (simp; omega) | omega) _)) ho6 hg6; have HO6 := Lib.hid hO6; have HK6 := Lib.hid (HKW.out.trans hK6); clear ho6 hg6 hO6 hK6)
        all_goals
          go_wp2
          go_end0
          exact ⟨HK6.out, HO6.out.bel, rfl, HO6.out⟩
    · have hv : valE ⟨1, n, s⟩ = .error 1 := by simp only [valE]; simp; intro _; omega
      rw [hv]
      clear hv
      have hnb : (n == 0) = false := by simp; omega
      have hnc : (n == 1) = false := by simp; omega
      go_enter Tryd.func41, Tryd.ntmps41
      go_wp2_with fail
      refine (need_no 1 _).mono ?_
      rintro e w1 ⟨rfl, rfl⟩
      refine ⟨rfl, KeepsT.new hb0, H0.bel, rfl⟩

theorem byteI_toNat (m : Int) : ((byteI m).toNat : Int) = m % 256 := by
  unfold byteI
  rw [UInt8.toNat_ofNat']
  omega
set_option maxRecDepth 100000 in
set_option maxHeartbeats 1000000 in
theorem const_int {w0 w : World} {o : Nat} {bs : List UInt8} (h : OutAt w0 w o bs) (hl : bs.length + 65542 ≤ 100000000000000) (n : Int) (s : ByteArray) :
    Calls Tryd.prog 41 #[.pointer (some ⟨o, 0, none⟩), .agg #[.int .i64 2, .int .i64 n, .string s]] w (Wrote w0 w o bs (valE ⟨2, n, s⟩)) := by
  obtain ⟨i0, hi, hz0, hz1, hz2⟩ := info_parts info_B
  have HI := Lib.hid (And.intro hi (And.intro hz0 (And.intro hz1 hz2)))
  clear hi hz0 hz1 hz2
  have hb0 : Below w.heap.size w (w.alloc (.cells #[.int .i64 2, .int .i64 n, .string s] 77)) := (by repeat (first | exact Below.refl _ _ | assumption | refine Below.setCell ?_ (by first | (simp; done) | (simp; omega) | omega) _ | refine below_drewN ?_ _ | refine Below.drew ?_ | refine Below.alloc ?_ (by first | (simp; done) | (simp; omega) | omega) _))
  have H0 := h.new hb0
  have hbx := Blk.new w 77 #[.int .i64 2, .int .i64 n, .string s]
  clear h
  cases he : s.toList.isEmpty with
  | false =>
    have hv : valE ⟨2, n, s⟩ = .error 1 := by simp [valE, he]
    rw [hv]
    clear hv
    go_enter Tryd.func41, Tryd.ntmps41
    go_wp2_with fail
    refine (need_no 1 _).mono ?_
    rintro e w1 ⟨rfl, rfl⟩
    refine ⟨rfl, KeepsT.new hb0, H0.bel, rfl⟩
  | true =>
    have hv : valE ⟨2, n, s⟩ = .ok (2 :: int8 n) := by simp [valE, he]
    rw [hv]
    clear hv
    go_enter Tryd.func41, Tryd.ntmps41
    go_wp2_with fail
    refine (need_yes 1 _).mono ?_
    rintro e w1 ⟨rfl, rfl⟩
    have HKW := Lib.hid (KeepsT.new hb0)
    generalize w.alloc (.cells #[.int .i64 2, .int .i64 n, .string s] 77) = W1 at *
    obtain ⟨v, hb1, hb2⟩ := H0.row
    obtain ⟨A, c, rfl, -, -⟩ := Own.rd (row_own hb2)
    have hbz := H0.bel.size
    have q0 := hb1.cell 0
    simp only [List.getElem?_toArray, List.getElem?_cons_zero] at q0
    have hlo := hb1.lt
    have H0' := Lib.hid H0
    have HBX := Lib.hid hbx
    clear H0 hbx
    go_wp2_with (at_builtin; refine wpList_append_own _ rfl (.tmp 64) (.tmp 65) 30 rfl w0.heap.size 5 i0 _ 1 1 Tryd.underlying30 HI.out.1 HI.out.2.1 HI.out.2.2.1 HI.out.2.2.2 rfl (by decide) (.slice A bs.length c) bs.length (bcs bs) rfl (by exact row_new hb2 (by repeat (first | exact Below.refl _ _ | assumption | refine Below.setCell ?_ (by first | (simp; done) | (simp; omega) | omega) _ | refine below_drewN ?_ _ | refine Below.drew ?_ | refine Below.alloc ?_ (by first | (simp; done) | (simp; omega) | omega) _))) ⟨W1.heap.size, 0, none⟩ 1 1 (bcs [2]) rfl rfl (by exact one_at W1 2) (bcs_oneCell _) (by simp only [maxLen]; omega) (by omega) (by simp; omega) ?_; intro v6 w6 ho6 hg6 _; obtain ⟨A6, c6, rfl, -, -⟩ := Own.rd (row_own ho6); obtain ⟨p6, f6, l6, hO6, hK6⟩ := OutAt.push (cs := [2]) hb1 hb2 H0'.out.bel H0'.out.base (by repeat (first | exact Below.refl _ _ | assumption | refine Below.setCell ?_ (by first | (simp; done) | (simp; omega) | omega) _ | refine below_drewN ?_ _ | refine Below.drew ?_ | refine Below.alloc ?_ (by first | (simp; done) | (simp; omega) | omega) _)) ho6 hg6; have HO6 := Lib.hid hO6; have kb6 := hK6.2 _ _ _ HBX.out (by decide) (by decide); have HB6 := Lib.hid kb6; have lb6 := kb6.lt; have HK6 := Lib.hid (HKW.out.trans hK6); clear ho6 hg6 hO6 hK6 kb6)
    generalize W1.heap.size = z1 at *
    go_loopw [5] (fun i wr => ∃ j : Nat, j ≤ 8 ∧ i = .int .i64 (56 - 8 * (j : Int)) ∧ OutAt w0 wr o (bs ++ [2] ++ (int8 n).take j) ∧ KeepsT w wr ∧ Blk wr w.heap.size 77 #[.int .i64 2, .int .i64 n, .string s]) (fun i _ => (intOf i + 8).toNat)
    case atStart => exact ⟨0, by omega, rfl, by rw [List.take_zero, List.append_nil]; exact HO6.out, HK6.out, HB6.out⟩
    case round =>
      clear HO6 HK6 HB6 q0 p6 f6 l6 lb6
      obtain ⟨j, hj, rfl, hO, hK, hB⟩ := hrel
      by_cases hlt : j < 8
      · obtain ⟨b, hbe, hbj⟩ : ∃ b : Nat, (56 : Int) - 8 * (j : Int) = (b : Int) ∧ b = 56 - 8 * j := ⟨56 - 8 * j, by omega, rfl⟩
        have hel : (int8 n)[j]? = some (byteI (n / 2 ^ b)) := by
          subst hbj
          clear hbe
          rcases (show j = 0 ∨ j = 1 ∨ j = 2 ∨ j = 3 ∨ j = 4 ∨ j = 5 ∨ j = 6 ∨ j = 7 by omega) with rfl | rfl | rfl | rfl | rfl | rfl | rfl | rfl <;> rfl
        have hlj : (int8 n).length = 8 := rfl
        have HBE := Lib.hid hbe
        have htk : (int8 n).take (j + 1) = (int8 n).take j ++ [byteI (n / 2 ^ b)] := by
          obtain ⟨h1, h2⟩ := List.getElem?_eq_some_iff.1 hel
          rw [List.take_succ_eq_append_getElem h1, h2]
        have hb56 : b ≤ 56 := by omega
        rw [hbe]
        obtain ⟨v, hb1, hb2⟩ := hO.row
        generalize hL : bs ++ [2] ++ (int8 n).take j = L at *
        have hLl : L.length ≤ bs.length + 9 := by rw [← hL]; simp; omega
        obtain ⟨A', c', rfl, -, -⟩ := Own.rd (row_own hb2)
        have hbz2 := hO.bel.size
        have q0 := hb1.cell 0
        have q1 := hB.cell 1
        simp only [List.getElem?_toArray, List.getElem?_cons_zero, List.getElem?_cons_succ] at q0 q1
        have hlo := hb1.lt
        have hlx := hB.lt
        have hy : IntKind.u8.wrap (n / 2 ^ b) = ((byteI (n / 2 ^ b)).toNat : Int) := (byteI_toNat (n / 2 ^ b)).symm ▸ rfl
        generalize byteI (n / 2 ^ b) = y at *
        have HTK := Lib.hid htk
        have HL := Lib.hid hL
        clear htk hL hel hbe hbj
        have HO := Lib.hid hO
        have HK := Lib.hid hK
        have HB := Lib.hid hB
        clear hO hK hB
        go_wp2_with fail
        go_region_law (refine step_append_row rfl (.tmp 77) (.tmp 83) 30 rfl w0.heap.size 5 i0 _ 1 1 Tryd.underlying30 HI.out.1 HI.out.2.1 HI.out.2.2.1 HI.out.2.2.2 rfl (by decide) (.slice A' L.length c') L.length (bcs L) rfl (by exact row_new hb2 (by repeat (first | exact Below.refl _ _ | assumption | refine Below.setCell ?_ (by first | (simp; done) | (simp; omega) | omega) _ | refine below_drewN ?_ _ | refine Below.drew ?_ | refine Below.alloc ?_ (by first | (simp; done) | (simp; omega) | omega) _))) ⟨wr.heap.size, 0, none⟩ 1 1 (bcs [y]) rfl rfl (by exact one_at wr y) (bcs_oneCell _) (by simp only [maxLen]; omega) (by omega) (by simp; omega) ?_; intro v6 w6 ho6 hg6 _; obtain ⟨A6, c6, rfl, -, -⟩ := Own.rd (row_own ho6); obtain ⟨p6, f6, l6, hO6, hK6⟩ := OutAt.push (cs := [y]) hb1 hb2 HO.out.bel HO.out.base (by repeat (first | exact Below.refl _ _ | assumption | refine Below.setCell ?_ (by first | (simp; done) | (simp; omega) | omega) _ | refine below_drewN ?_ _ | refine Below.drew ?_ | refine Below.alloc ?_ (by first | (simp; done) | (simp; omega) | omega) _)) ho6 hg6; have kb6 := hK6.2 _ _ _ HB.out (by decide) (by decide); have HO6 := Lib.hid hO6; have HB6 := Lib.hid kb6; have HK6 := Lib.hid (HK.out.trans hK6); clear ho6 hg6 hO6 hK6 kb6)
        all_goals
          go_wp2
          go_roundw
          case rel => exact ⟨j + 1, by omega, by have := HBE.out; rw [show (56 : Int) - 8 * ((j + 1 : Nat) : Int) = (b : Int) - 8 by omega], by rw [HTK.out, ← List.append_assoc, HL.out]; exact HO6.out, HK6.out, HB6.out⟩
          case measure => have := HBE.out; simp [intOf]; omega
      · obtain rfl : j = 8 := by omega
        have ht : (int8 n).take 8 = int8 n := rfl
        rw [ht] at hO
        have HO := Lib.hid hO
        have HK := Lib.hid hK
        clear hO hK hB ht
        go_wp2
        go_end0
        refine ⟨HK.out, HO.out.bel, rfl, ?_⟩
        have := HO.out
        rw [List.append_assoc] at this
        exact this

theorem const_any {w0 w : World} {o : Nat} {bs : List UInt8} (h : OutAt w0 w o bs) (hl : bs.length + 65542 ≤ 100000000000000) (v : ValD) :
    Calls Tryd.prog 41 #[.pointer (some ⟨o, 0, none⟩), .agg #[.int .i64 v.k, .int .i64 v.n, .string v.s]] w (Wrote w0 w o bs (valE v)) := by
  obtain ⟨k, n, s⟩ := v
  by_cases h0 : k = 0
  · subst h0; exact const_none h hl n s
  · by_cases h1 : k = 1
    · subst h1; exact const_bool h hl n s
    · by_cases h2 : k = 2
      · subst h2; exact const_int h hl n s
      · by_cases h3 : k = 3
        · subst h3; exact const_text h hl n s
        · have hv : valE ⟨k, n, s⟩ = .error 1 := by simp [valE, h0, h1, h2, h3]
          rw [hv]
          exact const_other h k n s h0 h1 h2 h3
theorem valE_len (v : ValD) (a : List UInt8) (h : valE v = .ok a) : a.length ≤ 65542 := by
  unfold valE at h
  repeat' split at h
  all_goals first
    | cases h; simp; done
    | (cases h; show (2 :: int8 v.n).length ≤ _; simp [int8]; done)
    | (cases h; rename_i hx; have := textE_len _ _ hx; simp; omega)
    | (cases h; done)
end Go.Proofs.YtcfelfhjhkenaaaDoor
