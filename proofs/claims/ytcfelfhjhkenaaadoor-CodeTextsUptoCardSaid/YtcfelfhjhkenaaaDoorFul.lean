/- The first bytes behind the head: its row is full. -/
import Derived.Test.YtcfelfhjhkenaaaDoorCod
namespace Go.Proofs.YtcfelfhjhkenaaaDoor
open Go.RowKit
attribute [local go_sem] Oper.semAt_some

section
variable {P : Program}
/-- append to a row that is full, whoever's it is: a new row -/
theorem wpList_append_full {w : World} {ops : Array Oper} {rest : List Oper} {o : Oper} {a : Act} {Q : Exit → Act → World → Prop} (hgd : o.guard = none) (s x : Operand) (t : TypeId)
    (ho : o.op = .call { callee := .builtin .append, args := #[s, x], argTypes := #[t, t] })
    (base : Nat) (e : TypeId) (i : TypeInfo) (z : Value) (size bytes : Nat) (ht : P.underlying t = some (.slice e)) (hi : P.info? e = some i) (hz : i.zero = some z)
    (hsize : i.size = size) (hby : i.bytes = bytes) (hzs : z.cells.size = size)
    (g n : Nat) (xs : List Value) (hs : a.eval s = .slice (some ⟨g, 0, none⟩) n n) (hxs : xs.length = n * size) (holds : ∀ j u, xs[j]? = some u → w.cell? ⟨g, j, none⟩ = some u)
    (ad : Addr) (m c : Nat) (news : List Value) (hx : a.eval x = .slice (some ad) m c) (hl : news.length = m * size) (hnews : ∀ j u, news[j]? = some u → w.cell? (ad.add j) = some u) (hm : 0 < m)
    (hbytes : (n + m) * bytes ≤ 140737488355328) (h63 : n + m ≤ maxLen) (hbase : base ≤ w.heap.size)
    (h : ∀ v' w', w'.ownsRow base e size v' (n + m) (xs ++ news) → w.grownBy w' none → wpList P ops Q rest (a.put o.dst v') w') : wpList P ops Q (o :: rest) a w := by
  refine wpList_plain hgd fun _ hK => ?_
  subst hsize
  subst hby
  have holds' : ∀ j u, xs[j]? = some u → w.cell? ((⟨g, 0, none⟩ : Addr).add j) = some u := by
    intro j u hu
    have := holds j u hu
    unfold Addr.add
    split
    · simp_all
    · simpa using this
  have hrr := run_append_grow (P := P) w t o.type e i z ht hi hz ⟨g, 0, none⟩ n n xs hxs holds' ad m c news hl hnews (by omega) (by simp only [maxLen] at h63; omega) (growslice_fits (by omega) hbytes)
  have hge := grownCap_ge w (n + m) n e
  have hcm := grownCap_le_maxLen w (n + m) n e h63
  have hlen : (xs ++ news).length = (n + m) * i.size := by rw [List.length_append, hxs, hl, Nat.add_mul]
  unfold Oper.wp execOp
  simp only [ho, resolve, invoke, builtin, Sem.run_bind, Sem.run_pure, Result.andThen_ok, List.map_toArray, List.map_cons, List.map_nil, hs, hx, hrr]
  refine hK _ _ (h _ _ ⟨hlen, .inr ⟨w.heap.size, _, _, rfl, hbase, heap_alloc_new w.drew _, hge, hcm, ?_, ?_⟩⟩ ⟨rfl, rfl, rfl, by simp, fun k hk _ => heap_alloc_old w.drew _ hk⟩)
  · simp only [Array.size_append, List.size_toArray, size_zeroCells, hzs, hxs, hl, ← Nat.add_mul]
    congr 1
    omega
  · simp only [Array.toList_append, List.append_assoc]
    rw [← List.append_assoc, ← hlen]
    exact List.take_left
end

/-- the head is written, its row full -/
structure FullAt (w0 w : World) (o g : Nat) : Prop where
  blk : Blk w o 43 #[.slice (some ⟨g, 0, none⟩) 6 6]
  lt : g < w.heap.size
  cells : ∀ j u, (bcs headB)[j]? = some u → w.cell? ⟨g, j, none⟩ = some u
  bel : Below w0.heap.size w0 w
  base : w0.heap.size ≤ o
theorem FullAt.cells' {w0 w w' : World} {o g : Nat} (h : FullAt w0 w o g) (hb : Below w.heap.size w w') : ∀ j u, (bcs headB)[j]? = some u → w'.cell? ⟨g, j, none⟩ = some u :=
  fun j u hu => (hb.cell (p := ⟨g, j, none⟩) h.lt).trans (h.cells j u hu)
theorem FullAt.push {w0 w w1 w2 : World} {o g : Nat} {cs : List UInt8} {v' : Value} (h : FullAt w0 w o g)
    (hb : Below w.heap.size w w1) (ho : w2.ownsRow w0.heap.size 5 1 v' (6 + cs.length) (bcs headB ++ bcs cs)) (hg : w1.grownBy w2 none) :
    w2.cell? ⟨o, 0, none⟩ = some (.slice (some ⟨g, 0, none⟩) 6 6) ∧ w2.frozen? ⟨o, 0, none⟩ = false ∧ o < w2.heap.size ∧ OutAt w0 (w2.setCell ⟨o, 0, none⟩ v') o (headB ++ cs) ∧ KeepsT w (w2.setCell ⟨o, 0, none⟩ v') := by
  have m2 : Mod (fun i => i = o) w w2 := (Mod.new hb).grown hg fun k e _ => by cases e
  have k2 : Blk w2 o 43 #[.slice (some ⟨g, 0, none⟩) 6 6] := (h.blk.new' hb).grown hg (by simp)
  have m3 : Mod (fun i => i = o) w (w2.setCell ⟨o, 0, none⟩ v') := m2.setCell (p := ⟨o, 0, none⟩) (fun _ => rfl) _
  have hz : w0.heap.size ≤ w.heap.size := h.bel.size
  have hbase := h.base
  refine ⟨k2.cell 0, k2.frozen 0, k2.lt, ⟨⟨v', k2.set_ 0 v', ?_⟩, h.bel.trans (m3.below hz fun i hi e => by have e : i = o := e; omega), h.base⟩, ⟨m3.size, fun b t cs' hb' n1 _ => hb'.mod m3 fun e => Blk.ne_ hb' h.blk n1 e⟩⟩
  rw [List.length_append, bcs_append]
  exact row_keep ho fun b e => Below.heap_setCell _ _ _ _ (by
    rintro rfl
    exact own_blk_ne (row_own ho) k2 (by decide) e)
/-- full, or one's own -/
def Begun (w0 w : World) (o g : Nat) (done : List UInt8) : Prop := (done = [] ∧ FullAt w0 w o g) ∨ OutAt w0 w o (headB ++ done)

set_option maxRecDepth 100000 in
set_option maxHeartbeats 1000000 in
theorem number_first {w0 w : World} {o g : Nat} (h : FullAt w0 w o g) (k0 : Nat) (hk0 : k0 ≤ 1000) :
    Calls Tryd.prog 38 #[.pointer (some ⟨o, 0, none⟩), .int .i64 k0] w (Wrote w0 w o headB (numE k0)) := by
  obtain ⟨i0, hi, hz0, hz1, hz2⟩ := info_parts info_B
  have HI := Lib.hid (And.intro hi (And.intro hz0 (And.intro hz1 hz2)))
  clear hi hz0 hz1 hz2
  have hr : numE k0 = .ok (numB k0) := by simp [numE]; omega
  rw [hr]
  have hlen : (numB k0).length ≤ 5 := numB_len (by omega) (by simp; omega)
  have H0 := Lib.hid h
  clear h hr
  have hd1 : decide ((0 : Int) ≤ (k0 : Int)) = true := decide_eq_true (by omega)
  have hd2 : decide ((k0 : Int) ≤ 2147483647) = true := decide_eq_true (by omega)
  go_enter Tryd.func38, Tryd.ntmps38
  go_wp2_with fail
  refine (need_yes 1 _).mono ?_
  rintro e w1 ⟨rfl, rfl⟩
  clear hd1 hd2
  go_wp2_with fail
  go_loopw [1] (fun i wr => ∃ (k : Nat) (done : List UInt8), k ≤ 1000 ∧ i = .int .i64 k ∧ numB k0 = done ++ numB k ∧ Begun w0 wr o g done ∧ KeepsT w1 wr) (fun i _ => (intOf i).toNat)
  case atStart => exact ⟨k0, [], hk0, rfl, rfl, .inl ⟨rfl, H0.out⟩, KeepsT.refl _⟩
  case round =>
    obtain ⟨k, done, hk, rfl, hd, hO | hO, hK⟩ := hrel
    · obtain ⟨rfl, hF⟩ := hO
      have HF := Lib.hid hF
      have q0 := hF.blk.cell 0
      simp only [List.getElem?_toArray, List.getElem?_cons_zero] at q0
      have hlo := hF.blk.lt
      have hlg := hF.lt
      have hbz := hF.bel.size
      have HD := Lib.hid hd
      clear hF hd
      by_cases hgt : 127 < k
      · obtain ⟨y, hy⟩ : ∃ y : UInt8, y = UInt8.ofNat (k % 128 + 128) := ⟨_, rfl⟩
        have hor := orB (show k ≤ 2147483647 by omega)
        have HN := numB_hi hgt
        rw [← hy] at hor HN
        have HN := Lib.hid HN
        clear hy
        go_wp2_with (at_builtin; refine wpList_append_full rfl (.tmp 19) (.tmp 23) 30 rfl w0.heap.size 5 i0 _ 1 1 Tryd.underlying30 HI.out.1 HI.out.2.1 HI.out.2.2.1 HI.out.2.2.2 rfl g 6 (bcs headB) rfl rfl (by exact HF.out.cells' (by repeat (first | exact Below.refl _ _ | assumption | refine Below.setCell ?_ (by first | (simp; done) | (simp; omega) | omega) _ | refine below_drewN ?_ _ | refine Below.drew ?_ | refine Below.alloc ?_ (by first | (simp; done) | (simp; omega) | omega) _))) ⟨wr.heap.size, 0, none⟩ 1 1 (bcs [y]) rfl rfl (by exact one_at wr y) (by omega) (by omega) (by simp only [maxLen]; omega) (by simp; omega) ?_; intro v6 w6 ho6 hg6; obtain ⟨A6, c6, rfl, -, -⟩ := Own.rd (row_own ho6); obtain ⟨p6, f6, l6, hO6, hK6⟩ := FullAt.push (cs := [y]) HF.out (by repeat (first | exact Below.refl _ _ | assumption | refine Below.setCell ?_ (by first | (simp; done) | (simp; omega) | omega) _ | refine below_drewN ?_ _ | refine Below.drew ?_ | refine Below.alloc ?_ (by first | (simp; done) | (simp; omega) | omega) _)) ho6 hg6; have HO6 := Lib.hid hO6; have HK6 := Lib.hid (hK.trans hK6); clear ho6 hg6 hO6 hK6)
        go_roundw
        case rel => exact ⟨k / 128, [y], by omega, by go_num, by rw [HD.out, HN.out]; rfl, .inr HO6.out, HK6.out⟩
        case measure => simp [intOf]; omega
      · obtain ⟨y, hy⟩ : ∃ y : UInt8, y = UInt8.ofNat k := ⟨_, rfl⟩
        have hyk : (y.toNat : Int) = (k : Int) := by rw [hy, UInt8.toNat_ofNat']; omega
        have HN := numB_lo hgt
        rw [← hy] at HN
        have HN := Lib.hid HN
        clear hy
        have ho1 := one_at wr y
        rw [hyk] at ho1
        have HO1 := Lib.hid ho1
        clear ho1 hyk
        go_wp2_with (at_builtin; refine wpList_append_full rfl (.tmp 31) (.tmp 34) 30 rfl w0.heap.size 5 i0 _ 1 1 Tryd.underlying30 HI.out.1 HI.out.2.1 HI.out.2.2.1 HI.out.2.2.2 rfl g 6 (bcs headB) rfl rfl (by exact HF.out.cells' (by repeat (first | exact Below.refl _ _ | assumption | refine Below.setCell ?_ (by first | (simp; done) | (simp; omega) | omega) _ | refine below_drewN ?_ _ | refine Below.drew ?_ | refine Below.alloc ?_ (by first | (simp; done) | (simp; omega) | omega) _))) ⟨wr.heap.size, 0, none⟩ 1 1 (bcs [y]) rfl rfl (by exact HO1.out) (by omega) (by omega) (by simp only [maxLen]; omega) (by simp; omega) ?_; intro v6 w6 ho6 hg6; obtain ⟨A6, c6, rfl, -, -⟩ := Own.rd (row_own ho6); obtain ⟨p6, f6, l6, hO6, hK6⟩ := FullAt.push (cs := [y]) HF.out (by repeat (first | exact Below.refl _ _ | assumption | refine Below.setCell ?_ (by first | (simp; done) | (simp; omega) | omega) _ | refine below_drewN ?_ _ | refine Below.drew ?_ | refine Below.alloc ?_ (by first | (simp; done) | (simp; omega) | omega) _)) ho6 hg6; have HO6 := Lib.hid hO6; have HK6 := Lib.hid (hK.trans hK6); clear ho6 hg6 hO6 hK6)
        go_end0
        refine ⟨HK6.out, HO6.out.bel, rfl, ?_⟩
        rw [HD.out, HN.out]
        exact HO6.out
    · have hl6 : headB.length = 6 := rfl
      obtain ⟨v, hb1, hb2⟩ := hO.row
      rw [List.length_append] at hb2
      obtain ⟨A, c, rfl, -, -⟩ := Own.rd (row_own hb2)
      have hbz := hO.bel.size
      have q0 := hb1.cell 0
      simp only [List.getElem?_toArray, List.getElem?_cons_zero] at q0
      have hlo := hb1.lt
      have hO' := Lib.hid hO
      by_cases hgt : 127 < k
      · obtain ⟨y, hy⟩ : ∃ y : UInt8, y = UInt8.ofNat (k % 128 + 128) := ⟨_, rfl⟩
        have hor := orB (show k ≤ 2147483647 by omega)
        have HN := numB_hi hgt
        rw [← hy] at hor HN
        have HN := Lib.hid HN
        have hlk : done.length + 1 ≤ 5 := by rw [hd, HN.out] at hlen; simp at hlen; omega
        clear hy
        go_wp2_with (at_builtin; refine wpList_append_own _ rfl (.tmp 19) (.tmp 23) 30 rfl w0.heap.size 5 i0 _ 1 1 Tryd.underlying30 HI.out.1 HI.out.2.1 HI.out.2.2.1 HI.out.2.2.2 rfl (by decide) (.slice A (headB.length + done.length) c) (headB.length + done.length) (bcs (headB ++ done)) rfl (by exact row_new hb2 (by repeat (first | exact Below.refl _ _ | assumption | refine Below.setCell ?_ (by first | (simp; done) | (simp; omega) | omega) _ | refine below_drewN ?_ _ | refine Below.drew ?_ | refine Below.alloc ?_ (by first | (simp; done) | (simp; omega) | omega) _))) ⟨wr.heap.size, 0, none⟩ 1 1 (bcs [y]) rfl rfl (by exact one_at wr y) (bcs_oneCell _) (by simp only [maxLen]; omega) (by omega) (by simp; omega) ?_; intro v6 w6 ho6 hg6 _; obtain ⟨A6, c6, rfl, -, -⟩ := Own.rd (row_own ho6); obtain ⟨p6, f6, l6, hO6, hK6⟩ := OutAt.push (cs := [y]) hb1 (by rw [List.length_append]; exact hb2) hO'.out.bel hO'.out.base (by repeat (first | exact Below.refl _ _ | assumption | refine Below.setCell ?_ (by first | (simp; done) | (simp; omega) | omega) _ | refine below_drewN ?_ _ | refine Below.drew ?_ | refine Below.alloc ?_ (by first | (simp; done) | (simp; omega) | omega) _)) (by rw [List.length_append]; exact ho6) hg6; have HO6 := Lib.hid hO6; have HK6 := Lib.hid (hK.trans hK6); clear ho6 hg6 hO6 hK6)
        go_roundw
        case rel => exact ⟨k / 128, done ++ [y], by omega, by go_num, by rw [hd, HN.out, List.append_assoc]; rfl, .inr (by rw [← List.append_assoc]; exact HO6.out), HK6.out⟩
        case measure => simp [intOf]; omega
      · obtain ⟨y, hy⟩ : ∃ y : UInt8, y = UInt8.ofNat k := ⟨_, rfl⟩
        have hyk : (y.toNat : Int) = (k : Int) := by rw [hy, UInt8.toNat_ofNat']; omega
        have HN := numB_lo hgt
        rw [← hy] at HN
        have HN := Lib.hid HN
        have hlk : done.length + 1 ≤ 5 := by rw [hd, HN.out] at hlen; simp at hlen; omega
        clear hy
        have ho1 := one_at wr y
        rw [hyk] at ho1
        have HO1 := Lib.hid ho1
        clear ho1 hyk
        go_wp2_with (at_builtin; refine wpList_append_own _ rfl (.tmp 31) (.tmp 34) 30 rfl w0.heap.size 5 i0 _ 1 1 Tryd.underlying30 HI.out.1 HI.out.2.1 HI.out.2.2.1 HI.out.2.2.2 rfl (by decide) (.slice A (headB.length + done.length) c) (headB.length + done.length) (bcs (headB ++ done)) rfl (by exact row_new hb2 (by repeat (first | exact Below.refl _ _ | assumption | refine Below.setCell ?_ (by first | (simp; done) | (simp; omega) | omega) _ | refine below_drewN ?_ _ | refine Below.drew ?_ | refine Below.alloc ?_ (by first | (simp; done) | (simp; omega) | omega) _))) ⟨wr.heap.size, 0, none⟩ 1 1 (bcs [y]) rfl rfl (by exact HO1.out) (bcs_oneCell _) (by simp only [maxLen]; omega) (by omega) (by simp; omega) ?_; intro v6 w6 ho6 hg6 _; obtain ⟨A6, c6, rfl, -, -⟩ := Own.rd (row_own ho6); obtain ⟨p6, f6, l6, hO6, hK6⟩ := OutAt.push (cs := [y]) hb1 (by rw [List.length_append]; exact hb2) hO'.out.bel hO'.out.base (by repeat (first | exact Below.refl _ _ | assumption | refine Below.setCell ?_ (by first | (simp; done) | (simp; omega) | omega) _ | refine below_drewN ?_ _ | refine Below.drew ?_ | refine Below.alloc ?_ (by first | (simp; done) | (simp; omega) | omega) _)) (by rw [List.length_append]; exact ho6) hg6; have HO6 := Lib.hid hO6; have HK6 := Lib.hid (hK.trans hK6); clear ho6 hg6 hO6 hK6)
        go_end0
        refine ⟨HK6.out, HO6.out.bel, rfl, ?_⟩
        rw [hd, HN.out, ← List.append_assoc]
        exact HO6.out
theorem countE_first (n : Nat) : countE (n : Int) 1000 = if n ≤ 1000 then .ok (numB n) else .error 2 := by
  unfold countE
  by_cases h : n ≤ 1000
  · rw [if_pos (by omega), if_pos h, numE, if_pos (by omega), Int.toNat_natCast]
  · rw [if_neg (by omega), if_neg h]
set_option maxHeartbeats 400000 in
theorem count_first {w0 w : World} {o g : Nat} (h : FullAt w0 w o g) (n : Nat) :
    Calls Tryd.prog 24 #[.pointer (some ⟨o, 0, none⟩), .int .i64 n, .int .i64 1000] w (Wrote w0 w o headB (countE n 1000)) := by
  have H := Lib.hid h
  clear h
  by_cases hn : n ≤ 1000
  · have hr : countE n 1000 = numE n := if_pos (by omega)
    rw [hr]
    have hr' : numE n = .ok (numB n) := by simp [numE]; omega
    clear hr
    have hd : decide ((n : Int) ≤ 1000) = true := decide_eq_true (by omega)
    have HR := Lib.hid hr'
    clear hr'
    go_enter Tryd.func24, Tryd.ntmps24
    go_wp2_with fail
    refine (need_yes 2 _).mono ?_
    rintro e w1 ⟨rfl, rfl⟩
    go_wp2_with fail
    refine (number_first H.out n hn).mono ?_
    rintro e w2 ⟨hK, hb, hr⟩
    rw [HR.out] at hr
    obtain ⟨rfl, hO⟩ := hr
    have HO := Lib.hid hO
    have HK := Lib.hid hK
    clear hO hK
    go_wp2_with fail
    go_end0
    refine ⟨HK.out, hb, ?_⟩
    rw [HR.out]
    exact ⟨rfl, HO.out⟩
  · have hr : countE n 1000 = .error 2 := if_neg (by omega)
    rw [hr]
    clear hr
    have hd : decide ((n : Int) ≤ 1000) = false := decide_eq_false (by omega)
    go_enter Tryd.func24, Tryd.ntmps24
    go_wp2_with fail
    refine (need_no 2 _).mono ?_
    rintro e w1 ⟨rfl, rfl⟩
    exact ⟨rfl, KeepsT.refl _, H.out.bel, rfl⟩
end Go.Proofs.YtcfelfhjhkenaaaDoor
