/- need; bytes that are written: number. -/
import Derived.Test.YtcfelfhjhkenaaaDoorMemB
import Derived.Test.YtcfelfhjhkenaaaDoorProg
import Derived.Test.YtcfelfhjhkenaaaDoorBit
import Derived.Laws.AppendOwn
import Derived.Lib.AppendStr
import Derived.Outline
import Derived.WalkLawsBesides
namespace Go.Proofs.YtcfelfhjhkenaaaDoor
open Go.RowKit
attribute [local go_sem] Oper.semAt_some

/-- bytes as cells -/
def bcs (bs : List UInt8) : List Value := bs.map fun b => .int .u8 b.toNat
theorem bcs_length (bs : List UInt8) : (bcs bs).length = bs.length := by simp [bcs]
theorem bcs_append (a b : List UInt8) : bcs (a ++ b) = bcs a ++ bcs b := by simp [bcs]
theorem bcs_one (b : UInt8) : bcs [b] = [.int .u8 b.toNat] := rfl
theorem bcs_oneCell (bs : List UInt8) : ∀ u ∈ bcs bs, u.oneCell' = true := by
  intro u hu
  simp only [bcs, List.mem_map] at hu
  obtain ⟨b, _, rfl⟩ := hu
  rfl
theorem info_B : (Tryd.prog.info? 5).map (fun i => (i.zero, i.size, i.bytes)) = some (some (.int .u8 0), 1, 1) := by kernel_rfl
theorem one_B (w : World) (b : UInt8) : Rd (w.alloc (.cells #[.int .u8 b.toNat] 5)) (some ⟨w.heap.size, 0, none⟩) 1 1 1 (bcs [b]) :=
  ⟨Nat.le_refl _, by omega, by rw [bcs_one]; rfl, fun _ => ⟨_, 0, rfl, by simp, fun j u hu => by
    rw [(Blk.new w 5 #[.int .u8 b.toNat]).cell, Nat.zero_add]
    simpa [bcs_one] using hu⟩⟩
theorem one_at (w : World) (b : UInt8) : ∀ j u, (bcs [b])[j]? = some u → (w.alloc (.cells #[.int .u8 b.toNat] 5)).cell? ((⟨w.heap.size, 0, none⟩ : Addr).add j) = some u := by
  intro j u hu
  rw [show (⟨w.heap.size, 0, none⟩ : Addr).add j = ⟨w.heap.size, j, none⟩ from by unfold Addr.add; split <;> simp_all, (Blk.new w 5 #[.int .u8 b.toNat]).cell]
  simpa [bcs_one] using hu
/-- boxes of other types lie as they lay -/
def KeepsT (w w' : World) : Prop := w.heap.size ≤ w'.heap.size ∧ ∀ b t cs, Blk w b t cs → t ≠ 43 → t ≠ 5 → Blk w' b t cs
section
variable {w w' w'' w0 : World}
theorem KeepsT.refl (w : World) : KeepsT w w := ⟨Nat.le_refl _, fun _ _ _ h _ _ => h⟩
theorem KeepsT.trans (h : KeepsT w w') (k : KeepsT w' w'') : KeepsT w w'' := ⟨Nat.le_trans h.1 k.1, fun b t cs hb n1 n2 => k.2 b t cs (h.2 b t cs hb n1 n2) n1 n2⟩
theorem KeepsT.new (h : Below w.heap.size w w') : KeepsT w w' := ⟨h.size, fun _ _ _ hb _ _ => hb.new' h⟩
theorem KeepsT.mod {o : Nat} {x v : Value} {n : Nat} {cs : List Value} (ho : Blk w o 43 #[x]) (hv : Own w 5 1 v n cs) (h : Mod (fun i => i = o ∨ v.ownBlock = some i) w w') : KeepsT w w' :=
  ⟨h.size, fun b t cs' hb n1 n2 => hb.mod h (by
    rintro (rfl | e)
    · exact Blk.ne_ hb ho n1 rfl
    · exact own_blk_ne hv hb (Ne.symm n2) e)⟩
end
section
variable {w w' : World} {B : Nat} {t : TypeId} {sz n : Nat} {v : Value} {cs : List Value}
theorem row_own (h : w.ownsRow B t sz v n cs) : Own w t sz v n cs := ⟨h.1, h.2.imp id fun ⟨g, cap, cur, e, _, hg, hn, hc, hs, ht⟩ => ⟨g, cap, cur, e, hg, hn, by simp only [maxLen] at hc; omega, Nat.le_of_eq hs.symm, ht⟩⟩
theorem row_base (h : w.ownsRow B t sz v n cs) {b : Nat} (e : v.ownBlock = some b) : B ≤ b := by
  rcases h.2 with ⟨rfl, _⟩ | ⟨g, cap, cur, rfl, hb, _⟩
  · cases e
  · obtain rfl : g = b := by simpa [Value.ownBlock] using e
    exact hb
theorem row_keep (h : w.ownsRow B t sz v n cs) (hk : ∀ b, v.ownBlock = some b → w'.heap[b]? = w.heap[b]?) : w'.ownsRow B t sz v n cs := by
  refine ⟨h.1, ?_⟩
  rcases h.2 with h0 | ⟨g, cap, cur, rfl, hb, hg, hr⟩
  · exact .inl h0
  · exact .inr ⟨g, cap, cur, rfl, hb, (hk g (by simp [Value.ownBlock])).trans hg, hr⟩
theorem row_new (h : w.ownsRow B t sz v n cs) (hb : Below w.heap.size w w') : w'.ownsRow B t sz v n cs := row_keep h fun b e => hb.block b ((row_own h).lt e)
end
/-- what is written so far, all of it since w0 -/
structure OutAt (w0 w : World) (o : Nat) (bs : List UInt8) : Prop where
  row : ∃ v, Blk w o 43 #[v] ∧ w.ownsRow w0.heap.size 5 1 v bs.length (bcs bs)
  bel : Below w0.heap.size w0 w
  base : w0.heap.size ≤ o
theorem OutAt.new {w0 w w' : World} {o : Nat} {bs : List UInt8} (h : OutAt w0 w o bs) (hb : Below w.heap.size w w') : OutAt w0 w' o bs := by
  obtain ⟨v, h1, h2⟩ := h.row
  exact ⟨⟨v, h1.new' hb, row_new h2 hb⟩, h.bel.trans (hb.mono h.bel.size), h.base⟩
/-- behind an append and the store -/
theorem OutAt.push {w0 w w1 w2 : World} {o : Nat} {bs cs : List UInt8} {v v' : Value} (h1 : Blk w o 43 #[v]) (h2 : w.ownsRow w0.heap.size 5 1 v bs.length (bcs bs)) (hbel : Below w0.heap.size w0 w) (hbase : w0.heap.size ≤ o)
    (hb : Below w.heap.size w w1) (ho : w2.ownsRow w0.heap.size 5 1 v' (bs.length + cs.length) (bcs bs ++ bcs cs)) (hg : w1.grownBy w2 v.ownBlock) :
    w2.cell? ⟨o, 0, none⟩ = some v ∧ w2.frozen? ⟨o, 0, none⟩ = false ∧ o < w2.heap.size ∧ OutAt w0 (w2.setCell ⟨o, 0, none⟩ v') o (bs ++ cs) ∧ KeepsT w (w2.setCell ⟨o, 0, none⟩ v') := by
  have n0 : v.ownBlock ≠ some o := own_blk_ne (row_own h2) h1 (by decide)
  have m2 : Mod (fun i => v.ownBlock = some i) w w2 := (Mod.new hb).grown hg fun k e _ => e
  have k2 : Blk w2 o 43 #[v] := h1.mod m2 n0
  have m3 : Mod (fun i => i = o ∨ v.ownBlock = some i) w (w2.setCell ⟨o, 0, none⟩ v') := (m2.mono fun i _ h => .inr h).setCell (p := ⟨o, 0, none⟩) (fun _ => .inl rfl) _
  have hz : w0.heap.size ≤ w.heap.size := hbel.size
  refine ⟨k2.cell 0, k2.frozen 0, k2.lt, ⟨⟨v', k2.set_ 0 v', ?_⟩, hbel.trans (m3.below hz fun i hi h => ?_), hbase⟩, KeepsT.mod h1 (row_own h2) m3⟩
  · rw [List.length_append, bcs_append]
    exact row_keep ho fun b e => Below.heap_setCell _ _ _ _ (by
      rintro rfl
      exact own_blk_ne (row_own ho) k2 (by decide) e)
  · rcases h with rfl | h
    · omega
    · have := row_base h2 h
      omega
/-- what a writing call does: cs more, or it gives up by x -/
def Wrote (w0 w : World) (o : Nat) (bs : List UInt8) (r : Except Int (List UInt8)) (e : Ending) (w' : World) : Prop :=
  KeepsT w w' ∧ Below w0.heap.size w0 w' ∧ match r with
    | .ok cs => e = .returned (.tuple #[]) ∧ OutAt w0 w' o (bs ++ cs)
    | .error x => e = .panicked [{ v := .iface 24 (.int .i64 x), recovered := false }]

set_option maxHeartbeats 400000 in
theorem need_yes (x : Int) (w : World) : Calls Tryd.prog 37 #[.bool true, .int .i64 x] w fun e w' => e = .returned (.tuple #[]) ∧ w' = w := by
  go_enter Tryd.func37, Tryd.ntmps37
  go_wp2
  go_end0
  exact ⟨rfl, rfl⟩
set_option maxHeartbeats 400000 in
theorem need_no (x : Int) (w : World) : Calls Tryd.prog 37 #[.bool false, .int .i64 x] w fun e w' => e = .panicked [{ v := .iface 24 (.int .i64 x), recovered := false }] ∧ w' = w := by
  go_enter Tryd.func37, Tryd.ntmps37
  go_wp2
  exact ⟨rfl, rfl, rfl⟩

/-- a number's bytes -/
def numB (n : Nat) : List UInt8 := if 127 < n then UInt8.ofNat (n % 128 + 128) :: numB (n / 128) else [UInt8.ofNat n]
termination_by n
theorem numB_hi {n : Nat} (h : 127 < n) : numB n = UInt8.ofNat (n % 128 + 128) :: numB (n / 128) := by rw [numB, if_pos h]
theorem numB_lo {n : Nat} (h : ¬ 127 < n) : numB n = [UInt8.ofNat n] := by rw [numB, if_neg h]
theorem numB_len {n k : Nat} (hk : 1 ≤ k) (h : n < 128 ^ k) : (numB n).length ≤ k := by
  induction k generalizing n with
  | zero => omega
  | succ k ih =>
    by_cases h1 : 127 < n
    · rw [numB_hi h1, List.length_cons]
      rcases Nat.eq_zero_or_pos k with rfl | hk'
      · omega
      · have := ih hk' (n := n / 128) (Nat.div_lt_of_lt_mul (by rw [Nat.pow_succ] at h; omega))
        omega
    · rw [numB_lo h1]; simp
def numE (n : Int) : Except Int (List UInt8) := if 0 ≤ n ∧ n ≤ 2147483647 then .ok (numB n.toNat) else .error 1
set_option maxRecDepth 100000 in
theorem or128 (k : Nat) : (k ||| 128) % 256 = k % 128 + 128 := by
  have h1 : (k ||| 128) % 256 = (k % 256) ||| 128 := by
    apply Nat.eq_of_testBit_eq
    intro i
    rw [show (256 : Nat) = 2 ^ 8 from rfl, Nat.testBit_mod_two_pow, Nat.testBit_or, Nat.testBit_or, Nat.testBit_mod_two_pow]
    by_cases hi : i < 8
    · simp [hi]
    · simp only [hi, decide_false, Bool.false_and, Bool.false_or]
      symm
      apply Nat.testBit_lt_two_pow
      exact Nat.lt_of_lt_of_le (by decide : 128 < 2 ^ 8) (Nat.pow_le_pow_right (by decide) (by omega))
  rw [h1]
  have h2 : k % 128 = (k % 256) % 128 := by omega
  rw [h2]
  have h3 : k % 256 < 256 := Nat.mod_lt _ (by decide)
  generalize k % 256 = j at h3
  revert h3
  revert j
  decide

theorem or_in (k : Nat) (hk : k ≤ 2147483647) : bits BinOp.or .i64 (k : Int) 128 = ((k ||| 128 : Nat) : Int) := by
  have h1 : (BitVec.ofInt 64 (k : Int)).toNat = k := by rw [BitVec.ofInt_natCast, BitVec.toNat_ofNat]; exact Nat.mod_eq_of_lt (by omega)
  have h2 : (BitVec.ofInt 64 (128 : Int)).toNat = 128 := rfl
  have h3 : (BitVec.ofInt 64 (k : Int) ||| BitVec.ofInt 64 (128 : Int)).toNat = k ||| 128 := by rw [BitVec.toNat_or, h1, h2]
  have h4 : k ||| 128 < 2 ^ 31 := Nat.or_lt_two_pow (by omega) (by omega)
  show IntKind.i64.wrap ((BitVec.ofInt 64 (k : Int) ||| BitVec.ofInt 64 (128 : Int)).toNat : Int) = _
  rw [h3]
  exact wrap_nat (by omega)
theorem orB {k : Nat} (hk : k ≤ 2147483647) : bits BinOp.or .i64 (k : Int) 128 % 256 = ((UInt8.ofNat (k % 128 + 128)).toNat : Int) := by
  rw [or_in k hk]
  have := or128 k
  have h2 : (UInt8.ofNat (k % 128 + 128)).toNat = k % 128 + 128 := by
    rw [UInt8.toNat_ofNat']
    omega
  rw [h2]
  omega

set_option maxRecDepth 100000 in
set_option maxHeartbeats 1000000 in
theorem number_any {w0 w : World} {o : Nat} {bs : List UInt8} (h : OutAt w0 w o bs) (hl : bs.length + 5 ≤ 100000000000000) (n : Int) :
    Calls Tryd.prog 38 #[.pointer (some ⟨o, 0, none⟩), .int .i64 n] w (Wrote w0 w o bs (numE n)) := by
  obtain ⟨i0, hi, hz0, hz1, hz2⟩ := info_parts info_B
  have HI := Lib.hid (And.intro hi (And.intro hz0 (And.intro hz1 hz2)))
  clear hi hz0 hz1 hz2
  by_cases hn : 0 ≤ n ∧ n ≤ 2147483647
  · obtain ⟨k0, rfl⟩ : ∃ k0 : Nat, n = k0 := ⟨n.toNat, by omega⟩
    have hk0 : k0 ≤ 2147483647 := by omega
    have hr : numE k0 = .ok (numB k0) := by simp [numE]; omega
    rw [hr]
    have hlen : (numB k0).length ≤ 5 := numB_len (by omega) (by simp; omega)
    have H0 := Lib.hid h
    clear h hr hn
    have hd1 : decide ((0 : Int) ≤ (k0 : Int)) = true := decide_eq_true (by omega)
    have hd2 : decide ((k0 : Int) ≤ 2147483647) = true := decide_eq_true (by omega)
    go_enter Tryd.func38, Tryd.ntmps38
    go_wp2_with fail
    refine (need_yes 1 _).mono ?_
    rintro e w1 ⟨rfl, rfl⟩
    clear hd1 hd2
    go_wp2_with fail
    go_loopw [1] (fun i wr => ∃ (k : Nat) (done : List UInt8), k ≤ 2147483647 ∧ i = .int .i64 k ∧ numB k0 = done ++ numB k ∧ OutAt w0 wr o (bs ++ done) ∧ KeepsT w1 wr) (fun i _ => (intOf i).toNat)
    case atStart => exact ⟨k0, [], hk0, rfl, rfl, by rw [List.append_nil]; exact H0.out, KeepsT.refl _⟩
    case round =>
      obtain ⟨k, done, hk, rfl, hd, hO, hK⟩ := hrel
      obtain ⟨v, hb1, hb2⟩ := hO.row
      rw [List.length_append] at hb2
      obtain ⟨A, c, rfl, -, -⟩ := Own.rd (row_own hb2)
      have hbz := hO.bel.size
      have q0 := hb1.cell 0
      simp only [List.getElem?_toArray, List.getElem?_cons_zero] at q0
      have hlo := hb1.lt
      have hO' := Lib.hid hO
      by_cases hgt : 127 < k
      · obtain ⟨y, hy⟩ : ∃ y : UInt8, y = UInt8.ofNat (k % 128 + 128) := ⟨_, rfl⟩
        have hor := orB hk
        have HN := numB_hi hgt
        rw [← hy] at hor HN
        have HN := Lib.hid HN
        have hlk : done.length + 1 ≤ 5 := by rw [hd, HN.out] at hlen; simp at hlen; omega
        clear hy
        go_wp2_with (at_builtin; refine wpList_append_own _ rfl (.tmp 19) (.tmp 23) 30 rfl w0.heap.size 5 i0 _ 1 1 Tryd.underlying30 HI.out.1 HI.out.2.1 HI.out.2.2.1 HI.out.2.2.2 rfl (by decide) (.slice A (bs.length + done.length) c) (bs.length + done.length) (bcs (bs ++ done)) rfl (by exact row_new hb2 (by repeat (first | exact Below.refl _ _ | assumption | refine Below.setCell ?_ (by first | (simp; done) | (simp; omega) | omega) _ | refine below_drewN ?_ _ | refine Below.drew ?_ | refine Below.alloc ?_ (by first | (simp; done) | (simp; omega) | omega) _))) ⟨wr.heap.size, 0, none⟩ 1 1 (bcs [y]) rfl rfl (by exact one_at wr y) (bcs_oneCell _) (by simp only [maxLen]; omega) (by omega) (by simp; omega) ?_; intro v6 w6 ho6 hg6 _; obtain ⟨A6, c6, rfl, -, -⟩ := Own.rd (row_own ho6); obtain ⟨p6, f6, l6, hO6, hK6⟩ := OutAt.push (cs := [y]) hb1 (by rw [List.length_append]; exact hb2) hO'.out.bel hO'.out.base (by repeat (first | exact Below.refl _ _ | assumption | refine Below.setCell ?_ (by first | (simp; done) | (simp; omega) | omega) _ | refine below_drewN ?_ _ | refine Below.drew ?_ | refine Below.alloc ?_ (by first | (simp; done) | (simp; omega) | omega) _)) (by rw [List.length_append]; exact ho6) hg6; have HO6 := Lib.hid hO6; have HK6 := Lib.hid (hK.trans hK6); clear ho6 hg6 hO6 hK6)
        go_roundw
        case rel => exact ⟨k / 128, done ++ [y], by omega, by go_num, by rw [hd, HN.out, List.append_assoc]; rfl, by rw [← List.append_assoc]; exact HO6.out, HK6.out⟩
        case measure => simp [intOf]; omega
      · obtain ⟨y, hy⟩ : ∃ y : UInt8, y = UInt8.ofNat k := ⟨_, rfl⟩
        have hyk : (y.toNat : Int) = (k : Int) := by rw [hy, UInt8.toNat_ofNat']; omega
        have HN := numB_lo hgt
        rw [← hy] at HN
        have HN := Lib.hid HN
        have hlk : done.length + 1 ≤ 5 := by rw [hd, HN.out] at hlen; simp at hlen; omega
        clear hy
        have ho1 := one_at wr y
        rw [hyk] at ho1
        have HO1 := Lib.hid ho1
        clear ho1 hyk
        go_wp2_with (at_builtin; refine wpList_append_own _ rfl (.tmp 31) (.tmp 34) 30 rfl w0.heap.size 5 i0 _ 1 1 Tryd.underlying30 HI.out.1 HI.out.2.1 HI.out.2.2.1 HI.out.2.2.2 rfl (by decide) (.slice A (bs.length + done.length) c) (bs.length + done.length) (bcs (bs ++ done)) rfl (by exact row_new hb2 (by repeat (first | exact Below.refl _ _ | assumption | refine Below.setCell ?_ (by first | (simp; done) | (simp; omega) | omega) _ | refine below_drewN ?_ _ | refine Below.drew ?_ | refine Below.alloc ?_ (by first | (simp; done) | (simp; omega) | omega) _))) ⟨wr.heap.size, 0, none⟩ 1 1 (bcs [y]) rfl rfl (by exact HO1.out) (bcs_oneCell _) (by simp only [maxLen]; omega) (by omega) (by simp; omega) ?_; intro v6 w6 ho6 hg6 _; obtain ⟨A6, c6, rfl, -, -⟩ := Own.rd (row_own ho6); obtain ⟨p6, f6, l6, hO6, hK6⟩ := OutAt.push (cs := [y]) hb1 (by rw [List.length_append]; exact hb2) hO'.out.bel hO'.out.base (by repeat (first | exact Below.refl _ _ | assumption | refine Below.setCell ?_ (by first | (simp; done) | (simp; omega) | omega) _ | refine below_drewN ?_ _ | refine Below.drew ?_ | refine Below.alloc ?_ (by first | (simp; done) | (simp; omega) | omega) _)) (by rw [List.length_append]; exact ho6) hg6; have HO6 := Lib.hid hO6; have HK6 := Lib.hid (hK.trans hK6); clear ho6 hg6 hO6 hK6)
        go_end0
        refine ⟨HK6.out, HO6.out.bel, rfl, ?_⟩
        rw [hd, HN.out, ← List.append_assoc]
        exact HO6.out
  · have hr : numE n = .error 1 := by simp only [numE, if_neg hn]
    rw [hr]
    have hbel := h.bel
    clear hr h
    rcases (show n < 0 ∨ 0 ≤ n by omega) with h0 | h0
    · have hd1 : decide ((0 : Int) ≤ n) = false := decide_eq_false (by omega)
      go_enter Tryd.func38, Tryd.ntmps38
      go_wp2_with fail
      refine (need_no 1 _).mono ?_
      rintro e w1 ⟨rfl, rfl⟩
      exact ⟨rfl, KeepsT.refl _, hbel, rfl⟩
    · have hd1 : decide ((0 : Int) ≤ n) = true := decide_eq_true h0
      have hd2 : decide (n ≤ 2147483647) = false := decide_eq_false (by omega)
      go_enter Tryd.func38, Tryd.ntmps38
      go_wp2_with fail
      refine (need_no 1 _).mono ?_
      rintro e w1 ⟨rfl, rfl⟩
      exact ⟨rfl, KeepsT.refl _, hbel, rfl⟩
end Go.Proofs.YtcfelfhjhkenaaaDoor
