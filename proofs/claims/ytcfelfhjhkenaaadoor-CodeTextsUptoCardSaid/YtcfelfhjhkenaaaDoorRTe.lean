/- The reference's Text: the walk. -/
import Derived.Test.YtcfelfhjhkenaaaDoorDec
import Derived.Test.YtcfelfhjhkenaaaDoorRCn
import Derived.Test.YtcfelfhjhkenaaaDoorLNa
namespace Go.Proofs.YtcfelfhjhkenaaaDoor
open Go.RowKit
set_option linter.unusedVariables false
set_option linter.unusedSimpArgs false
attribute [local go_sem] Oper.semAt_some

theorem step_append_str {P : Program} {w : World} {ops : Array Oper} {o : Oper} {a : Act} {K : Act → World → Prop} {Q : Exit → Act → World → Prop} {E : Prop} (hgd : o.guard = none) (sl x : Operand) (t u : TypeId)
    (ho : o.op = .call { callee := .builtin .append, args := #[sl, x], argTypes := #[t, u] })
    (base : Nat) (e : TypeId) (i : TypeInfo) (ht : P.underlying t = some (.slice e)) (hu : P.underlying u = some .string) (hi : P.info? e = some i) (hz : i.zero = some (.int .u8 0))
    (hsize : i.size = 1) (hby : i.bytes = 1)
    (v : Value) (n : Nat) (xs : List Value) (hs : a.eval sl = v) (hown : w.ownsRow base e 1 v n xs) (s : ByteArray) (hx : a.eval x = .string s)
    (h63 : n + s.size ≤ maxLen) (hbytes : n + s.size ≤ 140737488355328) (hbase : base ≤ w.heap.size)
    (h : ∀ v' w', w'.ownsRow base e 1 v' (n + s.size) (xs ++ Lib.strCells s) → w.grownBy w' v.ownBlock → (v' = .slice none 0 0 ↔ v = .slice none 0 0 ∧ s.size = 0) → K (a.put o.dst v') w') :
    if Region.wanted o (yielded ops a.tmps) = true then Oper.wp P o a w K Q else E := by
  have hw : Region.wanted o (yielded ops a.tmps) = true := by simp [Region.wanted, hgd]
  rw [if_pos hw]
  obtain ⟨v', w', hr, h2, h3, h4⟩ := Lib.run_append_own_string (P := P) w base t u o.type e i ht hu hi hz hsize hby v n xs hown s h63 hbytes hbase
  unfold Oper.wp execOp
  simp only [ho, resolve, invoke, builtin, Sem.run_bind, Sem.run_pure, Result.andThen_ok, List.map_toArray, List.map_cons, List.map_nil, hs, hx, hr]
  exact h v' w' h2 h3 h4

/-- bytes of one's own, made since w0 -/
structure Ob (w0 w : World) (v : Value) (l : List UInt8) : Prop where
  row : NewB w0.heap.size w v l
  bel : Below w0.heap.size w0 w
theorem Ob.new {w0 w w' : World} {v : Value} {l : List UInt8} (h : Ob w0 w v l) (hb : Below w.heap.size w w') : Ob w0 w' v l := ⟨h.row.new hb, h.bel.trans (hb.mono h.bel.size)⟩
theorem Ob.str {w0 w w' : World} {v v' : Value} {l : List UInt8} {s : ByteArray} (h : Ob w0 w v l) (ho : w'.ownsRow w0.heap.size 5 1 v' (l.length + s.size) (bcs l ++ Lib.strCells s)) (hg : w.grownBy w' v.ownBlock) : Ob w0 w' v' (l ++ s.data.toList) :=
  ⟨by unfold NewB; rw [List.length_append, bcs_append, sizeB]; exact ho, h.row.grown h.bel h.bel.size hg⟩
theorem Ob.one {w0 w w' : World} {v v' : Value} {l : List UInt8} {y : UInt8} (h : Ob w0 w v l) (ho : w'.ownsRow w0.heap.size 5 1 v' (l.length + 1) (bcs l ++ bcs [y])) (hg : w.grownBy w' v.ownBlock) : Ob w0 w' v' (l ++ [y]) :=
  ⟨by unfold NewB; rw [List.length_append, bcs_append]; exact ho, h.row.grown h.bel h.bel.size hg⟩
theorem Ob.keeps {w0 w w' : World} {v : Value} {l : List UInt8} {g : Nat} {t : TypeId} {cs : Array Value} (h : Ob w0 w v l) (hb : Blk w g t cs) (ht : 5 ≠ t) (hg : w.grownBy w' v.ownBlock) : Blk w' g t cs :=
  hb.grown hg fun e => own_blk_ne (row_own h.row) hb ht e.symm
theorem Ob.shape {w0 w : World} {v : Value} {l : List UInt8} (h : Ob w0 w v l) : ∃ A c, v = .slice A l.length c := by
  obtain ⟨A, c, e, _, _⟩ := Own.rd (row_own h.row)
  exact ⟨A, c, e⟩
theorem conv_nil (w : World) : (convert 30 9 (.slice none 0 0)).run Tryd.prog w = .ok (.string (bstr [])) w := by kernel_rfl
theorem conv_nil' (w : World) (g c : Nat) : (convert 30 9 (.slice (some ⟨g, 0, none⟩) 0 c)).run Tryd.prog w = .ok (.string (bstr [])) w := by kernel_rfl
theorem Ob.text {w0 w : World} {A : Option Addr} {c : Nat} {l : List UInt8} (h : Ob w0 w (.slice A l.length c) l) : (convert 30 9 (.slice A l.length c)).run Tryd.prog w = .ok (.string (bstr l)) w := by
  by_cases h0 : 0 < l.length
  · obtain ⟨A', c', e, r, _⟩ := Own.rd (row_own h.row)
    cases e
    exact conv_rd r h0
  · have : l = [] := List.eq_nil_of_length_eq_zero (by omega)
    subst this
    rcases h.row.2 with ⟨e, _⟩ | ⟨g, cap, cur, e, _⟩
    · cases e
      exact conv_nil w
    · cases e
      exact conv_nil' w _ _

theorem one_ten (w : World) : ∀ j u, (bcs [10])[j]? = some u → (w.alloc (.cells #[.int .u8 10] 5)).cell? ((⟨w.heap.size, 0, none⟩ : Addr).add j) = some u := one_at w 10

set_option maxRecDepth 100000 in
set_option maxHeartbeats 8000000 in
theorem rtext_prog (w : World) {A : Option Addr} {n c : Nat} {p : List CodeD} (h : ProgAt w A n c p) (hp : ∀ x ∈ p, x.Num) (hl : (textT p).length ≤ 140737488355328) (hn : n ≤ 9223372036854775806) :
    Calls Tryd.prog 17 #[.slice A n c] w fun e w' => e = .returned (.string (bstr (textT p))) ∧ Below w.heap.size w w' := by
  obtain ⟨i0, hi, hz0, hz1, hz2⟩ := info_parts info_B
  have HI := Lib.hid (And.intro hi (And.intro hz0 (And.intro hz1 hz2)))
  have hln := h.1
  have H := Lib.hid h
  have HP := Lib.hid hp
  have HL := Lib.hid hl
  clear h hp hl hi hz0 hz1 hz2
  go_enter Tryd.func17, Tryd.ntmps17
  go_wp2_with fail
  go_loopw [3, 4] (fun v i wr => ∃ k : Nat, k ≤ n ∧ i = .int .i64 k ∧ Ob w wr v (numbered codeT 0 (p.take k))) (fun _ i _ => n - (intOf i).toNat)
  case atStart => exact ⟨0, by omega, rfl, ⟨rfl, .inr ⟨w.heap.size, 0, #[], rfl, Nat.le_refl _, heap_alloc_new w _, Nat.le_refl _, by decide, rfl, rfl⟩⟩, (by repeat (first | exact Below.refl _ _ | assumption | refine Below.setCell ?_ (by first | (simp; done) | (simp; omega) | omega) _ | refine below_drewN ?_ _ | refine Below.drew ?_ | refine Below.alloc ?_ (by first | (simp; done) | (simp; omega) | omega) _))⟩
  case round =>
    obtain ⟨k, hk, rfl, hB⟩ := hrel
    obtain ⟨L, hL⟩ : ∃ L, L = numbered codeT 0 (p.take k) := ⟨_, rfl⟩
    rw [← hL] at hB
    have HLK := Lib.hid hL
    clear hL
    have HB := Lib.hid hB
    have hbel := hB.bel
    have hwz := hbel.size
    obtain ⟨Av, cv, rfl⟩ := hB.shape
    by_cases hlt : k < n
    · obtain ⟨x, hx⟩ : ∃ x, p[k]? = some x := ⟨_, List.getElem?_eq_getElem (by rw [hln]; exact hlt)⟩
      obtain ⟨be, oe, cs, rfl, hbe, hcs, hce⟩ := H.out.at_ hx
      obtain ⟨htk, hsp⟩ := take_snoc hx
      have HNUM := Lib.hid (HP.out x (List.mem_of_getElem? hx))
      obtain ⟨A1, n1, c1, A2, n2, c2, A3, n3, c3, A4, n4, c4, A5, n5, c5, A6, n6, c6, rfl, -, -, -, -, -, h6⟩ := hcs.parts
      have H6 := Lib.hid h6
      have HX := Lib.hid (show numbered codeT 0 (p.take (k + 1)) = L ++ codeT k x by rw [HLK.out, htk, numbered_snoc, List.length_take, Nat.zero_add, Nat.min_eq_left (by omega)])
      have HLX : Hid (L.length + (codeT k x).length ≤ 140737488355328) := Lib.hid (by
        have := HL.out
        rw [HLK.out]
        rw [textT, hsp, numbered_split, numbered, List.length_append, List.length_append, Nat.zero_add, List.length_take, Nat.min_eq_left (by omega)] at this
        omega)
      obtain ⟨nm, kd, pa, de, ge, lo, ce, fr, na, co, is⟩ := x
      clear HLK
      have e0 : wr.cell? ⟨be, oe + k * 11, none⟩ = some (.string nm) := (hbel.cell (p := ⟨be, oe + k * 11, none⟩) hbe).trans (hce 0 _ rfl)
      have e1 : wr.cell? ⟨be, oe + k * 11 + 1, none⟩ = some (.int .i64 kd) := (hbel.cell (p := ⟨be, oe + k * 11 + 1, none⟩) hbe).trans (hce 1 _ rfl)
      have e2 : wr.cell? ⟨be, oe + k * 11 + 2, none⟩ = some (.int .i64 pa) := (hbel.cell (p := ⟨be, oe + k * 11 + 2, none⟩) hbe).trans (hce 2 _ rfl)
      have e3 : wr.cell? ⟨be, oe + k * 11 + 3, none⟩ = some (.int .i64 de) := (hbel.cell (p := ⟨be, oe + k * 11 + 3, none⟩) hbe).trans (hce 3 _ rfl)
      have e4 : wr.cell? ⟨be, oe + k * 11 + 4, none⟩ = some (.bool ge) := (hbel.cell (p := ⟨be, oe + k * 11 + 4, none⟩) hbe).trans (hce 4 _ rfl)
      have e5 : wr.cell? ⟨be, oe + k * 11 + 5, none⟩ = some (.slice A1 n1 c1) := (hbel.cell (p := ⟨be, oe + k * 11 + 5, none⟩) hbe).trans (hce 5 _ rfl)
      have e6 : wr.cell? ⟨be, oe + k * 11 + 6, none⟩ = some (.slice A2 n2 c2) := (hbel.cell (p := ⟨be, oe + k * 11 + 6, none⟩) hbe).trans (hce 6 _ rfl)
      have e7 : wr.cell? ⟨be, oe + k * 11 + 7, none⟩ = some (.slice A3 n3 c3) := (hbel.cell (p := ⟨be, oe + k * 11 + 7, none⟩) hbe).trans (hce 7 _ rfl)
      have e8 : wr.cell? ⟨be, oe + k * 11 + 8, none⟩ = some (.slice A4 n4 c4) := (hbel.cell (p := ⟨be, oe + k * 11 + 8, none⟩) hbe).trans (hce 8 _ rfl)
      have e9 : wr.cell? ⟨be, oe + k * 11 + 9, none⟩ = some (.slice A5 n5 c5) := (hbel.cell (p := ⟨be, oe + k * 11 + 9, none⟩) hbe).trans (hce 9 _ rfl)
      have e10 : wr.cell? ⟨be, oe + k * 11 + 10, none⟩ = some (.slice A6 n6 c6) := (hbel.cell (p := ⟨be, oe + k * 11 + 10, none⟩) hbe).trans (hce 10 _ rfl)
      have hbr : be < wr.heap.size := by omega
      have hb4 : Below wr.heap.size wr (wr.alloc (.cells #[.string nm, .int .i64 kd, .int .i64 pa, .int .i64 de, .bool ge, .slice A1 n1 c1, .slice A2 n2 c2, .slice A3 n3 c3, .slice A4 n4 c4, .slice A5 n5 c5, .slice A6 n6 c6] 49)) := (by repeat (first | exact Below.refl _ _ | assumption | refine Below.setCell ?_ (by first | (simp; done) | (simp; omega) | omega) _ | refine below_drewN ?_ _ | refine Below.drew ?_ | refine Below.alloc ?_ (by first | (simp; done) | (simp; omega) | omega) _))
      have HB4 := Lib.hid (hB.new hb4)
      have HV4 := Lib.hid (Blk.new wr 49 #[.string nm, .int .i64 kd, .int .i64 pa, .int .i64 de, .bool ge, .slice A1 n1 c1, .slice A2 n2 c2, .slice A3 n3 c3, .slice A4 n4 c4, .slice A5 n5 c5, .slice A6 n6 c6])
      have HBW := Lib.hid (hbel.trans (hb4.mono hwz))
      have hk64 : I64 (k : Int) := ⟨by omega, by omega⟩
      have HN1 : Hid (I64 kd) := Lib.hid HNUM.out.1
      have HN2 : Hid (I64 pa) := Lib.hid HNUM.out.2.1
      have HN3 : Hid (I64 de) := Lib.hid HNUM.out.2.2.1
      have HN4 : Hid (∀ x ∈ is, I64 x.2) := Lib.hid HNUM.out.2.2.2
      have HK64 := Lib.hid hk64
      clear hB hx hce htk hsp hcs h6 hbel hb4 hk64 HB HNUM
      go_wp2_with fail
      generalize wr.alloc (.cells #[.string nm, .int .i64 kd, .int .i64 pa, .int .i64 de, .bool ge, .slice A1 n1 c1, .slice A2 n2 c2, .slice A3 n3 c3, .slice A4 n4 c4, .slice A5 n5 c5, .slice A6 n6 c6] 49) = W4 at *
      generalize wr.heap.size = cb at *
      clear e0 e1 e2 e3 e4 e5 e6 e7 e8 e9 e10
      have q0 := HV4.out.cell 0
      have q1 := HV4.out.cell 1
      have q2 := HV4.out.cell 2
      have q3 := HV4.out.cell 3
      simp only [List.getElem?_toArray, List.getElem?_cons_zero, List.getElem?_cons_succ] at q0 q1 q2 q3
      obtain ⟨I1, hI1⟩ : ∃ I, I = bstr (Lib.itoa (k : Int)) := ⟨_, rfl⟩
      obtain ⟨I2, hI2⟩ : ∃ I, I = bstr (Lib.itoa kd) := ⟨_, rfl⟩
      obtain ⟨I3, hI3⟩ : ∃ I, I = bstr (Lib.itoa pa) := ⟨_, rfl⟩
      obtain ⟨I4, hI4⟩ : ∃ I, I = bstr (Lib.itoa de) := ⟨_, rfl⟩
      have K1 : Hid (∀ w, Calls Tryd.prog 33 #[.int .i64 k] w fun e w' => e = .returned (.string I1) ∧ Below w.heap.size w w') := Lib.hid fun w => hI1 ▸ decimal_any (k : Int) HK64.out w
      have K2 : Hid (∀ w, Calls Tryd.prog 33 #[.int .i64 kd] w fun e w' => e = .returned (.string I2) ∧ Below w.heap.size w w') := Lib.hid fun w => hI2 ▸ decimal_any kd HN1.out w
      have K3 : Hid (∀ w, Calls Tryd.prog 33 #[.int .i64 pa] w fun e w' => e = .returned (.string I3) ∧ Below w.heap.size w w') := Lib.hid fun w => hI3 ▸ decimal_any pa HN2.out w
      have K4 : Hid (∀ w, Calls Tryd.prog 33 #[.int .i64 de] w fun e w' => e = .returned (.string I4) ∧ Below w.heap.size w w') := Lib.hid fun w => hI4 ▸ decimal_any de HN3.out w
      have hhead : headT k ⟨nm, kd, pa, de, ge, lo, ce, fr, na, co, is⟩ = ((⟨#[99, 111, 100, 101, 32]⟩ : ByteArray) ++ I1 ++ ⟨#[32]⟩ ++ nm ++ ⟨#[32, 107, 105, 110, 100, 32]⟩ ++ I2 ++ ⟨#[32, 112, 97, 114, 97, 109, 115, 32]⟩ ++ I3 ++ ⟨#[32, 100, 101, 102, 97, 117, 108, 116, 115, 32]⟩ ++ I4).data.toList := by
        rw [hI1, hI2, hI3, hI4]
        simp [headT, ByteArray.data_append, bstr]
      have hhl : (headT k ⟨nm, kd, pa, de, ge, lo, ce, fr, na, co, is⟩).length = 5 + I1.size + 1 + nm.size + 6 + I2.size + 8 + I3.size + 10 + I4.size := by
        rw [hhead, sizeB]
        simp only [ByteArray.size_append, ByteArray.size_mk', List.size_toArray, List.length_cons, List.length_nil]
      have hbig : L.length + (headT k ⟨nm, kd, pa, de, ge, lo, ce, fr, na, co, is⟩).length ≤ 140737488355328 := by
        have := HLX.out
        simp only [codeT, List.length_append] at this
        omega
      have hsz : ((⟨#[99, 111, 100, 101, 32]⟩ : ByteArray) ++ I1 ++ ⟨#[32]⟩ ++ nm ++ ⟨#[32, 107, 105, 110, 100, 32]⟩ ++ I2 ++ ⟨#[32, 112, 97, 114, 97, 109, 115, 32]⟩ ++ I3 ++ ⟨#[32, 100, 101, 102, 97, 117, 108, 116, 115, 32]⟩ ++ I4).size = (headT k ⟨nm, kd, pa, de, ge, lo, ce, fr, na, co, is⟩).length := by rw [hhead, sizeB]
      have HHEAD := Lib.hid hhead
      have HLEN1 : Hid (L.length + ((⟨#[99, 111, 100, 101, 32]⟩ : ByteArray) ++ I1 ++ ⟨#[32]⟩ ++ nm ++ ⟨#[32, 107, 105, 110, 100, 32]⟩ ++ I2 ++ ⟨#[32, 112, 97, 114, 97, 109, 115, 32]⟩ ++ I3 ++ ⟨#[32, 100, 101, 102, 97, 117, 108, 116, 115, 32]⟩ ++ I4).size ≤ 140737488355328) := Lib.hid (by rw [hsz]; exact hbig)
      rw [hhl] at hbig
      have nn1 : ¬ 9223372036854775807 < 5 + I1.size := by omega
      have nn2 : ¬ 9223372036854775807 < 5 + I1.size + 1 := by omega
      have nn3 : ¬ 9223372036854775807 < 5 + I1.size + 1 + nm.size := by omega
      have nn4 : ¬ 9223372036854775807 < 5 + I1.size + 1 + nm.size + 6 := by omega
      have nn5 : ¬ 9223372036854775807 < 5 + I1.size + 1 + nm.size + 6 + I2.size := by omega
      have nn6 : ¬ 9223372036854775807 < 5 + I1.size + 1 + nm.size + 6 + I2.size + 8 := by omega
      have nn7 : ¬ 9223372036854775807 < 5 + I1.size + 1 + nm.size + 6 + I2.size + 8 + I3.size := by omega
      have nn8 : ¬ 9223372036854775807 < 5 + I1.size + 1 + nm.size + 6 + I2.size + 8 + I3.size + 10 := by omega
      have nn9 : ¬ 9223372036854775807 < 5 + I1.size + 1 + nm.size + 6 + I2.size + 8 + I3.size + 10 + I4.size := by omega
      clear hI1 hI2 hI3 hI4 hhead hhl hbig hsz
      have hcl := HV4.out.lt
      have HD4 : Hid (Below W4.heap.size W4 W4.drew) := Lib.hid (by repeat (first | exact Below.refl _ _ | assumption | refine Below.setCell ?_ (by first | (simp; done) | (simp; omega) | omega) _ | refine below_drewN ?_ _ | refine Below.drew ?_ | refine Below.alloc ?_ (by first | (simp; done) | (simp; omega) | omega) _))
      have HALL : Hid (∀ w', Below W4.heap.size W4 w' → (fun w' => w'.cell? ⟨cb, 0, none⟩ = some (.string nm) ∧ w'.cell? ⟨cb, 1, none⟩ = some (.int .i64 kd) ∧ w'.cell? ⟨cb, 2, none⟩ = some (.int .i64 pa) ∧ w'.cell? ⟨cb, 3, none⟩ = some (.int .i64 de)) w') := Lib.hid fun w' hb => ⟨(HV4.out.new' hb).cell 0, (HV4.out.new' hb).cell 1, (HV4.out.new' hb).cell 2, (HV4.out.new' hb).cell 3⟩
      go_region_held3 (fun w' => w'.cell? ⟨cb, 0, none⟩ = some (.string nm) ∧ w'.cell? ⟨cb, 1, none⟩ = some (.int .i64 kd) ∧ w'.cell? ⟨cb, 2, none⟩ = some (.int .i64 pa) ∧ w'.cell? ⟨cb, 3, none⟩ = some (.int .i64 de)) (first | exact HK5.out | exact HK6.out | exact HK7.out | exact HK8.out | exact HS9.out | go_keep)
        (first
          | (have hg8 := HB8.out; refine step_append_str rfl (.tmp 19) (.tmp 41) 30 9 rfl w.heap.size 5 i0 Tryd.underlying30 und9 HI.out.1 HI.out.2.1 HI.out.2.2.1 HI.out.2.2.2 (.slice Av L.length cv) L.length (bcs L) rfl (by exact (HB4.out.new HB8.out).row) _ rfl (by have := HLEN1.out; simp only [maxLen]; omega) HLEN1.out (by exact (HB4.out.new HB8.out).bel.size) ?_; intro v9 w9 ho9 hg9 _; have h9 := (HB4.out.new HB8.out).str ho9 hg9; rw [← HHEAD.out] at h9; have HO9 := Lib.hid h9; clear h9; have HV9 := Lib.hid ((HB4.out.new HB8.out).keeps (HV4.out.new' HB8.out) (by decide) hg9); have HS9 := Lib.hid (And.intro (HV9.out.cell 0) (And.intro (HV9.out.cell 1) (And.intro (HV9.out.cell 2) (HV9.out.cell 3)))); clear ho9 hg9)
          | ((with_reducible refine (K1.out _).mono ?_); rintro e w5 ⟨rfl, hb5⟩; have HB5 := Lib.hid (HD4.out.trans hb5); have HK5 := Lib.hid (HALL.out _ HB5.out); clear hb5)
          | ((with_reducible refine (K2.out _).mono ?_); rintro e w6 ⟨rfl, hb6⟩; have HB6 := Lib.hid (HB5.out.trans (hb6.mono HB5.out.size)); have HK6 := Lib.hid (HALL.out _ HB6.out); clear hb6)
          | ((with_reducible refine (K3.out _).mono ?_); rintro e w7 ⟨rfl, hb7⟩; have HB7 := Lib.hid (HB6.out.trans (hb7.mono HB6.out.size)); have HK7 := Lib.hid (HALL.out _ HB7.out); clear hb7)
          | ((with_reducible refine (K4.out _).mono ?_); rintro e w8 ⟨rfl, hb8⟩; have HB8 := Lib.hid (HB7.out.trans (hb8.mono HB7.out.size)); have HK8 := Lib.hid (HALL.out _ HB8.out); clear hb8))
      clear q0 q1 q2 q3 hcl nn1 nn2 nn3 nn4 nn5 nn6 nn7 nn8 nn9 HALL HS9 K1 K2 K3 K4 HB4 HV4 HD4 HK5 HK6 HK7 HK8 HB5 HB6 HB7 HB8 HHEAD HLEN1
      
      obtain ⟨A9, c9, rfl⟩ := HO9.out.shape
      have HLS : Hid (numbered codeT 0 (p.take (k + 1)) = (L ++ headT k ⟨nm, kd, pa, de, ge, lo, ce, fr, na, co, is⟩) ++ (if ge then [32, 103, 101, 110] else []) ++ [10] ++ numbered insT 0 is) := Lib.hid (by rw [HX.out]; simp only [codeT, List.append_assoc])
      have HLB : Hid ((L ++ headT k ⟨nm, kd, pa, de, ge, lo, ce, fr, na, co, is⟩).length + (if ge then 4 else 0) + 1 + (numbered insT 0 is).length ≤ 140737488355328) := Lib.hid (by
        have := HLX.out
        simp only [codeT, List.length_append] at this ⊢
        cases ge <;> simp at this ⊢ <;> omega)
      clear HX HLX HBW
      generalize L ++ headT k ⟨nm, kd, pa, de, ge, lo, ce, fr, na, co, is⟩ = L9 at *
      have h63 := H6.out.2.le
      cases ge with
      | false =>
        simp only [if_true, if_false, Bool.false_eq_true, List.append_nil, Nat.add_zero] at HLS HLB
        have v4 := HV9.out.cell 4
        have v10 := HV9.out.cell 10
        have vl9 := HV9.out.lt
        simp only [List.getElem?_toArray, List.getElem?_cons_zero, List.getElem?_cons_succ] at v4 v10
        have hs9 := HO9.out.bel.size
        have hl9 := HLB.out
        have HW9 := Lib.hid (one_ten w9)
        clear HLB
        go_wp2_with (at_builtin; refine wpList_append_own _ rfl (.tmp 47) (.tmp 48) 30 rfl w.heap.size 5 i0 _ 1 1 Tryd.underlying30 HI.out.1 HI.out.2.1 HI.out.2.2.1 HI.out.2.2.2 rfl (by decide) (.slice A9 (L9).length c9) (L9).length (bcs (L9)) rfl (by exact (HO9.out.new (by repeat (first | exact Below.refl _ _ | assumption | refine Below.setCell ?_ (by first | (simp; done) | (simp; omega) | omega) _ | refine below_drewN ?_ _ | refine Below.drew ?_ | refine Below.alloc ?_ (by first | (simp; done) | (simp; omega) | omega) _))).row) ⟨w9.heap.size, 0, none⟩ 1 1 (bcs [10]) rfl rfl (by exact HW9.out) (bcs_oneCell _) (by simp only [maxLen]; omega) (by omega) (by simp; omega) ?_; intro vX wX hoX hgX _; have HOX := Lib.hid ((HO9.out.new (show Below w9.heap.size w9 (w9.alloc (.cells #[.int .u8 10] 5)) from (by repeat (first | exact Below.refl _ _ | assumption | refine Below.setCell ?_ (by first | (simp; done) | (simp; omega) | omega) _ | refine below_drewN ?_ _ | refine Below.drew ?_ | refine Below.alloc ?_ (by first | (simp; done) | (simp; omega) | omega) _)))).one hoX hgX); have HVX := Lib.hid ((HO9.out.new (show Below w9.heap.size w9 (w9.alloc (.cells #[.int .u8 10] 5)) from (by repeat (first | exact Below.refl _ _ | assumption | refine Below.setCell ?_ (by first | (simp; done) | (simp; omega) | omega) _ | refine below_drewN ?_ _ | refine Below.drew ?_ | refine Below.alloc ?_ (by first | (simp; done) | (simp; omega) | omega) _)))).keeps (HV9.out.new' (by repeat (first | exact Below.refl _ _ | assumption | refine Below.setCell ?_ (by first | (simp; done) | (simp; omega) | omega) _ | refine below_drewN ?_ _ | refine Below.drew ?_ | refine Below.alloc ?_ (by first | (simp; done) | (simp; omega) | omega) _))) (by decide) hgX); clear hoX hgX)
        clear v4 v10 vl9 HV9 HO9 hs9 HW9
        have HOX' : Hid (Ob w wX vX (L9 ++ [10])) := Lib.hid HOX.out
        have HLS' : Hid (numbered codeT 0 (p.take (k + 1)) = (L9 ++ [10]) ++ numbered insT 0 is) := Lib.hid (by rw [HLS.out])
        have HLB' : Hid ((L9 ++ [10]).length + (numbered insT 0 is).length ≤ 140737488355328) := Lib.hid (by simp only [List.length_append, List.length_cons, List.length_nil]; omega)
        clear HOX HLS hl9
        generalize L9 ++ [10] = L2 at *
        go_loopw [3, 6] (fun v i wr => ∃ j : Nat, j ≤ n6 ∧ i = .int .i64 j ∧ Ob w wr v (L2 ++ numbered insT 0 (is.take j)) ∧ Blk wr cb 49 #[.string nm, .int .i64 kd, .int .i64 pa, .int .i64 de, .bool false, .slice A1 n1 c1, .slice A2 n2 c2, .slice A3 n3 c3, .slice A4 n4 c4, .slice A5 n5 c5, .slice A6 n6 c6]) (fun _ i _ => n6 - (intOf i).toNat)
        case atStart => exact ⟨0, by omega, rfl, by rw [List.take_zero, numbered, List.append_nil]; exact HOX'.out, HVX.out⟩
        case round =>
          clear HOX' HVX
          obtain ⟨j, hj, rfl, hB, hV⟩ := hrel
          obtain ⟨LJ, hLJ⟩ : ∃ L, L = L2 ++ numbered insT 0 (is.take j) := ⟨_, rfl⟩
          rw [← hLJ] at hB
          have HLJ := Lib.hid hLJ
          clear hLJ
          have hbel := hB.bel
          have hwz := hbel.size
          obtain ⟨Ar, cr, rfl⟩ := hB.shape
          by_cases hlt2 : j < n6
          · obtain ⟨v, hx⟩ : ∃ v, is[j]? = some v := ⟨_, List.getElem?_eq_getElem (by rw [H6.out.1]; exact hlt2)⟩
            have hil := H6.out.1
            obtain ⟨bi, oi, rfl, hbi, hci⟩ := H6.out.at_ (f := insCs) (m := 2) (fun _ => rfl) hx
            obtain ⟨htk, hsp⟩ := take_snoc hx
            have h64 := HN4.out v (List.mem_of_getElem? hx)
            have HJX := Lib.hid (show L2 ++ numbered insT 0 (is.take (j + 1)) = LJ ++ insT j v by rw [HLJ.out, htk, numbered_snoc, List.length_take, Nat.zero_add, Nat.min_eq_left (by omega), List.append_assoc])
            have HLI : Hid (LJ.length + (insT j v).length ≤ 140737488355328) := Lib.hid (by
              have := HLB'.out
              rw [HLJ.out, List.length_append]
              rw [hsp, numbered_split, numbered, List.length_append, List.length_append, Nat.zero_add, List.length_take, Nat.min_eq_left (by omega)] at this
              omega)
            clear htk hsp hil
            obtain ⟨vo, va⟩ := v
            have e0 : wr.cell? ⟨bi, oi + j * 2, none⟩ = some (.int .i64 vo) := (hbel.cell (p := ⟨bi, oi + j * 2, none⟩) hbi).trans (hci 0 _ rfl)
            have HCV : Hid (w.cell? ⟨bi, oi + j * 2 + 1, none⟩ = some (.int .i64 va)) := Lib.hid (hci 1 _ rfl)
            have HBI := Lib.hid hbi
            have hbr2 : bi < wr.heap.size := by omega
            have x10 := hV.cell 10
            have xl := hV.lt
            simp only [List.getElem?_toArray, List.getElem?_cons_zero, List.getElem?_cons_succ] at x10
            have HB5 := Lib.hid hB
            have HX5 := Lib.hid hV
            obtain ⟨J1, hJ1⟩ : ∃ I, I = bstr (Lib.itoa (j : Int)) := ⟨_, rfl⟩
            obtain ⟨J2, hJ2⟩ : ∃ I, I = bstr (Lib.itoa va) := ⟨_, rfl⟩
            have hj64 : I64 (j : Int) := ⟨by omega, by omega⟩
            have KJ1 : Hid (∀ w, Calls Tryd.prog 33 #[.int .i64 j] w fun e w' => e = .returned (.string J1) ∧ Below w.heap.size w w') := Lib.hid fun w => hJ1 ▸ decimal_any (j : Int) hj64 w
            have KJ2 : Hid (∀ w, Calls Tryd.prog 33 #[.int .i64 va] w fun e w' => e = .returned (.string J2) ∧ Below w.heap.size w w') := Lib.hid fun w => hJ2 ▸ decimal_any va h64 w
            have HJ1 := Lib.hid hJ1
            have HJ2 := Lib.hid hJ2
            clear hB hV hx hci h64 hj64 hJ1 hJ2
            go_wp2_with fail
            refine (rname_any vo _).mono ?_
            rintro e W6 ⟨rfl, hb6⟩
            have HB6 := Lib.hid (HB5.out.new hb6)
            have HX6 := Lib.hid (HX5.out.new' hb6)
            have e1 : W6.cell? ⟨bi, oi + j * 2 + 1, none⟩ = some (.int .i64 va) := (HB6.out.bel.cell (p := ⟨bi, oi + j * 2 + 1, none⟩) hbi).trans HCV.out
            have hz6 := hb6.size
            have hbr6 : bi < W6.heap.size := by omega
            clear hb6 e0 x10 xl hbel
            obtain ⟨NB, hNB⟩ : ∃ N : ByteArray, N = ⟨(nameB vo).toArray⟩ := ⟨_, rfl⟩
            rw [← hNB]
            have y10 := HX6.out.cell 10
            have hxl := HX6.out.lt
            simp only [List.getElem?_toArray, List.getElem?_cons_zero, List.getElem?_cons_succ] at y10
            cases he : NB.toList.isEmpty with
            | true =>
              have hnb : nameB vo = [] := by
                rw [List.isEmpty_iff, ByteArray.toList_eq, hNB] at he
                exact he
              have HNB := Lib.hid hnb
              clear hNB hnb
              have hJ1 := HJ1.out
              have hJ2 := HJ2.out
              have hline : insT j (vo, va) = ((⟨#[32, 32]⟩ : ByteArray) ++ J1 ++ ⟨#[32]⟩ ++ (⟨#[63]⟩ : ByteArray) ++ ⟨#[32]⟩ ++ J2).data.toList ++ [10] := by
                rw [hJ1, hJ2]
                have hm8 := HNB.out
                
                simp [insT, ByteArray.data_append, bstr, hm8]
              have hll : (insT j (vo, va)).length = 2 + J1.size + 1 + 1 + 1 + J2.size + 1 := by
                rw [hline, List.length_append, sizeB]
                simp only [ByteArray.size_append, ByteArray.size_mk', List.size_toArray, List.length_cons, List.length_nil]
              have hbig := HLI.out
              have hsz : ((⟨#[32, 32]⟩ : ByteArray) ++ J1 ++ ⟨#[32]⟩ ++ (⟨#[63]⟩ : ByteArray) ++ ⟨#[32]⟩ ++ J2).size = 2 + J1.size + 1 + 1 + 1 + J2.size := by simp only [ByteArray.size_append, ByteArray.size_mk', List.size_toArray, List.length_cons, List.length_nil]
              have HLEN2 : Hid (LJ.length + ((⟨#[32, 32]⟩ : ByteArray) ++ J1 ++ ⟨#[32]⟩ ++ (⟨#[63]⟩ : ByteArray) ++ ⟨#[32]⟩ ++ J2).size ≤ 140737488355328) := Lib.hid (by rw [hsz]; rw [hll] at hbig; omega)
              have HLEN3 : Hid ((LJ ++ ((⟨#[32, 32]⟩ : ByteArray) ++ J1 ++ ⟨#[32]⟩ ++ (⟨#[63]⟩ : ByteArray) ++ ⟨#[32]⟩ ++ J2).data.toList).length + 1 ≤ 140737488355328) := Lib.hid (by rw [List.length_append, sizeB, hsz]; rw [hll] at hbig; omega)
              have HLINE := Lib.hid hline
              rw [hll] at hbig
              have nn1 : ¬ 9223372036854775807 < 2 + J1.size := by omega
              have nn2 : ¬ 9223372036854775807 < 2 + J1.size + 1 := by omega
              have nn3 : ¬ 9223372036854775807 < 2 + J1.size + 1 + 1 := by omega
              have nn4 : ¬ 9223372036854775807 < 2 + J1.size + 1 + 1 + 1 := by omega
              have nn5 : ¬ 9223372036854775807 < 2 + J1.size + 1 + 1 + 1 + J2.size := by omega
              clear hJ1 hJ2 hline hll hbig hsz
              go_wp2_with fail
              clear he
              have HD6 : Hid (Below W6.heap.size W6 W6.drew) := Lib.hid (by repeat (first | exact Below.refl _ _ | assumption | refine Below.setCell ?_ (by first | (simp; done) | (simp; omega) | omega) _ | refine below_drewN ?_ _ | refine Below.drew ?_ | refine Below.alloc ?_ (by first | (simp; done) | (simp; omega) | omega) _))
              have HALL : Hid (∀ w', Below W6.heap.size W6 w' → (fun w' => w'.cell? ⟨cb, 10, none⟩ = some (.slice (some ⟨bi, oi, none⟩) n6 c6) ∧ w'.cell? ⟨bi, oi + j * 2 + 1, none⟩ = some (.int .i64 va)) w') := Lib.hid fun w' hb => ⟨(HX6.out.new' hb).cell 10, (hb.cell (p := ⟨bi, oi + j * 2 + 1, none⟩) (by omega)).trans e1⟩
              obtain ⟨BI, hBI⟩ : ∃ B, B = bi := ⟨_, rfl⟩
              go_region_held3 (fun w' => w'.cell? ⟨cb, 10, none⟩ = some (.slice (some ⟨bi, oi, none⟩) n6 c6) ∧ w'.cell? ⟨bi, oi + j * 2 + 1, none⟩ = some (.int .i64 va)) (first | exact HK7.out | exact HK8.out | exact HS9.out | go_keep)
                (first
                  | (have hg8 := HB8.out; refine step_append_str rfl (.tmp 66) (.tmp 81) 30 9 rfl w.heap.size 5 i0 Tryd.underlying30 und9 HI.out.1 HI.out.2.1 HI.out.2.2.1 HI.out.2.2.2 (.slice Ar LJ.length cr) LJ.length (bcs LJ) rfl (by exact (HB6.out.new HB8.out).row) _ rfl (by have := HLEN2.out; simp only [maxLen]; omega) HLEN2.out (by exact (HB6.out.new HB8.out).bel.size) ?_; intro v9 w9 ho9 hg9 _; have HO9 := Lib.hid ((HB6.out.new HB8.out).str ho9 hg9); have HV9 := Lib.hid ((HB6.out.new HB8.out).keeps (HX6.out.new' HB8.out) (by decide) hg9); have HS9 := Lib.hid (And.intro (HV9.out.cell 10) (show w9.cell? ⟨bi, oi + j * 2 + 1, none⟩ = some (.int .i64 va) from ((HO9.out.bel.cell (p := ⟨bi, oi + j * 2 + 1, none⟩) HBI.out).trans HCV.out))); clear ho9 hg9)
                  | ((with_reducible refine (KJ1.out _).mono ?_); rintro e w7 ⟨rfl, hb7⟩; have HB7 := Lib.hid (HD6.out.trans hb7); have HK7 := Lib.hid (HALL.out _ HB7.out); clear hb7)
                  | ((with_reducible refine (KJ2.out _).mono ?_); rintro e w8 ⟨rfl, hb8⟩; have HB8 := Lib.hid (HB7.out.trans (hb8.mono HB7.out.size)); have HK8 := Lib.hid (HALL.out _ HB8.out); clear hb8))
              clear hBI
              have HJX2 : Hid (L2 ++ numbered insT 0 (is.take (j + 1)) = LJ ++ ((⟨#[32, 32]⟩ : ByteArray) ++ J1 ++ ⟨#[32]⟩ ++ (⟨#[63]⟩ : ByteArray) ++ ⟨#[32]⟩ ++ J2).data.toList ++ [10]) := Lib.hid (by rw [HJX.out, HLINE.out, List.append_assoc])
              clear HJX HLINE
              obtain ⟨LK, hLK⟩ : ∃ L, L = LJ ++ ((⟨#[32, 32]⟩ : ByteArray) ++ J1 ++ ⟨#[32]⟩ ++ (⟨#[63]⟩ : ByteArray) ++ ⟨#[32]⟩ ++ J2).data.toList := ⟨_, rfl⟩
              rw [← hLK] at HO9 HLEN3 HJX2
              clear hLK
              obtain ⟨A9, c9, rfl⟩ := HO9.out.shape
              have HW9 := Lib.hid (one_ten w9)
              have hs9 := HO9.out.bel.size
              have hl9 := HLEN3.out
              clear HD6 HALL KJ1 KJ2 HB7 HB8 HK7 HK8 HS9 HX6 HB6 HLEN2 HLEN3 y10 e1 hxl nn1 nn2 nn3 nn4 nn5
              go_wp2_with (at_builtin; refine wpList_append_own _ rfl (.tmp 83) (.tmp 84) 30 rfl w.heap.size 5 i0 _ 1 1 Tryd.underlying30 HI.out.1 HI.out.2.1 HI.out.2.2.1 HI.out.2.2.2 rfl (by decide) (.slice A9 (LK).length c9) (LK).length (bcs (LK)) rfl (by exact (HO9.out.new (by repeat (first | exact Below.refl _ _ | assumption | refine Below.setCell ?_ (by first | (simp; done) | (simp; omega) | omega) _ | refine below_drewN ?_ _ | refine Below.drew ?_ | refine Below.alloc ?_ (by first | (simp; done) | (simp; omega) | omega) _))).row) ⟨w9.heap.size, 0, none⟩ 1 1 (bcs [10]) rfl rfl (by exact HW9.out) (bcs_oneCell _) (by simp only [maxLen]; omega) (by omega) (by simp; omega) ?_; intro vX wX hoX hgX _; have HOX := Lib.hid ((HO9.out.new (show Below w9.heap.size w9 (w9.alloc (.cells #[.int .u8 10] 5)) from (by repeat (first | exact Below.refl _ _ | assumption | refine Below.setCell ?_ (by first | (simp; done) | (simp; omega) | omega) _ | refine below_drewN ?_ _ | refine Below.drew ?_ | refine Below.alloc ?_ (by first | (simp; done) | (simp; omega) | omega) _)))).one hoX hgX); have HVX := Lib.hid ((HO9.out.new (show Below w9.heap.size w9 (w9.alloc (.cells #[.int .u8 10] 5)) from (by repeat (first | exact Below.refl _ _ | assumption | refine Below.setCell ?_ (by first | (simp; done) | (simp; omega) | omega) _ | refine below_drewN ?_ _ | refine Below.drew ?_ | refine Below.alloc ?_ (by first | (simp; done) | (simp; omega) | omega) _)))).keeps (HV9.out.new' (by repeat (first | exact Below.refl _ _ | assumption | refine Below.setCell ?_ (by first | (simp; done) | (simp; omega) | omega) _ | refine below_drewN ?_ _ | refine Below.drew ?_ | refine Below.alloc ?_ (by first | (simp; done) | (simp; omega) | omega) _))) (by decide) hgX); clear hoX hgX)
              go_roundw
              case rel => exact ⟨j + 1, by omega, by go_num, by rw [HJX2.out]; exact HOX.out, HVX.out⟩
              case measure => simp [intOf]; omega
            | false =>
              have hnb : ¬ nameB vo = [] := by
                intro h0
                rw [ByteArray.toList_eq, hNB, h0] at he
                cases he
              have HNB := Lib.hid hnb
              have HNN := Lib.hid hNB
              have heq : (NB == (⟨#[]⟩ : ByteArray)) = false := by
                rw [hNB]
                cases hh : nameB vo with
                | nil => exact absurd hh hnb
                | cons x l => rfl
              clear hNB hnb
              have hJ1 := HJ1.out
              have hJ2 := HJ2.out
              have hline : insT j (vo, va) = ((⟨#[32, 32]⟩ : ByteArray) ++ J1 ++ ⟨#[32]⟩ ++ NB ++ ⟨#[32]⟩ ++ J2).data.toList ++ [10] := by
                rw [hJ1, hJ2]
                have hm8 := HNB.out
                rw [HNN.out]
                simp [insT, ByteArray.data_append, bstr, hm8]
              have hll : (insT j (vo, va)).length = 2 + J1.size + 1 + NB.size + 1 + J2.size + 1 := by
                rw [hline, List.length_append, sizeB]
                simp only [ByteArray.size_append, ByteArray.size_mk', List.size_toArray, List.length_cons, List.length_nil]
              have hbig := HLI.out
              have hsz : ((⟨#[32, 32]⟩ : ByteArray) ++ J1 ++ ⟨#[32]⟩ ++ NB ++ ⟨#[32]⟩ ++ J2).size = 2 + J1.size + 1 + NB.size + 1 + J2.size := by simp only [ByteArray.size_append, ByteArray.size_mk', List.size_toArray, List.length_cons, List.length_nil]
              have HLEN2 : Hid (LJ.length + ((⟨#[32, 32]⟩ : ByteArray) ++ J1 ++ ⟨#[32]⟩ ++ NB ++ ⟨#[32]⟩ ++ J2).size ≤ 140737488355328) := Lib.hid (by rw [hsz]; rw [hll] at hbig; omega)
              have HLEN3 : Hid ((LJ ++ ((⟨#[32, 32]⟩ : ByteArray) ++ J1 ++ ⟨#[32]⟩ ++ NB ++ ⟨#[32]⟩ ++ J2).data.toList).length + 1 ≤ 140737488355328) := Lib.hid (by rw [List.length_append, sizeB, hsz]; rw [hll] at hbig; omega)
              have HLINE := Lib.hid hline
              rw [hll] at hbig
              have nn1 : ¬ 9223372036854775807 < 2 + J1.size := by omega
              have nn2 : ¬ 9223372036854775807 < 2 + J1.size + 1 := by omega
              have nn3 : ¬ 9223372036854775807 < 2 + J1.size + 1 + NB.size := by omega
              have nn4 : ¬ 9223372036854775807 < 2 + J1.size + 1 + NB.size + 1 := by omega
              have nn5 : ¬ 9223372036854775807 < 2 + J1.size + 1 + NB.size + 1 + J2.size := by omega
              clear hJ1 hJ2 hline hll hbig hsz
              go_wp2_with fail
              clear he heq
              have HD6 : Hid (Below W6.heap.size W6 W6.drew) := Lib.hid (by repeat (first | exact Below.refl _ _ | assumption | refine Below.setCell ?_ (by first | (simp; done) | (simp; omega) | omega) _ | refine below_drewN ?_ _ | refine Below.drew ?_ | refine Below.alloc ?_ (by first | (simp; done) | (simp; omega) | omega) _))
              have HALL : Hid (∀ w', Below W6.heap.size W6 w' → (fun w' => w'.cell? ⟨cb, 10, none⟩ = some (.slice (some ⟨bi, oi, none⟩) n6 c6) ∧ w'.cell? ⟨bi, oi + j * 2 + 1, none⟩ = some (.int .i64 va)) w') := Lib.hid fun w' hb => ⟨(HX6.out.new' hb).cell 10, (hb.cell (p := ⟨bi, oi + j * 2 + 1, none⟩) (by omega)).trans e1⟩
              obtain ⟨BI, hBI⟩ : ∃ B, B = bi := ⟨_, rfl⟩
              go_region_held3 (fun w' => w'.cell? ⟨cb, 10, none⟩ = some (.slice (some ⟨bi, oi, none⟩) n6 c6) ∧ w'.cell? ⟨bi, oi + j * 2 + 1, none⟩ = some (.int .i64 va)) (first | exact HK7.out | exact HK8.out | exact HS9.out | go_keep)
                (first
                  | (have hg8 := HB8.out; refine step_append_str rfl (.tmp 66) (.tmp 81) 30 9 rfl w.heap.size 5 i0 Tryd.underlying30 und9 HI.out.1 HI.out.2.1 HI.out.2.2.1 HI.out.2.2.2 (.slice Ar LJ.length cr) LJ.length (bcs LJ) rfl (by exact (HB6.out.new HB8.out).row) _ rfl (by have := HLEN2.out; simp only [maxLen]; omega) HLEN2.out (by exact (HB6.out.new HB8.out).bel.size) ?_; intro v9 w9 ho9 hg9 _; have HO9 := Lib.hid ((HB6.out.new HB8.out).str ho9 hg9); have HV9 := Lib.hid ((HB6.out.new HB8.out).keeps (HX6.out.new' HB8.out) (by decide) hg9); have HS9 := Lib.hid (And.intro (HV9.out.cell 10) (show w9.cell? ⟨bi, oi + j * 2 + 1, none⟩ = some (.int .i64 va) from ((HO9.out.bel.cell (p := ⟨bi, oi + j * 2 + 1, none⟩) HBI.out).trans HCV.out))); clear ho9 hg9)
                  | ((with_reducible refine (KJ1.out _).mono ?_); rintro e w7 ⟨rfl, hb7⟩; have HB7 := Lib.hid (HD6.out.trans hb7); have HK7 := Lib.hid (HALL.out _ HB7.out); clear hb7)
                  | ((with_reducible refine (KJ2.out _).mono ?_); rintro e w8 ⟨rfl, hb8⟩; have HB8 := Lib.hid (HB7.out.trans (hb8.mono HB7.out.size)); have HK8 := Lib.hid (HALL.out _ HB8.out); clear hb8))
              clear hBI
              have HJX2 : Hid (L2 ++ numbered insT 0 (is.take (j + 1)) = LJ ++ ((⟨#[32, 32]⟩ : ByteArray) ++ J1 ++ ⟨#[32]⟩ ++ NB ++ ⟨#[32]⟩ ++ J2).data.toList ++ [10]) := Lib.hid (by rw [HJX.out, HLINE.out, List.append_assoc])
              clear HJX HLINE
              obtain ⟨LK, hLK⟩ : ∃ L, L = LJ ++ ((⟨#[32, 32]⟩ : ByteArray) ++ J1 ++ ⟨#[32]⟩ ++ NB ++ ⟨#[32]⟩ ++ J2).data.toList := ⟨_, rfl⟩
              rw [← hLK] at HO9 HLEN3 HJX2
              clear hLK
              obtain ⟨A9, c9, rfl⟩ := HO9.out.shape
              have HW9 := Lib.hid (one_ten w9)
              have hs9 := HO9.out.bel.size
              have hl9 := HLEN3.out
              clear HD6 HALL KJ1 KJ2 HB7 HB8 HK7 HK8 HS9 HX6 HB6 HLEN2 HLEN3 y10 e1 hxl nn1 nn2 nn3 nn4 nn5
              go_wp2_with (at_builtin; refine wpList_append_own _ rfl (.tmp 83) (.tmp 84) 30 rfl w.heap.size 5 i0 _ 1 1 Tryd.underlying30 HI.out.1 HI.out.2.1 HI.out.2.2.1 HI.out.2.2.2 rfl (by decide) (.slice A9 (LK).length c9) (LK).length (bcs (LK)) rfl (by exact (HO9.out.new (by repeat (first | exact Below.refl _ _ | assumption | refine Below.setCell ?_ (by first | (simp; done) | (simp; omega) | omega) _ | refine below_drewN ?_ _ | refine Below.drew ?_ | refine Below.alloc ?_ (by first | (simp; done) | (simp; omega) | omega) _))).row) ⟨w9.heap.size, 0, none⟩ 1 1 (bcs [10]) rfl rfl (by exact HW9.out) (bcs_oneCell _) (by simp only [maxLen]; omega) (by omega) (by simp; omega) ?_; intro vX wX hoX hgX _; have HOX := Lib.hid ((HO9.out.new (show Below w9.heap.size w9 (w9.alloc (.cells #[.int .u8 10] 5)) from (by repeat (first | exact Below.refl _ _ | assumption | refine Below.setCell ?_ (by first | (simp; done) | (simp; omega) | omega) _ | refine below_drewN ?_ _ | refine Below.drew ?_ | refine Below.alloc ?_ (by first | (simp; done) | (simp; omega) | omega) _)))).one hoX hgX); have HVX := Lib.hid ((HO9.out.new (show Below w9.heap.size w9 (w9.alloc (.cells #[.int .u8 10] 5)) from (by repeat (first | exact Below.refl _ _ | assumption | refine Below.setCell ?_ (by first | (simp; done) | (simp; omega) | omega) _ | refine below_drewN ?_ _ | refine Below.drew ?_ | refine Below.alloc ?_ (by first | (simp; done) | (simp; omega) | omega) _)))).keeps (HV9.out.new' (by repeat (first | exact Below.refl _ _ | assumption | refine Below.setCell ?_ (by first | (simp; done) | (simp; omega) | omega) _ | refine below_drewN ?_ _ | refine Below.drew ?_ | refine Below.alloc ?_ (by first | (simp; done) | (simp; omega) | omega) _))) (by decide) hgX); clear hoX hgX)
              go_roundw
              case rel => exact ⟨j + 1, by omega, by go_num, by rw [HJX2.out]; exact HOX.out, HVX.out⟩
              case measure => simp [intOf]; omega
          · obtain rfl : j = n6 := by omega
            have htk : is.take j = is := List.take_of_length_le (by rw [H6.out.1]; exact Nat.le_refl _)
            have HLF : Hid (numbered codeT 0 (p.take (k + 1)) = LJ) := Lib.hid (by rw [HLS'.out, HLJ.out, htk])
            have HBF := Lib.hid hB
            have x10 := hV.cell 10
            have xl := hV.lt
            simp only [List.getElem?_toArray, List.getElem?_cons_zero, List.getElem?_cons_succ] at x10
            clear hB hV htk hbel
            go_wp2
            go_roundw
            case rel => exact ⟨k + 1, by omega, by go_num, by rw [HLF.out]; exact HBF.out⟩
            case measure => simp [intOf]; omega
      | true =>
        simp only [if_true, if_false, Bool.false_eq_true, List.append_nil, Nat.add_zero] at HLS HLB
        have v4 := HV9.out.cell 4
        have v10 := HV9.out.cell 10
        have vl9 := HV9.out.lt
        simp only [List.getElem?_toArray, List.getElem?_cons_zero, List.getElem?_cons_succ] at v4 v10
        have hs9 := HO9.out.bel.size
        have hl9 := HLB.out
        go_wp2_with (first | (at_builtin; refine Lib.wpList_append_own_string _ rfl (.tmp 45) (.const (.string ⟨#[32, 103, 101, 110]⟩)) 30 9 rfl w.heap.size 5 i0 Tryd.underlying30 und9 HI.out.1 HI.out.2.1 HI.out.2.2.1 HI.out.2.2.2 (.slice A9 L9.length c9) L9.length (bcs L9) rfl HO9.out.row ⟨#[32, 103, 101, 110]⟩ rfl (by simp only [maxLen, ByteArray.size_mk', List.size_toArray, List.length_cons, List.length_nil]; omega) (by simp only [ByteArray.size_mk', List.size_toArray, List.length_cons, List.length_nil]; omega) (by omega) ?_; intro v10 w10 ho10 hg10 _; have h10 := HO9.out.str ho10 hg10; obtain ⟨LG, hLG⟩ : ∃ L, L = L9 ++ (⟨#[32, 103, 101, 110]⟩ : ByteArray).data.toList := ⟨_, rfl⟩; rw [← hLG] at h10; have hlg : LG.length ≤ L9.length + 4 := (by rw [hLG]; simp); have HLG := Lib.hid hLG; have HO10 := Lib.hid h10; have HV10 := Lib.hid (HO9.out.keeps HV9.out (by decide) hg10); clear ho10 hg10 hLG h10; obtain ⟨A10, c10, rfl⟩ := HO10.out.shape; have HW10 := Lib.hid (one_ten w10); have hs10 := HO10.out.bel.size) | (at_builtin; refine wpList_append_own _ rfl (.tmp 47) (.tmp 48) 30 rfl w.heap.size 5 i0 _ 1 1 Tryd.underlying30 HI.out.1 HI.out.2.1 HI.out.2.2.1 HI.out.2.2.2 rfl (by decide) (.slice A10 (LG).length c10) (LG).length (bcs (LG)) rfl (by exact (HO10.out.new (by repeat (first | exact Below.refl _ _ | assumption | refine Below.setCell ?_ (by first | (simp; done) | (simp; omega) | omega) _ | refine below_drewN ?_ _ | refine Below.drew ?_ | refine Below.alloc ?_ (by first | (simp; done) | (simp; omega) | omega) _))).row) ⟨w10.heap.size, 0, none⟩ 1 1 (bcs [10]) rfl rfl (by exact HW10.out) (bcs_oneCell _) (by simp only [maxLen]; omega) (by omega) (by simp; omega) ?_; intro vX wX hoX hgX _; have HOX := Lib.hid ((HO10.out.new (show Below w10.heap.size w10 (w10.alloc (.cells #[.int .u8 10] 5)) from (by repeat (first | exact Below.refl _ _ | assumption | refine Below.setCell ?_ (by first | (simp; done) | (simp; omega) | omega) _ | refine below_drewN ?_ _ | refine Below.drew ?_ | refine Below.alloc ?_ (by first | (simp; done) | (simp; omega) | omega) _)))).one hoX hgX); have HVX := Lib.hid ((HO10.out.new (show Below w10.heap.size w10 (w10.alloc (.cells #[.int .u8 10] 5)) from (by repeat (first | exact Below.refl _ _ | assumption | refine Below.setCell ?_ (by first | (simp; done) | (simp; omega) | omega) _ | refine below_drewN ?_ _ | refine Below.drew ?_ | refine Below.alloc ?_ (by first | (simp; done) | (simp; omega) | omega) _)))).keeps (HV10.out.new' (by repeat (first | exact Below.refl _ _ | assumption | refine Below.setCell ?_ (by first | (simp; done) | (simp; omega) | omega) _ | refine below_drewN ?_ _ | refine Below.drew ?_ | refine Below.alloc ?_ (by first | (simp; done) | (simp; omega) | omega) _))) (by decide) hgX); clear hoX hgX))
        clear v4 v10 vl9 HV9 HO9 hs9 hs10 HV10 HO10 HW10
        have HOX' : Hid (Ob w wX vX (LG ++ [10])) := Lib.hid HOX.out
        have HLS' : Hid (numbered codeT 0 (p.take (k + 1)) = (LG ++ [10]) ++ numbered insT 0 is) := Lib.hid (by rw [HLS.out, HLG.out])
        have HLB' : Hid ((LG ++ [10]).length + (numbered insT 0 is).length ≤ 140737488355328) := Lib.hid (by simp only [List.length_append, List.length_cons, List.length_nil]; omega)
        clear HOX HLS hl9 HLG hlg
        generalize LG ++ [10] = L2 at *
        go_loopw [3, 6] (fun v i wr => ∃ j : Nat, j ≤ n6 ∧ i = .int .i64 j ∧ Ob w wr v (L2 ++ numbered insT 0 (is.take j)) ∧ Blk wr cb 49 #[.string nm, .int .i64 kd, .int .i64 pa, .int .i64 de, .bool true, .slice A1 n1 c1, .slice A2 n2 c2, .slice A3 n3 c3, .slice A4 n4 c4, .slice A5 n5 c5, .slice A6 n6 c6]) (fun _ i _ => n6 - (intOf i).toNat)
        case atStart => exact ⟨0, by omega, rfl, by rw [List.take_zero, numbered, List.append_nil]; exact HOX'.out, HVX.out⟩
        case round =>
          clear HOX' HVX
          obtain ⟨j, hj, rfl, hB, hV⟩ := hrel
          obtain ⟨LJ, hLJ⟩ : ∃ L, L = L2 ++ numbered insT 0 (is.take j) := ⟨_, rfl⟩
          rw [← hLJ] at hB
          have HLJ := Lib.hid hLJ
          clear hLJ
          have hbel := hB.bel
          have hwz := hbel.size
          obtain ⟨Ar, cr, rfl⟩ := hB.shape
          by_cases hlt2 : j < n6
          · obtain ⟨v, hx⟩ : ∃ v, is[j]? = some v := ⟨_, List.getElem?_eq_getElem (by rw [H6.out.1]; exact hlt2)⟩
            have hil := H6.out.1
            obtain ⟨bi, oi, rfl, hbi, hci⟩ := H6.out.at_ (f := insCs) (m := 2) (fun _ => rfl) hx
            obtain ⟨htk, hsp⟩ := take_snoc hx
            have h64 := HN4.out v (List.mem_of_getElem? hx)
            have HJX := Lib.hid (show L2 ++ numbered insT 0 (is.take (j + 1)) = LJ ++ insT j v by rw [HLJ.out, htk, numbered_snoc, List.length_take, Nat.zero_add, Nat.min_eq_left (by omega), List.append_assoc])
            have HLI : Hid (LJ.length + (insT j v).length ≤ 140737488355328) := Lib.hid (by
              have := HLB'.out
              rw [HLJ.out, List.length_append]
              rw [hsp, numbered_split, numbered, List.length_append, List.length_append, Nat.zero_add, List.length_take, Nat.min_eq_left (by omega)] at this
              omega)
            clear htk hsp hil
            obtain ⟨vo, va⟩ := v
            have e0 : wr.cell? ⟨bi, oi + j * 2, none⟩ = some (.int .i64 vo) := (hbel.cell (p := ⟨bi, oi + j * 2, none⟩) hbi).trans (hci 0 _ rfl)
            have HCV : Hid (w.cell? ⟨bi, oi + j * 2 + 1, none⟩ = some (.int .i64 va)) := Lib.hid (hci 1 _ rfl)
            have HBI := Lib.hid hbi
            have hbr2 : bi < wr.heap.size := by omega
            have x10 := hV.cell 10
            have xl := hV.lt
            simp only [List.getElem?_toArray, List.getElem?_cons_zero, List.getElem?_cons_succ] at x10
            have HB5 := Lib.hid hB
            have HX5 := Lib.hid hV
            obtain ⟨J1, hJ1⟩ : ∃ I, I = bstr (Lib.itoa (j : Int)) := ⟨_, rfl⟩
            obtain ⟨J2, hJ2⟩ : ∃ I, I = bstr (Lib.itoa va) := ⟨_, rfl⟩
            have hj64 : I64 (j : Int) := ⟨by omega, by omega⟩
            have KJ1 : Hid (∀ w, Calls Tryd.prog 33 #[.int .i64 j] w fun e w' => e = .returned (.string J1) ∧ Below w.heap.size w w') := Lib.hid fun w => hJ1 ▸ decimal_any (j : Int) hj64 w
            have KJ2 : Hid (∀ w, Calls Tryd.prog 33 #[.int .i64 va] w fun e w' => e = .returned (.string J2) ∧ Below w.heap.size w w') := Lib.hid fun w => hJ2 ▸ decimal_any va h64 w
            have HJ1 := Lib.hid hJ1
            have HJ2 := Lib.hid hJ2
            clear hB hV hx hci h64 hj64 hJ1 hJ2
            go_wp2_with fail
            refine (rname_any vo _).mono ?_
            rintro e W6 ⟨rfl, hb6⟩
            have HB6 := Lib.hid (HB5.out.new hb6)
            have HX6 := Lib.hid (HX5.out.new' hb6)
            have e1 : W6.cell? ⟨bi, oi + j * 2 + 1, none⟩ = some (.int .i64 va) := (HB6.out.bel.cell (p := ⟨bi, oi + j * 2 + 1, none⟩) hbi).trans HCV.out
            have hz6 := hb6.size
            have hbr6 : bi < W6.heap.size := by omega
            clear hb6 e0 x10 xl hbel
            obtain ⟨NB, hNB⟩ : ∃ N : ByteArray, N = ⟨(nameB vo).toArray⟩ := ⟨_, rfl⟩
            rw [← hNB]
            have y10 := HX6.out.cell 10
            have hxl := HX6.out.lt
            simp only [List.getElem?_toArray, List.getElem?_cons_zero, List.getElem?_cons_succ] at y10
            cases he : NB.toList.isEmpty with
            | true =>
              have hnb : nameB vo = [] := by
                rw [List.isEmpty_iff, ByteArray.toList_eq, hNB] at he
                exact he
              have HNB := Lib.hid hnb
              clear hNB hnb
              have hJ1 := HJ1.out
              have hJ2 := HJ2.out
              have hline : insT j (vo, va) = ((⟨#[32, 32]⟩ : ByteArray) ++ J1 ++ ⟨#[32]⟩ ++ (⟨#[63]⟩ : ByteArray) ++ ⟨#[32]⟩ ++ J2).data.toList ++ [10] := by
                rw [hJ1, hJ2]
                have hm8 := HNB.out
                
                simp [insT, ByteArray.data_append, bstr, hm8]
              have hll : (insT j (vo, va)).length = 2 + J1.size + 1 + 1 + 1 + J2.size + 1 := by
                rw [hline, List.length_append, sizeB]
                simp only [ByteArray.size_append, ByteArray.size_mk', List.size_toArray, List.length_cons, List.length_nil]
              have hbig := HLI.out
              have hsz : ((⟨#[32, 32]⟩ : ByteArray) ++ J1 ++ ⟨#[32]⟩ ++ (⟨#[63]⟩ : ByteArray) ++ ⟨#[32]⟩ ++ J2).size = 2 + J1.size + 1 + 1 + 1 + J2.size := by simp only [ByteArray.size_append, ByteArray.size_mk', List.size_toArray, List.length_cons, List.length_nil]
              have HLEN2 : Hid (LJ.length + ((⟨#[32, 32]⟩ : ByteArray) ++ J1 ++ ⟨#[32]⟩ ++ (⟨#[63]⟩ : ByteArray) ++ ⟨#[32]⟩ ++ J2).size ≤ 140737488355328) := Lib.hid (by rw [hsz]; rw [hll] at hbig; omega)
              have HLEN3 : Hid ((LJ ++ ((⟨#[32, 32]⟩ : ByteArray) ++ J1 ++ ⟨#[32]⟩ ++ (⟨#[63]⟩ : ByteArray) ++ ⟨#[32]⟩ ++ J2).data.toList).length + 1 ≤ 140737488355328) := Lib.hid (by rw [List.length_append, sizeB, hsz]; rw [hll] at hbig; omega)
              have HLINE := Lib.hid hline
              rw [hll] at hbig
              have nn1 : ¬ 9223372036854775807 < 2 + J1.size := by omega
              have nn2 : ¬ 9223372036854775807 < 2 + J1.size + 1 := by omega
              have nn3 : ¬ 9223372036854775807 < 2 + J1.size + 1 + 1 := by omega
              have nn4 : ¬ 9223372036854775807 < 2 + J1.size + 1 + 1 + 1 := by omega
              have nn5 : ¬ 9223372036854775807 < 2 + J1.size + 1 + 1 + 1 + J2.size := by omega
              clear hJ1 hJ2 hline hll hbig hsz
              go_wp2_with fail
              clear he
              have HD6 : Hid (Below W6.heap.size W6 W6.drew) := Lib.hid (by repeat (first | exact Below.refl _ _ | assumption | refine Below.setCell ?_ (by first | (simp; done) | (simp; omega) | omega) _ | refine below_drewN ?_ _ | refine Below.drew ?_ | refine Below.alloc ?_ (by first | (simp; done) | (simp; omega) | omega) _))
              have HALL : Hid (∀ w', Below W6.heap.size W6 w' → (fun w' => w'.cell? ⟨cb, 10, none⟩ = some (.slice (some ⟨bi, oi, none⟩) n6 c6) ∧ w'.cell? ⟨bi, oi + j * 2 + 1, none⟩ = some (.int .i64 va)) w') := Lib.hid fun w' hb => ⟨(HX6.out.new' hb).cell 10, (hb.cell (p := ⟨bi, oi + j * 2 + 1, none⟩) (by omega)).trans e1⟩
              obtain ⟨BI, hBI⟩ : ∃ B, B = bi := ⟨_, rfl⟩
              go_region_held3 (fun w' => w'.cell? ⟨cb, 10, none⟩ = some (.slice (some ⟨bi, oi, none⟩) n6 c6) ∧ w'.cell? ⟨bi, oi + j * 2 + 1, none⟩ = some (.int .i64 va)) (first | exact HK7.out | exact HK8.out | exact HS9.out | go_keep)
                (first
                  | (have hg8 := HB8.out; refine step_append_str rfl (.tmp 66) (.tmp 81) 30 9 rfl w.heap.size 5 i0 Tryd.underlying30 und9 HI.out.1 HI.out.2.1 HI.out.2.2.1 HI.out.2.2.2 (.slice Ar LJ.length cr) LJ.length (bcs LJ) rfl (by exact (HB6.out.new HB8.out).row) _ rfl (by have := HLEN2.out; simp only [maxLen]; omega) HLEN2.out (by exact (HB6.out.new HB8.out).bel.size) ?_; intro v9 w9 ho9 hg9 _; have HO9 := Lib.hid ((HB6.out.new HB8.out).str ho9 hg9); have HV9 := Lib.hid ((HB6.out.new HB8.out).keeps (HX6.out.new' HB8.out) (by decide) hg9); have HS9 := Lib.hid (And.intro (HV9.out.cell 10) (show w9.cell? ⟨bi, oi + j * 2 + 1, none⟩ = some (.int .i64 va) from ((HO9.out.bel.cell (p := ⟨bi, oi + j * 2 + 1, none⟩) HBI.out).trans HCV.out))); clear ho9 hg9)
                  | ((with_reducible refine (KJ1.out _).mono ?_); rintro e w7 ⟨rfl, hb7⟩; have HB7 := Lib.hid (HD6.out.trans hb7); have HK7 := Lib.hid (HALL.out _ HB7.out); clear hb7)
                  | ((with_reducible refine (KJ2.out _).mono ?_); rintro e w8 ⟨rfl, hb8⟩; have HB8 := Lib.hid (HB7.out.trans (hb8.mono HB7.out.size)); have HK8 := Lib.hid (HALL.out _ HB8.out); clear hb8))
              clear hBI
              have HJX2 : Hid (L2 ++ numbered insT 0 (is.take (j + 1)) = LJ ++ ((⟨#[32, 32]⟩ : ByteArray) ++ J1 ++ ⟨#[32]⟩ ++ (⟨#[63]⟩ : ByteArray) ++ ⟨#[32]⟩ ++ J2).data.toList ++ [10]) := Lib.hid (by rw [HJX.out, HLINE.out, List.append_assoc])
              clear HJX HLINE
              obtain ⟨LK, hLK⟩ : ∃ L, L = LJ ++ ((⟨#[32, 32]⟩ : ByteArray) ++ J1 ++ ⟨#[32]⟩ ++ (⟨#[63]⟩ : ByteArray) ++ ⟨#[32]⟩ ++ J2).data.toList := ⟨_, rfl⟩
              rw [← hLK] at HO9 HLEN3 HJX2
              clear hLK
              obtain ⟨A9, c9, rfl⟩ := HO9.out.shape
              have HW9 := Lib.hid (one_ten w9)
              have hs9 := HO9.out.bel.size
              have hl9 := HLEN3.out
              clear HD6 HALL KJ1 KJ2 HB7 HB8 HK7 HK8 HS9 HX6 HB6 HLEN2 HLEN3 y10 e1 hxl nn1 nn2 nn3 nn4 nn5
              go_wp2_with (at_builtin; refine wpList_append_own _ rfl (.tmp 83) (.tmp 84) 30 rfl w.heap.size 5 i0 _ 1 1 Tryd.underlying30 HI.out.1 HI.out.2.1 HI.out.2.2.1 HI.out.2.2.2 rfl (by decide) (.slice A9 (LK).length c9) (LK).length (bcs (LK)) rfl (by exact (HO9.out.new (by repeat (first | exact Below.refl _ _ | assumption | refine Below.setCell ?_ (by first | (simp; done) | (simp; omega) | omega) _ | refine below_drewN ?_ _ | refine Below.drew ?_ | refine Below.alloc ?_ (by first | (simp; done) | (simp; omega) | omega) _))).row) ⟨w9.heap.size, 0, none⟩ 1 1 (bcs [10]) rfl rfl (by exact HW9.out) (bcs_oneCell _) (by simp only [maxLen]; omega) (by omega) (by simp; omega) ?_; intro vX wX hoX hgX _; have HOX := Lib.hid ((HO9.out.new (show Below w9.heap.size w9 (w9.alloc (.cells #[.int .u8 10] 5)) from (by repeat (first | exact Below.refl _ _ | assumption | refine Below.setCell ?_ (by first | (simp; done) | (simp; omega) | omega) _ | refine below_drewN ?_ _ | refine Below.drew ?_ | refine Below.alloc ?_ (by first | (simp; done) | (simp; omega) | omega) _)))).one hoX hgX); have HVX := Lib.hid ((HO9.out.new (show Below w9.heap.size w9 (w9.alloc (.cells #[.int .u8 10] 5)) from (by repeat (first | exact Below.refl _ _ | assumption | refine Below.setCell ?_ (by first | (simp; done) | (simp; omega) | omega) _ | refine below_drewN ?_ _ | refine Below.drew ?_ | refine Below.alloc ?_ (by first | (simp; done) | (simp; omega) | omega) _)))).keeps (HV9.out.new' (by repeat (first | exact Below.refl _ _ | assumption | refine Below.setCell ?_ (by first | (simp; done) | (simp; omega) | omega) _ | refine below_drewN ?_ _ | refine Below.drew ?_ | refine Below.alloc ?_ (by first | (simp; done) | (simp; omega) | omega) _))) (by decide) hgX); clear hoX hgX)
              go_roundw
              case rel => exact ⟨j + 1, by omega, by go_num, by rw [HJX2.out]; exact HOX.out, HVX.out⟩
              case measure => simp [intOf]; omega
            | false =>
              have hnb : ¬ nameB vo = [] := by
                intro h0
                rw [ByteArray.toList_eq, hNB, h0] at he
                cases he
              have HNB := Lib.hid hnb
              have HNN := Lib.hid hNB
              have heq : (NB == (⟨#[]⟩ : ByteArray)) = false := by
                rw [hNB]
                cases hh : nameB vo with
                | nil => exact absurd hh hnb
                | cons x l => rfl
              clear hNB hnb
              have hJ1 := HJ1.out
              have hJ2 := HJ2.out
              have hline : insT j (vo, va) = ((⟨#[32, 32]⟩ : ByteArray) ++ J1 ++ ⟨#[32]⟩ ++ NB ++ ⟨#[32]⟩ ++ J2).data.toList ++ [10] := by
                rw [hJ1, hJ2]
                have hm8 := HNB.out
                rw [HNN.out]
                simp [insT, ByteArray.data_append, bstr, hm8]
              have hll : (insT j (vo, va)).length = 2 + J1.size + 1 + NB.size + 1 + J2.size + 1 := by
                rw [hline, List.length_append, sizeB]
                simp only [ByteArray.size_append, ByteArray.size_mk', List.size_toArray, List.length_cons, List.length_nil]
              have hbig := HLI.out
              have hsz : ((⟨#[32, 32]⟩ : ByteArray) ++ J1 ++ ⟨#[32]⟩ ++ NB ++ ⟨#[32]⟩ ++ J2).size = 2 + J1.size + 1 + NB.size + 1 + J2.size := by simp only [ByteArray.size_append, ByteArray.size_mk', List.size_toArray, List.length_cons, List.length_nil]
              have HLEN2 : Hid (LJ.length + ((⟨#[32, 32]⟩ : ByteArray) ++ J1 ++ ⟨#[32]⟩ ++ NB ++ ⟨#[32]⟩ ++ J2).size ≤ 140737488355328) := Lib.hid (by rw [hsz]; rw [hll] at hbig; omega)
              have HLEN3 : Hid ((LJ ++ ((⟨#[32, 32]⟩ : ByteArray) ++ J1 ++ ⟨#[32]⟩ ++ NB ++ ⟨#[32]⟩ ++ J2).data.toList).length + 1 ≤ 140737488355328) := Lib.hid (by rw [List.length_append, sizeB, hsz]; rw [hll] at hbig; omega)
              have HLINE := Lib.hid hline
              rw [hll] at hbig
              have nn1 : ¬ 9223372036854775807 < 2 + J1.size := by omega
              have nn2 : ¬ 9223372036854775807 < 2 + J1.size + 1 := by omega
              have nn3 : ¬ 9223372036854775807 < 2 + J1.size + 1 + NB.size := by omega
              have nn4 : ¬ 9223372036854775807 < 2 + J1.size + 1 + NB.size + 1 := by omega
              have nn5 : ¬ 9223372036854775807 < 2 + J1.size + 1 + NB.size + 1 + J2.size := by omega
              clear hJ1 hJ2 hline hll hbig hsz
              go_wp2_with fail
              clear he heq
              have HD6 : Hid (Below W6.heap.size W6 W6.drew) := Lib.hid (by repeat (first | exact Below.refl _ _ | assumption | refine Below.setCell ?_ (by first | (simp; done) | (simp; omega) | omega) _ | refine below_drewN ?_ _ | refine Below.drew ?_ | refine Below.alloc ?_ (by first | (simp; done) | (simp; omega) | omega) _))
              have HALL : Hid (∀ w', Below W6.heap.size W6 w' → (fun w' => w'.cell? ⟨cb, 10, none⟩ = some (.slice (some ⟨bi, oi, none⟩) n6 c6) ∧ w'.cell? ⟨bi, oi + j * 2 + 1, none⟩ = some (.int .i64 va)) w') := Lib.hid fun w' hb => ⟨(HX6.out.new' hb).cell 10, (hb.cell (p := ⟨bi, oi + j * 2 + 1, none⟩) (by omega)).trans e1⟩
              obtain ⟨BI, hBI⟩ : ∃ B, B = bi := ⟨_, rfl⟩
              go_region_held3 (fun w' => w'.cell? ⟨cb, 10, none⟩ = some (.slice (some ⟨bi, oi, none⟩) n6 c6) ∧ w'.cell? ⟨bi, oi + j * 2 + 1, none⟩ = some (.int .i64 va)) (first | exact HK7.out | exact HK8.out | exact HS9.out | go_keep)
                (first
                  | (have hg8 := HB8.out; refine step_append_str rfl (.tmp 66) (.tmp 81) 30 9 rfl w.heap.size 5 i0 Tryd.underlying30 und9 HI.out.1 HI.out.2.1 HI.out.2.2.1 HI.out.2.2.2 (.slice Ar LJ.length cr) LJ.length (bcs LJ) rfl (by exact (HB6.out.new HB8.out).row) _ rfl (by have := HLEN2.out; simp only [maxLen]; omega) HLEN2.out (by exact (HB6.out.new HB8.out).bel.size) ?_; intro v9 w9 ho9 hg9 _; have HO9 := Lib.hid ((HB6.out.new HB8.out).str ho9 hg9); have HV9 := Lib.hid ((HB6.out.new HB8.out).keeps (HX6.out.new' HB8.out) (by decide) hg9); have HS9 := Lib.hid (And.intro (HV9.out.cell 10) (show w9.cell? ⟨bi, oi + j * 2 + 1, none⟩ = some (.int .i64 va) from ((HO9.out.bel.cell (p := ⟨bi, oi + j * 2 + 1, none⟩) HBI.out).trans HCV.out))); clear ho9 hg9)
                  | ((with_reducible refine (KJ1.out _).mono ?_); rintro e w7 ⟨rfl, hb7⟩; have HB7 := Lib.hid (HD6.out.trans hb7); have HK7 := Lib.hid (HALL.out _ HB7.out); clear hb7)
                  | ((with_reducible refine (KJ2.out _).mono ?_); rintro e w8 ⟨rfl, hb8⟩; have HB8 := Lib.hid (HB7.out.trans (hb8.mono HB7.out.size)); have HK8 := Lib.hid (HALL.out _ HB8.out); clear hb8))
              clear hBI
              have HJX2 : Hid (L2 ++ numbered insT 0 (is.take (j + 1)) = LJ ++ ((⟨#[32, 32]⟩ : ByteArray) ++ J1 ++ ⟨#[32]⟩ ++ NB ++ ⟨#[32]⟩ ++ J2).data.toList ++ [10]) := Lib.hid (by rw [HJX.out, HLINE.out, List.append_assoc])
              clear HJX HLINE
              obtain ⟨LK, hLK⟩ : ∃ L, L = LJ ++ ((⟨#[32, 32]⟩ : ByteArray) ++ J1 ++ ⟨#[32]⟩ ++ NB ++ ⟨#[32]⟩ ++ J2).data.toList := ⟨_, rfl⟩
              rw [← hLK] at HO9 HLEN3 HJX2
              clear hLK
              obtain ⟨A9, c9, rfl⟩ := HO9.out.shape
              have HW9 := Lib.hid (one_ten w9)
              have hs9 := HO9.out.bel.size
              have hl9 := HLEN3.out
              clear HD6 HALL KJ1 KJ2 HB7 HB8 HK7 HK8 HS9 HX6 HB6 HLEN2 HLEN3 y10 e1 hxl nn1 nn2 nn3 nn4 nn5
              go_wp2_with (at_builtin; refine wpList_append_own _ rfl (.tmp 83) (.tmp 84) 30 rfl w.heap.size 5 i0 _ 1 1 Tryd.underlying30 HI.out.1 HI.out.2.1 HI.out.2.2.1 HI.out.2.2.2 rfl (by decide) (.slice A9 (LK).length c9) (LK).length (bcs (LK)) rfl (by exact (HO9.out.new (by repeat (first | exact Below.refl _ _ | assumption | refine Below.setCell ?_ (by first | (simp; done) | (simp; omega) | omega) _ | refine below_drewN ?_ _ | refine Below.drew ?_ | refine Below.alloc ?_ (by first | (simp; done) | (simp; omega) | omega) _))).row) ⟨w9.heap.size, 0, none⟩ 1 1 (bcs [10]) rfl rfl (by exact HW9.out) (bcs_oneCell _) (by simp only [maxLen]; omega) (by omega) (by simp; omega) ?_; intro vX wX hoX hgX _; have HOX := Lib.hid ((HO9.out.new (show Below w9.heap.size w9 (w9.alloc (.cells #[.int .u8 10] 5)) from (by repeat (first | exact Below.refl _ _ | assumption | refine Below.setCell ?_ (by first | (simp; done) | (simp; omega) | omega) _ | refine below_drewN ?_ _ | refine Below.drew ?_ | refine Below.alloc ?_ (by first | (simp; done) | (simp; omega) | omega) _)))).one hoX hgX); have HVX := Lib.hid ((HO9.out.new (show Below w9.heap.size w9 (w9.alloc (.cells #[.int .u8 10] 5)) from (by repeat (first | exact Below.refl _ _ | assumption | refine Below.setCell ?_ (by first | (simp; done) | (simp; omega) | omega) _ | refine below_drewN ?_ _ | refine Below.drew ?_ | refine Below.alloc ?_ (by first | (simp; done) | (simp; omega) | omega) _)))).keeps (HV9.out.new' (by repeat (first | exact Below.refl _ _ | assumption | refine Below.setCell ?_ (by first | (simp; done) | (simp; omega) | omega) _ | refine below_drewN ?_ _ | refine Below.drew ?_ | refine Below.alloc ?_ (by first | (simp; done) | (simp; omega) | omega) _))) (by decide) hgX); clear hoX hgX)
              go_roundw
              case rel => exact ⟨j + 1, by omega, by go_num, by rw [HJX2.out]; exact HOX.out, HVX.out⟩
              case measure => simp [intOf]; omega
          · obtain rfl : j = n6 := by omega
            have htk : is.take j = is := List.take_of_length_le (by rw [H6.out.1]; exact Nat.le_refl _)
            have HLF : Hid (numbered codeT 0 (p.take (k + 1)) = LJ) := Lib.hid (by rw [HLS'.out, HLJ.out, htk])
            have HBF := Lib.hid hB
            have x10 := hV.cell 10
            have xl := hV.lt
            simp only [List.getElem?_toArray, List.getElem?_cons_zero, List.getElem?_cons_succ] at x10
            clear hB hV htk hbel
            go_wp2
            go_roundw
            case rel => exact ⟨k + 1, by omega, by go_num, by rw [HLF.out]; exact HBF.out⟩
            case measure => simp [intOf]; omega
    · obtain rfl : k = n := by omega
      have htk : p.take k = p := List.take_of_length_le (by omega)
      have ht := hB.text
      have HTK := Lib.hid htk
      have HBB := Lib.hid hB.bel
      clear hB htk hbel
      go_wp2_with fail
      go_ret
      exact ⟨by rw [textT, HLK.out, HTK.out]; rfl, HBB.out⟩
end Go.Proofs.YtcfelfhjhkenaaaDoor
