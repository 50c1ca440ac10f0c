/- Text: the walk. -/
import Derived.Test.YtcfelfhjhkenaaaDoorTex
import Derived.Deep.RegionHeld3
namespace Go.Proofs.YtcfelfhjhkenaaaDoor
open Go.RowKit
set_option linter.unusedVariables false
set_option linter.unusedSimpArgs false
attribute [local go_sem] Oper.semAt_some

/-- a code whose numbers are of 64 bits -/
def CodeD.Num (c : CodeD) : Prop := I64 c.kind ∧ I64 c.params ∧ I64 c.defaults ∧ ∀ x ∈ c.ins, I64 x.2
def B (s : String) : List UInt8 := s.toUTF8.data.toList
/-- an instruction's line -/
def insT (k : Nat) (x : Int × Int) : List UInt8 := [32, 32] ++ Lib.itoa k ++ [32] ++ (if nameB x.1 = [] then [63] else nameB x.1) ++ [32] ++ Lib.itoa x.2 ++ [10]
/-- a code's first line -/
def headT (i : Nat) (c : CodeD) : List UInt8 := [99, 111, 100, 101, 32] ++ Lib.itoa i ++ [32] ++ c.name.data.toList ++ [32, 107, 105, 110, 100, 32] ++ Lib.itoa c.kind ++ [32, 112, 97, 114, 97, 109, 115, 32] ++ Lib.itoa c.params ++ [32, 100, 101, 102, 97, 117, 108, 116, 115, 32] ++ Lib.itoa c.defaults
def numbered {α : Type} (f : Nat → α → List UInt8) : Nat → List α → List UInt8
  | _, [] => []
  | k, x :: xs => f k x ++ numbered f (k + 1) xs
def codeT (i : Nat) (c : CodeD) : List UInt8 := headT i c ++ (if c.gen then [32, 103, 101, 110] else []) ++ [10] ++ numbered insT 0 c.ins
def textT (p : List CodeD) : List UInt8 := numbered codeT 0 p
theorem numbered_snoc {α : Type} (f : Nat → α → List UInt8) : ∀ (k : Nat) (l : List α) (x : α), numbered f k (l ++ [x]) = numbered f k l ++ f (k + l.length) x
  | k, [], x => by simp [numbered]
  | k, y :: l, x => by
    rw [List.cons_append, numbered, numbered_snoc f (k + 1) l x, numbered, List.append_assoc, List.length_cons, show k + 1 + l.length = k + (l.length + 1) by omega]
theorem numbered_split {α : Type} (f : Nat → α → List UInt8) : ∀ (k : Nat) (l r : List α), numbered f k (l ++ r) = numbered f k l ++ numbered f (k + l.length) r
  | k, [], r => by simp [numbered]
  | k, y :: l, r => by
    rw [List.cons_append, numbered, numbered_split f (k + 1) l r, numbered, List.append_assoc, List.length_cons, show k + 1 + l.length = k + (l.length + 1) by omega]

set_option maxRecDepth 100000 in
set_option maxHeartbeats 4000000 in
theorem text_prog (w : World) (ht : Tabs w) {A : Option Addr} {n c : Nat} {p : List CodeD} (h : ProgAt w A n c p) (hp : ∀ x ∈ p, x.Num) (hl : (textT p).length ≤ 140737488355328) (hn : n ≤ 9223372036854775806) :
    Calls Tryd.prog 16 #[.slice A n c] w fun e w' => e = .returned (.string (bstr (textT p))) ∧ Below w.heap.size w w' := by
  have hln := h.1
  have hb0 : Below w.heap.size w (w.alloc (.cells #[.pointer none, .slice none 0 0] 58)) := (by repeat (first | exact Below.refl _ _ | assumption | refine Below.setCell ?_ (by first | (simp; done) | (simp; omega) | omega) _ | refine below_drewN ?_ _ | refine Below.drew ?_ | refine Below.alloc ?_ (by first | (simp; done) | (simp; omega) | omega) _))
  have HB0 : Hid (Bt w (w.alloc (.cells #[.pointer none, .slice none 0 0] 58)) w.heap.size []) := Lib.hid ⟨⟨_, _, .inl rfl, Blk.new w 58 #[.pointer none, .slice none 0 0], ⟨rfl, .inl ⟨rfl, rfl⟩⟩⟩, hb0, Nat.le_refl _⟩
  have H := Lib.hid h
  have HT := Lib.hid ht
  have HP := Lib.hid hp
  have HL := Lib.hid hl
  clear h ht hp hl hb0
  go_enter Tryd.func16, Tryd.ntmps16
  go_wp2_with fail
  generalize w.alloc (.cells #[.pointer none, .slice none 0 0] 58) = W1 at *
  go_loopw [11] (fun i wr => ∃ k : Nat, k ≤ n ∧ i = .int .i64 k ∧ Bt w wr w.heap.size (numbered codeT 0 (p.take k))) (fun i _ => n - (intOf i).toNat)
  case atStart => exact ⟨0, by omega, rfl, HB0.out⟩
  case round =>
    clear HB0
    obtain ⟨k, hk, rfl, hB⟩ := hrel
    have HB := Lib.hid hB
    have hbel := hB.bel
    have hwz := hbel.size
    by_cases hlt : k < n
    · obtain ⟨x, hx⟩ : ∃ x, p[k]? = some x := ⟨_, List.getElem?_eq_getElem (by rw [hln]; exact hlt)⟩
      obtain ⟨be, oe, cs, rfl, hbe, hcs, hce⟩ := H.out.at_ hx
      obtain ⟨htk, hsp⟩ := take_snoc hx
      have HNUM := Lib.hid (HP.out x (List.mem_of_getElem? hx))
      have HSP := Lib.hid hsp
      have HC := Lib.hid hcs
      obtain ⟨A1, n1, c1, A2, n2, c2, A3, n3, c3, A4, n4, c4, A5, n5, c5, A6, n6, c6, rfl, -, -, -, -, -, h6⟩ := hcs.parts
      have H6 := Lib.hid h6
      have HX := Lib.hid (show numbered codeT 0 (p.take (k + 1)) = numbered codeT 0 (p.take k) ++ codeT k x by rw [htk, numbered_snoc, List.length_take, Nat.zero_add, Nat.min_eq_left (by omega)])
      have HLX : Hid ((numbered codeT 0 (p.take k)).length + (codeT k x).length ≤ 140737488355328) := Lib.hid (by
        have := HL.out
        rw [textT, hsp, numbered_split, numbered, List.length_append, List.length_append, Nat.zero_add, List.length_take, Nat.min_eq_left (by omega)] at this
        omega)
      obtain ⟨nm, kd, pa, de, ge, lo, ce, fr, na, co, is⟩ := x
      have e0 : wr.cell? ⟨be, oe + k * 11, none⟩ = some (.string nm) := (hbel.cell (p := ⟨be, oe + k * 11, none⟩) hbe).trans (hce 0 _ rfl)
      have e1 : wr.cell? ⟨be, oe + k * 11 + 1, none⟩ = some (.int .i64 kd) := (hbel.cell (p := ⟨be, oe + k * 11 + 1, none⟩) hbe).trans (hce 1 _ rfl)
      have e2 : wr.cell? ⟨be, oe + k * 11 + 2, none⟩ = some (.int .i64 pa) := (hbel.cell (p := ⟨be, oe + k * 11 + 2, none⟩) hbe).trans (hce 2 _ rfl)
      have e3 : wr.cell? ⟨be, oe + k * 11 + 3, none⟩ = some (.int .i64 de) := (hbel.cell (p := ⟨be, oe + k * 11 + 3, none⟩) hbe).trans (hce 3 _ rfl)
      have e4 : wr.cell? ⟨be, oe + k * 11 + 4, none⟩ = some (.bool ge) := (hbel.cell (p := ⟨be, oe + k * 11 + 4, none⟩) hbe).trans (hce 4 _ rfl)
      have e5 : wr.cell? ⟨be, oe + k * 11 + 5, none⟩ = some (.slice A1 n1 c1) := (hbel.cell (p := ⟨be, oe + k * 11 + 5, none⟩) hbe).trans (hce 5 _ rfl)
      have e6 : wr.cell? ⟨be, oe + k * 11 + 6, none⟩ = some (.slice A2 n2 c2) := (hbel.cell (p := ⟨be, oe + k * 11 + 6, none⟩) hbe).trans (hce 6 _ rfl)
      have e7 : wr.cell? ⟨be, oe + k * 11 + 7, none⟩ = some (.slice A3 n3 c3) := (hbel.cell (p := ⟨be, oe + k * 11 + 7, none⟩) hbe).trans (hce 7 _ rfl)
      have e8 : wr.cell? ⟨be, oe + k * 11 + 8, none⟩ = some (.slice A4 n4 c4) := (hbel.cell (p := ⟨be, oe + k * 11 + 8, none⟩) hbe).trans (hce 8 _ rfl)
      have e9 : wr.cell? ⟨be, oe + k * 11 + 9, none⟩ = some (.slice A5 n5 c5) := (hbel.cell (p := ⟨be, oe + k * 11 + 9, none⟩) hbe).trans (hce 9 _ rfl)
      have e10 : wr.cell? ⟨be, oe + k * 11 + 10, none⟩ = some (.slice A6 n6 c6) := (hbel.cell (p := ⟨be, oe + k * 11 + 10, none⟩) hbe).trans (hce 10 _ rfl)
      have hbr : be < wr.heap.size := by omega
      have hb4 : Below wr.heap.size wr (wr.alloc (.cells #[.string nm, .int .i64 kd, .int .i64 pa, .int .i64 de, .bool ge, .slice A1 n1 c1, .slice A2 n2 c2, .slice A3 n3 c3, .slice A4 n4 c4, .slice A5 n5 c5, .slice A6 n6 c6] 49)) := (by repeat (first | exact Below.refl _ _ | assumption | refine Below.setCell ?_ (by first | (simp; done) | (simp; omega) | omega) _ | refine below_drewN ?_ _ | refine Below.drew ?_ | refine Below.alloc ?_ (by first | (simp; done) | (simp; omega) | omega) _))
      have HB4 := Lib.hid (hB.new hb4)
      have HV4 := Lib.hid (Blk.new wr 49 #[.string nm, .int .i64 kd, .int .i64 pa, .int .i64 de, .bool ge, .slice A1 n1 c1, .slice A2 n2 c2, .slice A3 n3 c3, .slice A4 n4 c4, .slice A5 n5 c5, .slice A6 n6 c6])
      have HBW := Lib.hid (hbel.trans (hb4.mono hwz))
      have hk64 : I64 (k : Int) := ⟨by omega, by omega⟩
      have HN1 : Hid (I64 kd) := Lib.hid HNUM.out.1
      have HN2 : Hid (I64 pa) := Lib.hid HNUM.out.2.1
      have HN3 : Hid (I64 de) := Lib.hid HNUM.out.2.2.1
      have HN4 : Hid (∀ x ∈ is, I64 x.2) := Lib.hid HNUM.out.2.2.2
      have HK64 := Lib.hid hk64
      clear hB hx hce htk hsp hcs h6 hbel hb4 hk64 HB HNUM HC
      go_wp2_with fail
      generalize wr.alloc (.cells #[.string nm, .int .i64 kd, .int .i64 pa, .int .i64 de, .bool ge, .slice A1 n1 c1, .slice A2 n2 c2, .slice A3 n3 c3, .slice A4 n4 c4, .slice A5 n5 c5, .slice A6 n6 c6] 49) = W4 at *
      generalize wr.heap.size = cb at *
      clear e0 e1 e2 e3 e4 e5 e6 e7 e8 e9 e10
      have q0 := HV4.out.cell 0
      have q1 := HV4.out.cell 1
      have q2 := HV4.out.cell 2
      have q3 := HV4.out.cell 3
      simp only [List.getElem?_toArray, List.getElem?_cons_zero, List.getElem?_cons_succ] at q0 q1 q2 q3
      obtain ⟨I1, hI1⟩ : ∃ I, I = bstr (Lib.itoa (k : Int)) := ⟨_, rfl⟩
      obtain ⟨I2, hI2⟩ : ∃ I, I = bstr (Lib.itoa kd) := ⟨_, rfl⟩
      obtain ⟨I3, hI3⟩ : ∃ I, I = bstr (Lib.itoa pa) := ⟨_, rfl⟩
      obtain ⟨I4, hI4⟩ : ∃ I, I = bstr (Lib.itoa de) := ⟨_, rfl⟩
      have K1 : Hid (∀ w, Tabs w → Calls Tryd.prog 31 #[.int .i64 k] w fun e w' => e = .returned (.string I1) ∧ Below w.heap.size w w') := Lib.hid fun w ht => hI1 ▸ itoa_in (k : Int) HK64.out w ht
      have K2 : Hid (∀ w, Tabs w → Calls Tryd.prog 31 #[.int .i64 kd] w fun e w' => e = .returned (.string I2) ∧ Below w.heap.size w w') := Lib.hid fun w ht => hI2 ▸ itoa_in kd HN1.out w ht
      have K3 : Hid (∀ w, Tabs w → Calls Tryd.prog 31 #[.int .i64 pa] w fun e w' => e = .returned (.string I3) ∧ Below w.heap.size w w') := Lib.hid fun w ht => hI3 ▸ itoa_in pa HN2.out w ht
      have K4 : Hid (∀ w, Tabs w → Calls Tryd.prog 31 #[.int .i64 de] w fun e w' => e = .returned (.string I4) ∧ Below w.heap.size w w') := Lib.hid fun w ht => hI4 ▸ itoa_in de HN3.out w ht
      have hhead : headT k ⟨nm, kd, pa, de, ge, lo, ce, fr, na, co, is⟩ = ((⟨#[99, 111, 100, 101, 32]⟩ : ByteArray) ++ I1 ++ ⟨#[32]⟩ ++ nm ++ ⟨#[32, 107, 105, 110, 100, 32]⟩ ++ I2 ++ ⟨#[32, 112, 97, 114, 97, 109, 115, 32]⟩ ++ I3 ++ ⟨#[32, 100, 101, 102, 97, 117, 108, 116, 115, 32]⟩ ++ I4).data.toList := by
        rw [hI1, hI2, hI3, hI4]
        simp [headT, ByteArray.data_append, bstr]
      have hhl : (headT k ⟨nm, kd, pa, de, ge, lo, ce, fr, na, co, is⟩).length = 5 + I1.size + 1 + nm.size + 6 + I2.size + 8 + I3.size + 10 + I4.size := by
        rw [hhead, sizeB]
        simp only [ByteArray.size_append, ByteArray.size_mk', List.size_toArray, List.length_cons, List.length_nil]
      have hbig : (headT k ⟨nm, kd, pa, de, ge, lo, ce, fr, na, co, is⟩).length ≤ 140737488355328 := by
        have := HLX.out
        simp only [codeT, List.length_append] at this
        omega
      rw [hhl] at hbig
      have nn1 : ¬ 9223372036854775807 < 5 + I1.size := by omega
      have nn2 : ¬ 9223372036854775807 < 5 + I1.size + 1 := by omega
      have nn3 : ¬ 9223372036854775807 < 5 + I1.size + 1 + nm.size := by omega
      have nn4 : ¬ 9223372036854775807 < 5 + I1.size + 1 + nm.size + 6 := by omega
      have nn5 : ¬ 9223372036854775807 < 5 + I1.size + 1 + nm.size + 6 + I2.size := by omega
      have nn6 : ¬ 9223372036854775807 < 5 + I1.size + 1 + nm.size + 6 + I2.size + 8 := by omega
      have nn7 : ¬ 9223372036854775807 < 5 + I1.size + 1 + nm.size + 6 + I2.size + 8 + I3.size := by omega
      have nn8 : ¬ 9223372036854775807 < 5 + I1.size + 1 + nm.size + 6 + I2.size + 8 + I3.size + 10 := by omega
      have nn9 : ¬ 9223372036854775807 < 5 + I1.size + 1 + nm.size + 6 + I2.size + 8 + I3.size + 10 + I4.size := by omega
      have HHEAD := Lib.hid hhead
      have HHL := Lib.hid hhl
      have hsz : ((⟨#[99, 111, 100, 101, 32]⟩ : ByteArray) ++ I1 ++ ⟨#[32]⟩ ++ nm ++ ⟨#[32, 107, 105, 110, 100, 32]⟩ ++ I2 ++ ⟨#[32, 112, 97, 114, 97, 109, 115, 32]⟩ ++ I3 ++ ⟨#[32, 100, 101, 102, 97, 117, 108, 116, 115, 32]⟩ ++ I4).size = (headT k ⟨nm, kd, pa, de, ge, lo, ce, fr, na, co, is⟩).length := by rw [hhead, sizeB]
      have KW : Hid (∀ w', Below W4.heap.size W4 w' → Calls Tryd.prog 30 #[.pointer (some ⟨w.heap.size, 0, none⟩), .string ((⟨#[99, 111, 100, 101, 32]⟩ : ByteArray) ++ I1 ++ ⟨#[32]⟩ ++ nm ++ ⟨#[32, 107, 105, 110, 100, 32]⟩ ++ I2 ++ ⟨#[32, 112, 97, 114, 97, 109, 115, 32]⟩ ++ I3 ++ ⟨#[32, 100, 101, 102, 97, 117, 108, 116, 115, 32]⟩ ++ I4)] w' fun e w'' => (∃ z : Int, e = .returned (.tuple #[.int .i64 z, .nilIface])) ∧ Bt w w'' w.heap.size (numbered codeT 0 (p.take k) ++ headT k ⟨nm, kd, pa, de, ge, lo, ce, fr, na, co, is⟩) ∧ KeepW w' w'') := Lib.hid fun w' hb => (write_in (HB4.out.new hb) _ (by rw [hsz]; have := HLX.out; simp only [codeT, List.length_append] at this; omega)).mono fun e w'' ⟨h1, h2, h3⟩ => ⟨⟨_, h1⟩, by rw [hhead]; exact h2, h3⟩
      clear hI1 hI2 hI3 hI4 hhead hhl hbig hsz
      have hcl := HV4.out.lt
      have HD4 : Hid (Below W4.heap.size W4 W4.drew) := Lib.hid (by repeat (first | exact Below.refl _ _ | assumption | refine Below.setCell ?_ (by first | (simp; done) | (simp; omega) | omega) _ | refine below_drewN ?_ _ | refine Below.drew ?_ | refine Below.alloc ?_ (by first | (simp; done) | (simp; omega) | omega) _))
      have HT4 : Hid (Tabs W4.drew) := Lib.hid (HT.out.below (HBW.out.trans (show Below w.heap.size W4 W4.drew from (by repeat (first | exact Below.refl _ _ | assumption | refine Below.setCell ?_ (by first | (simp; done) | (simp; omega) | omega) _ | refine below_drewN ?_ _ | refine Below.drew ?_ | refine Below.alloc ?_ (by first | (simp; done) | (simp; omega) | omega) _)))))
      have HALL : Hid (∀ w', Below W4.heap.size W4 w' → (fun w' => w'.cell? ⟨cb, 0, none⟩ = some (.string nm) ∧ w'.cell? ⟨cb, 1, none⟩ = some (.int .i64 kd) ∧ w'.cell? ⟨cb, 2, none⟩ = some (.int .i64 pa) ∧ w'.cell? ⟨cb, 3, none⟩ = some (.int .i64 de)) w') := Lib.hid fun w' hb => ⟨(HV4.out.new' hb).cell 0, (HV4.out.new' hb).cell 1, (HV4.out.new' hb).cell 2, (HV4.out.new' hb).cell 3⟩
      go_region_held3 (fun w' => w'.cell? ⟨cb, 0, none⟩ = some (.string nm) ∧ w'.cell? ⟨cb, 1, none⟩ = some (.int .i64 kd) ∧ w'.cell? ⟨cb, 2, none⟩ = some (.int .i64 pa) ∧ w'.cell? ⟨cb, 3, none⟩ = some (.int .i64 de)) (first | exact HK5.out | exact HK6.out | exact HK7.out | exact HK8.out | exact HS9.out | go_keep)
        (first
          | ((with_reducible refine (K1.out _ HT4.out).mono ?_); rintro e w5 ⟨rfl, hb5⟩; have HB5 := Lib.hid (HD4.out.trans hb5); have HK5 := Lib.hid (HALL.out _ HB5.out); have HT5 := Lib.hid (HT4.out.below hb5); clear hb5)
          | ((with_reducible refine (K2.out _ HT5.out).mono ?_); rintro e w6 ⟨rfl, hb6⟩; have HB6 := Lib.hid (HB5.out.trans (hb6.mono HB5.out.size)); have HK6 := Lib.hid (HALL.out _ HB6.out); have HT6 := Lib.hid (HT5.out.below hb6); clear hb6)
          | ((with_reducible refine (K3.out _ HT6.out).mono ?_); rintro e w7 ⟨rfl, hb7⟩; have HB7 := Lib.hid (HB6.out.trans (hb7.mono HB6.out.size)); have HK7 := Lib.hid (HALL.out _ HB7.out); have HT7 := Lib.hid (HT6.out.below hb7); clear hb7)
          | ((with_reducible refine (K4.out _ HT7.out).mono ?_); rintro e w8 ⟨rfl, hb8⟩; have HB8 := Lib.hid (HB7.out.trans (hb8.mono HB7.out.size)); have HK8 := Lib.hid (HALL.out _ HB8.out); have HT8 := Lib.hid (HT7.out.below hb8); clear hb8)
          | ((with_reducible refine (KW.out _ HB8.out).mono ?_); rintro e w9 ⟨⟨z9, rfl⟩, hB9, hk9⟩; have HV9 := Lib.hid (hk9 _ _ _ (HV4.out.new' HB8.out) (by decide) (by decide)); have HB9 := Lib.hid hB9; have HK9 : Hid (KeepW W4 w9) := Lib.hid ((KeepW.new HB8.out).trans hk9); have HS9 := Lib.hid (And.intro (HV9.out.cell 0) (And.intro (HV9.out.cell 1) (And.intro (HV9.out.cell 2) (HV9.out.cell 3)))); clear hB9 hk9))
      have HT9 := Lib.hid (HT.out.below HB9.out.bel)
      clear q0 q1 q2 q3 hcl nn1 nn2 nn3 nn4 nn5 nn6 nn7 nn8 nn9 HALL HS9 HK9 KW K1 K2 K3 K4 HB4 HV4 HD4 HT4 HT5 HT6 HT7 HT8 HK5 HK6 HK7 HK8 HB5 HB6 HB7 HB8
      cases ge with
      | false =>
        have v10 := HV9.out.cell 10
        have v4 := HV9.out.cell 4
        have vl9 := HV9.out.lt
        simp only [List.getElem?_toArray, List.getElem?_cons_zero, List.getElem?_cons_succ] at v4 v10
        go_wp2_with fail
        refine (write_in HB9.out ⟨#[10]⟩ (by have := HLX.out; simp only [codeT, List.length_append, List.length_cons, List.length_nil, if_true, if_false, Bool.false_eq_true] at this ⊢; simp only [ByteArray.size_mk', List.size_toArray, List.length_cons, List.length_nil]; omega)).mono ?_
        rintro e w10 ⟨rfl, hB, hk⟩
        have HB10 := Lib.hid hB
        have HV10 := Lib.hid (hk _ _ _ HV9.out (by decide) (by decide))
        clear hB hk HB9 HV9 v4 v10 vl9
        have v10 := HV10.out.cell 10
        have v4 := HV10.out.cell 4
        have vl9 := HV10.out.lt
        simp only [List.getElem?_toArray, List.getElem?_cons_zero, List.getElem?_cons_succ] at v4 v10
        go_wp2_with fail
        clear v4 v10 vl9 HV10
        have hL2 : numbered codeT 0 (p.take k) ++ codeT k ⟨nm, kd, pa, de, false, lo, ce, fr, na, co, is⟩ = numbered codeT 0 (p.take k) ++ (headT k ⟨nm, kd, pa, de, false, lo, ce, fr, na, co, is⟩) ++ [10] ++ numbered insT 0 is := by
          simp only [codeT, if_true, if_false, Bool.false_eq_true, List.append_assoc, List.nil_append]
        obtain ⟨L2, hL⟩ : ∃ L, L = numbered codeT 0 (p.take k) ++ (headT k ⟨nm, kd, pa, de, false, lo, ce, fr, na, co, is⟩) ++ [10] := ⟨_, rfl⟩
        have hBt : Bt w w10 w.heap.size L2 := by rw [hL]; exact HB10.out
        rw [← hL] at hL2
        have hlen : L2.length + (numbered insT 0 is).length ≤ 140737488355328 := by
          have h1 := congrArg List.length hL2
          rw [List.length_append, List.length_append] at h1
          have := HLX.out
          omega
        have HL2 := Lib.hid hL2
        have HLEN := Lib.hid hlen
        have HBT := Lib.hid hBt
        clear hL2 hlen hBt hL HB10
        go_loopw [46] (fun i wr => ∃ j : Nat, j ≤ n6 ∧ i = .int .i64 j ∧ Bt w wr w.heap.size (L2 ++ numbered insT 0 (is.take j))) (fun i _ => n6 - (intOf i).toNat)
        case atStart => exact ⟨0, by omega, rfl, by rw [List.take_zero, numbered, List.append_nil]; exact HBT.out⟩
        case round =>
          clear HBT
          obtain ⟨j, hj, rfl, hB⟩ := hrel
          have hbel := hB.bel
          have hwz := hbel.size
          by_cases hlt2 : j < n6
          · obtain ⟨v, hx⟩ : ∃ v, is[j]? = some v := ⟨_, List.getElem?_eq_getElem (by rw [H6.out.1]; exact hlt2)⟩
            have h63 := H6.out.2.le
            have hil := H6.out.1
            obtain ⟨bi, oi, rfl, hbi, hci⟩ := H6.out.at_ (f := insCs) (m := 2) (fun _ => rfl) hx
            obtain ⟨htk, hsp⟩ := take_snoc hx
            have h64 := HN4.out v (List.mem_of_getElem? hx)
            have HJX := Lib.hid (show numbered insT 0 (is.take (j + 1)) = numbered insT 0 (is.take j) ++ insT j v by rw [htk, numbered_snoc, List.length_take, Nat.zero_add, Nat.min_eq_left (by omega)])
            have hli : L2.length + (numbered insT 0 (is.take j)).length + (insT j v).length ≤ 140737488355328 := by
              have := HLEN.out
              rw [hsp, numbered_split, numbered, List.length_append, List.length_append, Nat.zero_add, List.length_take, Nat.min_eq_left (by omega)] at this
              omega
            have HLI2 := Lib.hid hli
            have HLI : Hid ((insT j v).length ≤ 140737488355328) := Lib.hid (by omega)
            clear htk hsp hli hil
            obtain ⟨vo, va⟩ := v
            have e0 : wr.cell? ⟨bi, oi + j * 2, none⟩ = some (.int .i64 vo) := (hbel.cell (p := ⟨bi, oi + j * 2, none⟩) hbi).trans (hci 0 _ rfl)
            have e1 : wr.cell? ⟨bi, oi + j * 2 + 1, none⟩ = some (.int .i64 va) := (hbel.cell (p := ⟨bi, oi + j * 2 + 1, none⟩) hbi).trans (hci 1 _ rfl)
            have hbr2 : bi < wr.heap.size := by omega
            have hb5 : Below wr.heap.size wr (wr.alloc (.cells #[.int .i64 vo, .int .i64 va] 64)) := (by repeat (first | exact Below.refl _ _ | assumption | refine Below.setCell ?_ (by first | (simp; done) | (simp; omega) | omega) _ | refine below_drewN ?_ _ | refine Below.drew ?_ | refine Below.alloc ?_ (by first | (simp; done) | (simp; omega) | omega) _))
            have HB5 := Lib.hid (hB.new hb5)
            have HX5 := Lib.hid (Blk.new wr 64 #[.int .i64 vo, .int .i64 va])
            have HTA := Lib.hid (HT.out.below (hbel.trans (hb5.mono hwz)))
            obtain ⟨J1, hJ1⟩ : ∃ I, I = bstr (Lib.itoa (j : Int)) := ⟨_, rfl⟩
            obtain ⟨J2, hJ2⟩ : ∃ I, I = bstr (Lib.itoa va) := ⟨_, rfl⟩
            have hj64 : I64 (j : Int) := ⟨by omega, by omega⟩
            have KJ1 : Hid (∀ w, Tabs w → Calls Tryd.prog 31 #[.int .i64 j] w fun e w' => e = .returned (.string J1) ∧ Below w.heap.size w w') := Lib.hid fun w ht => hJ1 ▸ itoa_in (j : Int) hj64 w ht
            have KJ2 : Hid (∀ w, Tabs w → Calls Tryd.prog 31 #[.int .i64 va] w fun e w' => e = .returned (.string J2) ∧ Below w.heap.size w w') := Lib.hid fun w ht => hJ2 ▸ itoa_in va h64 w ht
            have HJ1 := Lib.hid hJ1
            have HJ2 := Lib.hid hJ2
            clear hB hbel hx hci hb5 h64 hj64 hJ1 hJ2
            go_wp2_with fail
            generalize wr.alloc (.cells #[.int .i64 vo, .int .i64 va] 64) = W5 at *
            generalize wr.heap.size = xb at *
            clear e0 e1
            refine (name_any vo _ HTA.out.1).mono ?_
            rintro e W6 ⟨rfl, hb6⟩
            have HB6 := Lib.hid (HB5.out.new hb6)
            have HX6 := Lib.hid (HX5.out.new' hb6)
            have HT6 := Lib.hid (HTA.out.below hb6)
            clear hb6
            obtain ⟨NB, hNB⟩ : ∃ N : ByteArray, N = ⟨(nameB vo).toArray⟩ := ⟨_, rfl⟩
            rw [← hNB]
            have y1 := HX6.out.cell 1
            have hxl := HX6.out.lt
            simp only [List.getElem?_toArray, List.getElem?_cons_zero, List.getElem?_cons_succ] at y1
            cases he : NB.toList.isEmpty with
            | true =>
              have hnb : nameB vo = [] := by
                rw [List.isEmpty_iff, ByteArray.toList_eq, hNB] at he
                exact he
              have HNB := Lib.hid hnb
              clear hNB hnb
              have hJ1 := HJ1.out
              have hJ2 := HJ2.out
              have hline : insT j (vo, va) = ((⟨#[32, 32]⟩ : ByteArray) ++ J1 ++ ⟨#[32]⟩ ++ (⟨#[63]⟩ : ByteArray) ++ ⟨#[32]⟩ ++ J2 ++ ⟨#[10]⟩).data.toList := by
                rw [hJ1, hJ2]
                have hm8 := HNB.out
                simp [insT, ByteArray.data_append, bstr, hm8]
              have hll : (insT j (vo, va)).length = 2 + J1.size + 1 + 1 + 1 + J2.size + 1 := by
                rw [hline, sizeB]
                simp only [ByteArray.size_append, ByteArray.size_mk', List.size_toArray, List.length_cons, List.length_nil]
              have hbig := HLI.out
              rw [hll] at hbig
              have nn1 : ¬ 9223372036854775807 < 2 + J1.size := by omega
              have nn2 : ¬ 9223372036854775807 < 2 + J1.size + 1 := by omega
              have nn3 : ¬ 9223372036854775807 < 2 + J1.size + 1 + 1 := by omega
              have nn4 : ¬ 9223372036854775807 < 2 + J1.size + 1 + 1 + 1 := by omega
              have nn5 : ¬ 9223372036854775807 < 2 + J1.size + 1 + 1 + 1 + J2.size := by omega
              have nn6 : ¬ 9223372036854775807 < 2 + J1.size + 1 + 1 + 1 + J2.size + 1 := by omega
              have hsz : ((⟨#[32, 32]⟩ : ByteArray) ++ J1 ++ ⟨#[32]⟩ ++ (⟨#[63]⟩ : ByteArray) ++ ⟨#[32]⟩ ++ J2 ++ ⟨#[10]⟩).size = (insT j (vo, va)).length := by rw [hline, sizeB]
              have KW : Hid (∀ w', Below W6.heap.size W6 w' → Calls Tryd.prog 30 #[.pointer (some ⟨w.heap.size, 0, none⟩), .string ((⟨#[32, 32]⟩ : ByteArray) ++ J1 ++ ⟨#[32]⟩ ++ (⟨#[63]⟩ : ByteArray) ++ ⟨#[32]⟩ ++ J2 ++ ⟨#[10]⟩)] w' fun e w'' => (∃ z : Int, e = .returned (.tuple #[.int .i64 z, .nilIface])) ∧ Bt w w'' w.heap.size (L2 ++ numbered insT 0 (is.take j) ++ insT j (vo, va)) ∧ KeepW w' w'') := Lib.hid fun w' hb => (write_in (HB6.out.new hb) _ (by rw [hsz, List.length_append]; exact HLI2.out)).mono fun e w'' ⟨h1, h2, h3⟩ => ⟨⟨_, h1⟩, by rw [hline]; exact h2, h3⟩
              clear hJ1 hJ2 hline hll hbig hsz
              go_wp2_with fail
              clear he
              have HD6 : Hid (Below W6.heap.size W6 W6.drew) := Lib.hid (by repeat (first | exact Below.refl _ _ | assumption | refine Below.setCell ?_ (by first | (simp; done) | (simp; omega) | omega) _ | refine below_drewN ?_ _ | refine Below.drew ?_ | refine Below.alloc ?_ (by first | (simp; done) | (simp; omega) | omega) _))
              have HTD : Hid (Tabs W6.drew) := Lib.hid (HT6.out.below HD6.out)
              have HALL : Hid (∀ w', Below W6.heap.size W6 w' → (fun w' => w'.cell? ⟨xb, 1, none⟩ = some (.int .i64 va)) w') := Lib.hid fun w' hb => (HX6.out.new' hb).cell 1
              go_region_held3 (fun w' => w'.cell? ⟨xb, 1, none⟩ = some (.int .i64 va)) (first | exact HK7.out | exact HK8.out | exact HS9.out | go_keep)
                (first
                  | ((with_reducible refine (KJ1.out _ HTD.out).mono ?_); rintro e w7 ⟨rfl, hb7⟩; have HB7 := Lib.hid (HD6.out.trans hb7); have HK7 := Lib.hid (HALL.out _ HB7.out); have HT7 := Lib.hid (HTD.out.below hb7); clear hb7)
                  | ((with_reducible refine (KJ2.out _ HT7.out).mono ?_); rintro e w8 ⟨rfl, hb8⟩; have HB8 := Lib.hid (HB7.out.trans (hb8.mono HB7.out.size)); have HK8 := Lib.hid (HALL.out _ HB8.out); clear hb8)
                  | ((with_reducible refine (KW.out _ HB8.out).mono ?_); rintro e w9 ⟨⟨z9, rfl⟩, hB9, hk9⟩; have HB9 := Lib.hid hB9; have HS9 := Lib.hid ((hk9 _ _ _ (HX6.out.new' HB8.out) (by decide) (by decide)).cell 1); clear hB9 hk9))
              clear nn1 nn2 nn3 nn4 nn5 nn6 y1 hxl
              go_wp2
              go_roundw
              case rel => exact ⟨j + 1, by omega, by go_num, by rw [HJX.out, ← List.append_assoc]; exact HB9.out⟩
              case measure => simp [intOf]; omega
            | false =>
              have hnb : ¬ nameB vo = [] := by
                intro h0
                rw [ByteArray.toList_eq, hNB, h0] at he
                cases he
              have HNB := Lib.hid hnb
              have HNN := Lib.hid hNB
              clear hNB hnb
              have hJ1 := HJ1.out
              have hJ2 := HJ2.out
              have hline : insT j (vo, va) = ((⟨#[32, 32]⟩ : ByteArray) ++ J1 ++ ⟨#[32]⟩ ++ NB ++ ⟨#[32]⟩ ++ J2 ++ ⟨#[10]⟩).data.toList := by
                rw [hJ1, hJ2]
                have hm8 := HNB.out
                rw [HNN.out]
                simp [insT, ByteArray.data_append, bstr, hm8]
              have hll : (insT j (vo, va)).length = 2 + J1.size + 1 + NB.size + 1 + J2.size + 1 := by
                rw [hline, sizeB]
                simp only [ByteArray.size_append, ByteArray.size_mk', List.size_toArray, List.length_cons, List.length_nil]
              have hbig := HLI.out
              rw [hll] at hbig
              have nn1 : ¬ 9223372036854775807 < 2 + J1.size := by omega
              have nn2 : ¬ 9223372036854775807 < 2 + J1.size + 1 := by omega
              have nn3 : ¬ 9223372036854775807 < 2 + J1.size + 1 + NB.size := by omega
              have nn4 : ¬ 9223372036854775807 < 2 + J1.size + 1 + NB.size + 1 := by omega
              have nn5 : ¬ 9223372036854775807 < 2 + J1.size + 1 + NB.size + 1 + J2.size := by omega
              have nn6 : ¬ 9223372036854775807 < 2 + J1.size + 1 + NB.size + 1 + J2.size + 1 := by omega
              have hsz : ((⟨#[32, 32]⟩ : ByteArray) ++ J1 ++ ⟨#[32]⟩ ++ NB ++ ⟨#[32]⟩ ++ J2 ++ ⟨#[10]⟩).size = (insT j (vo, va)).length := by rw [hline, sizeB]
              have KW : Hid (∀ w', Below W6.heap.size W6 w' → Calls Tryd.prog 30 #[.pointer (some ⟨w.heap.size, 0, none⟩), .string ((⟨#[32, 32]⟩ : ByteArray) ++ J1 ++ ⟨#[32]⟩ ++ NB ++ ⟨#[32]⟩ ++ J2 ++ ⟨#[10]⟩)] w' fun e w'' => (∃ z : Int, e = .returned (.tuple #[.int .i64 z, .nilIface])) ∧ Bt w w'' w.heap.size (L2 ++ numbered insT 0 (is.take j) ++ insT j (vo, va)) ∧ KeepW w' w'') := Lib.hid fun w' hb => (write_in (HB6.out.new hb) _ (by rw [hsz, List.length_append]; exact HLI2.out)).mono fun e w'' ⟨h1, h2, h3⟩ => ⟨⟨_, h1⟩, by rw [hline]; exact h2, h3⟩
              clear hJ1 hJ2 hline hll hbig hsz
              go_wp2_with fail
              clear he
              have HD6 : Hid (Below W6.heap.size W6 W6.drew) := Lib.hid (by repeat (first | exact Below.refl _ _ | assumption | refine Below.setCell ?_ (by first | (simp; done) | (simp; omega) | omega) _ | refine below_drewN ?_ _ | refine Below.drew ?_ | refine Below.alloc ?_ (by first | (simp; done) | (simp; omega) | omega) _))
              have HTD : Hid (Tabs W6.drew) := Lib.hid (HT6.out.below HD6.out)
              have HALL : Hid (∀ w', Below W6.heap.size W6 w' → (fun w' => w'.cell? ⟨xb, 1, none⟩ = some (.int .i64 va)) w') := Lib.hid fun w' hb => (HX6.out.new' hb).cell 1
              go_region_held3 (fun w' => w'.cell? ⟨xb, 1, none⟩ = some (.int .i64 va)) (first | exact HK7.out | exact HK8.out | exact HS9.out | go_keep)
                (first
                  | ((with_reducible refine (KJ1.out _ HTD.out).mono ?_); rintro e w7 ⟨rfl, hb7⟩; have HB7 := Lib.hid (HD6.out.trans hb7); have HK7 := Lib.hid (HALL.out _ HB7.out); have HT7 := Lib.hid (HTD.out.below hb7); clear hb7)
                  | ((with_reducible refine (KJ2.out _ HT7.out).mono ?_); rintro e w8 ⟨rfl, hb8⟩; have HB8 := Lib.hid (HB7.out.trans (hb8.mono HB7.out.size)); have HK8 := Lib.hid (HALL.out _ HB8.out); clear hb8)
                  | ((with_reducible refine (KW.out _ HB8.out).mono ?_); rintro e w9 ⟨⟨z9, rfl⟩, hB9, hk9⟩; have HB9 := Lib.hid hB9; have HS9 := Lib.hid ((hk9 _ _ _ (HX6.out.new' HB8.out) (by decide) (by decide)).cell 1); clear hB9 hk9))
              clear nn1 nn2 nn3 nn4 nn5 nn6 y1 hxl
              go_wp2
              go_roundw
              case rel => exact ⟨j + 1, by omega, by go_num, by rw [HJX.out, ← List.append_assoc]; exact HB9.out⟩
              case measure => simp [intOf]; omega
          · obtain rfl : j = n6 := by omega
            have htk : is.take j = is := List.take_of_length_le (by rw [H6.out.1]; exact Nat.le_refl _)
            rw [htk] at hB
            have HBF := Lib.hid hB
            clear hB htk hbel
            go_wp2
            go_roundw
            case rel => exact ⟨k + 1, by omega, by go_num, by rw [HX.out, HL2.out]; exact HBF.out⟩
            case measure => simp [intOf]; omega
      | true =>
        have v10 := HV9.out.cell 10
        have v4 := HV9.out.cell 4
        have vl9 := HV9.out.lt
        simp only [List.getElem?_toArray, List.getElem?_cons_zero, List.getElem?_cons_succ] at v4 v10
        go_wp2_with fail
        refine (write_in HB9.out ⟨#[32, 103, 101, 110]⟩ (by have := HLX.out; simp only [codeT, List.length_append, List.length_cons, List.length_nil, if_true, if_false, Bool.false_eq_true] at this ⊢; simp only [ByteArray.size_mk', List.size_toArray, List.length_cons, List.length_nil]; omega)).mono ?_
        rintro e w10 ⟨rfl, hB, hk⟩
        have HB10 := Lib.hid hB
        have HV10 := Lib.hid (hk _ _ _ HV9.out (by decide) (by decide))
        clear hB hk HB9 HV9 v4 v10 vl9
        have v10 := HV10.out.cell 10
        have v4 := HV10.out.cell 4
        have vl9 := HV10.out.lt
        simp only [List.getElem?_toArray, List.getElem?_cons_zero, List.getElem?_cons_succ] at v4 v10
        go_wp2_with fail
        refine (write_in HB10.out ⟨#[10]⟩ (by have := HLX.out; simp only [codeT, List.length_append, List.length_cons, List.length_nil, if_true, if_false, Bool.false_eq_true] at this ⊢; simp only [ByteArray.size_mk', List.size_toArray, List.length_cons, List.length_nil]; omega)).mono ?_
        rintro e w11 ⟨rfl, hB, hk⟩
        have HB11 := Lib.hid hB
        have HV11 := Lib.hid (hk _ _ _ HV10.out (by decide) (by decide))
        clear hB hk HB10 HV10 v4 v10 vl9
        have v10 := HV11.out.cell 10
        have v4 := HV11.out.cell 4
        have vl9 := HV11.out.lt
        simp only [List.getElem?_toArray, List.getElem?_cons_zero, List.getElem?_cons_succ] at v4 v10
        go_wp2_with fail
        clear v4 v10 vl9 HV11
        have hL2 : numbered codeT 0 (p.take k) ++ codeT k ⟨nm, kd, pa, de, true, lo, ce, fr, na, co, is⟩ = numbered codeT 0 (p.take k) ++ (headT k ⟨nm, kd, pa, de, true, lo, ce, fr, na, co, is⟩) ++ [32, 103, 101, 110] ++ [10] ++ numbered insT 0 is := by
          simp only [codeT, if_true, if_false, Bool.false_eq_true, List.append_assoc, List.nil_append]
        obtain ⟨L2, hL⟩ : ∃ L, L = numbered codeT 0 (p.take k) ++ (headT k ⟨nm, kd, pa, de, true, lo, ce, fr, na, co, is⟩) ++ [32, 103, 101, 110] ++ [10] := ⟨_, rfl⟩
        have hBt : Bt w w11 w.heap.size L2 := by rw [hL]; exact HB11.out
        rw [← hL] at hL2
        have hlen : L2.length + (numbered insT 0 is).length ≤ 140737488355328 := by
          have h1 := congrArg List.length hL2
          rw [List.length_append, List.length_append] at h1
          have := HLX.out
          omega
        have HL2 := Lib.hid hL2
        have HLEN := Lib.hid hlen
        have HBT := Lib.hid hBt
        clear hL2 hlen hBt hL HB11
        go_loopw [46] (fun i wr => ∃ j : Nat, j ≤ n6 ∧ i = .int .i64 j ∧ Bt w wr w.heap.size (L2 ++ numbered insT 0 (is.take j))) (fun i _ => n6 - (intOf i).toNat)
        case atStart => exact ⟨0, by omega, rfl, by rw [List.take_zero, numbered, List.append_nil]; exact HBT.out⟩
        case round =>
          clear HBT
          obtain ⟨j, hj, rfl, hB⟩ := hrel
          have hbel := hB.bel
          have hwz := hbel.size
          by_cases hlt2 : j < n6
          · obtain ⟨v, hx⟩ : ∃ v, is[j]? = some v := ⟨_, List.getElem?_eq_getElem (by rw [H6.out.1]; exact hlt2)⟩
            have h63 := H6.out.2.le
            have hil := H6.out.1
            obtain ⟨bi, oi, rfl, hbi, hci⟩ := H6.out.at_ (f := insCs) (m := 2) (fun _ => rfl) hx
            obtain ⟨htk, hsp⟩ := take_snoc hx
            have h64 := HN4.out v (List.mem_of_getElem? hx)
            have HJX := Lib.hid (show numbered insT 0 (is.take (j + 1)) = numbered insT 0 (is.take j) ++ insT j v by rw [htk, numbered_snoc, List.length_take, Nat.zero_add, Nat.min_eq_left (by omega)])
            have hli : L2.length + (numbered insT 0 (is.take j)).length + (insT j v).length ≤ 140737488355328 := by
              have := HLEN.out
              rw [hsp, numbered_split, numbered, List.length_append, List.length_append, Nat.zero_add, List.length_take, Nat.min_eq_left (by omega)] at this
              omega
            have HLI2 := Lib.hid hli
            have HLI : Hid ((insT j v).length ≤ 140737488355328) := Lib.hid (by omega)
            clear htk hsp hli hil
            obtain ⟨vo, va⟩ := v
            have e0 : wr.cell? ⟨bi, oi + j * 2, none⟩ = some (.int .i64 vo) := (hbel.cell (p := ⟨bi, oi + j * 2, none⟩) hbi).trans (hci 0 _ rfl)
            have e1 : wr.cell? ⟨bi, oi + j * 2 + 1, none⟩ = some (.int .i64 va) := (hbel.cell (p := ⟨bi, oi + j * 2 + 1, none⟩) hbi).trans (hci 1 _ rfl)
            have hbr2 : bi < wr.heap.size := by omega
            have hb5 : Below wr.heap.size wr (wr.alloc (.cells #[.int .i64 vo, .int .i64 va] 64)) := (by repeat (first | exact Below.refl _ _ | assumption | refine Below.setCell ?_ (by first | (simp; done) | (simp; omega) | omega) _ | refine below_drewN ?_ _ | refine Below.drew ?_ | refine Below.alloc ?_ (by first | (simp; done) | (simp; omega) | omega) _))
            have HB5 := Lib.hid (hB.new hb5)
            have HX5 := Lib.hid (Blk.new wr 64 #[.int .i64 vo, .int .i64 va])
            have HTA := Lib.hid (HT.out.below (hbel.trans (hb5.mono hwz)))
            obtain ⟨J1, hJ1⟩ : ∃ I, I = bstr (Lib.itoa (j : Int)) := ⟨_, rfl⟩
            obtain ⟨J2, hJ2⟩ : ∃ I, I = bstr (Lib.itoa va) := ⟨_, rfl⟩
            have hj64 : I64 (j : Int) := ⟨by omega, by omega⟩
            have KJ1 : Hid (∀ w, Tabs w → Calls Tryd.prog 31 #[.int .i64 j] w fun e w' => e = .returned (.string J1) ∧ Below w.heap.size w w') := Lib.hid fun w ht => hJ1 ▸ itoa_in (j : Int) hj64 w ht
            have KJ2 : Hid (∀ w, Tabs w → Calls Tryd.prog 31 #[.int .i64 va] w fun e w' => e = .returned (.string J2) ∧ Below w.heap.size w w') := Lib.hid fun w ht => hJ2 ▸ itoa_in va h64 w ht
            have HJ1 := Lib.hid hJ1
            have HJ2 := Lib.hid hJ2
            clear hB hbel hx hci hb5 h64 hj64 hJ1 hJ2
            go_wp2_with fail
            generalize wr.alloc (.cells #[.int .i64 vo, .int .i64 va] 64) = W5 at *
            generalize wr.heap.size = xb at *
            clear e0 e1
            refine (name_any vo _ HTA.out.1).mono ?_
            rintro e W6 ⟨rfl, hb6⟩
            have HB6 := Lib.hid (HB5.out.new hb6)
            have HX6 := Lib.hid (HX5.out.new' hb6)
            have HT6 := Lib.hid (HTA.out.below hb6)
            clear hb6
            obtain ⟨NB, hNB⟩ : ∃ N : ByteArray, N = ⟨(nameB vo).toArray⟩ := ⟨_, rfl⟩
            rw [← hNB]
            have y1 := HX6.out.cell 1
            have hxl := HX6.out.lt
            simp only [List.getElem?_toArray, List.getElem?_cons_zero, List.getElem?_cons_succ] at y1
            cases he : NB.toList.isEmpty with
            | true =>
              have hnb : nameB vo = [] := by
                rw [List.isEmpty_iff, ByteArray.toList_eq, hNB] at he
                exact he
              have HNB := Lib.hid hnb
              clear hNB hnb
              have hJ1 := HJ1.out
              have hJ2 := HJ2.out
              have hline : insT j (vo, va) = ((⟨#[32, 32]⟩ : ByteArray) ++ J1 ++ ⟨#[32]⟩ ++ (⟨#[63]⟩ : ByteArray) ++ ⟨#[32]⟩ ++ J2 ++ ⟨#[10]⟩).data.toList := by
                rw [hJ1, hJ2]
                have hm8 := HNB.out
                simp [insT, ByteArray.data_append, bstr, hm8]
              have hll : (insT j (vo, va)).length = 2 + J1.size + 1 + 1 + 1 + J2.size + 1 := by
                rw [hline, sizeB]
                simp only [ByteArray.size_append, ByteArray.size_mk', List.size_toArray, List.length_cons, List.length_nil]
              have hbig := HLI.out
              rw [hll] at hbig
              have nn1 : ¬ 9223372036854775807 < 2 + J1.size := by omega
              have nn2 : ¬ 9223372036854775807 < 2 + J1.size + 1 := by omega
              have nn3 : ¬ 9223372036854775807 < 2 + J1.size + 1 + 1 := by omega
              have nn4 : ¬ 9223372036854775807 < 2 + J1.size + 1 + 1 + 1 := by omega
              have nn5 : ¬ 9223372036854775807 < 2 + J1.size + 1 + 1 + 1 + J2.size := by omega
              have nn6 : ¬ 9223372036854775807 < 2 + J1.size + 1 + 1 + 1 + J2.size + 1 := by omega
              have hsz : ((⟨#[32, 32]⟩ : ByteArray) ++ J1 ++ ⟨#[32]⟩ ++ (⟨#[63]⟩ : ByteArray) ++ ⟨#[32]⟩ ++ J2 ++ ⟨#[10]⟩).size = (insT j (vo, va)).length := by rw [hline, sizeB]
              have KW : Hid (∀ w', Below W6.heap.size W6 w' → Calls Tryd.prog 30 #[.pointer (some ⟨w.heap.size, 0, none⟩), .string ((⟨#[32, 32]⟩ : ByteArray) ++ J1 ++ ⟨#[32]⟩ ++ (⟨#[63]⟩ : ByteArray) ++ ⟨#[32]⟩ ++ J2 ++ ⟨#[10]⟩)] w' fun e w'' => (∃ z : Int, e = .returned (.tuple #[.int .i64 z, .nilIface])) ∧ Bt w w'' w.heap.size (L2 ++ numbered insT 0 (is.take j) ++ insT j (vo, va)) ∧ KeepW w' w'') := Lib.hid fun w' hb => (write_in (HB6.out.new hb) _ (by rw [hsz, List.length_append]; exact HLI2.out)).mono fun e w'' ⟨h1, h2, h3⟩ => ⟨⟨_, h1⟩, by rw [hline]; exact h2, h3⟩
              clear hJ1 hJ2 hline hll hbig hsz
              go_wp2_with fail
              clear he
              have HD6 : Hid (Below W6.heap.size W6 W6.drew) := Lib.hid (by repeat (first | exact Below.refl _ _ | assumption | refine Below.setCell ?_ (by first | (simp; done) | (simp; omega) | omega) _ | refine below_drewN ?_ _ | refine Below.drew ?_ | refine Below.alloc ?_ (by first | (simp; done) | (simp; omega) | omega) _))
              have HTD : Hid (Tabs W6.drew) := Lib.hid (HT6.out.below HD6.out)
              have HALL : Hid (∀ w', Below W6.heap.size W6 w' → (fun w' => w'.cell? ⟨xb, 1, none⟩ = some (.int .i64 va)) w') := Lib.hid fun w' hb => (HX6.out.new' hb).cell 1
              go_region_held3 (fun w' => w'.cell? ⟨xb, 1, none⟩ = some (.int .i64 va)) (first | exact HK7.out | exact HK8.out | exact HS9.out | go_keep)
                (first
                  | ((with_reducible refine (KJ1.out _ HTD.out).mono ?_); rintro e w7 ⟨rfl, hb7⟩; have HB7 := Lib.hid (HD6.out.trans hb7); have HK7 := Lib.hid (HALL.out _ HB7.out); have HT7 := Lib.hid (HTD.out.below hb7); clear hb7)
                  | ((with_reducible refine (KJ2.out _ HT7.out).mono ?_); rintro e w8 ⟨rfl, hb8⟩; have HB8 := Lib.hid (HB7.out.trans (hb8.mono HB7.out.size)); have HK8 := Lib.hid (HALL.out _ HB8.out); clear hb8)
                  | ((with_reducible refine (KW.out _ HB8.out).mono ?_); rintro e w9 ⟨⟨z9, rfl⟩, hB9, hk9⟩; have HB9 := Lib.hid hB9; have HS9 := Lib.hid ((hk9 _ _ _ (HX6.out.new' HB8.out) (by decide) (by decide)).cell 1); clear hB9 hk9))
              clear nn1 nn2 nn3 nn4 nn5 nn6 y1 hxl
              go_wp2
              go_roundw
              case rel => exact ⟨j + 1, by omega, by go_num, by rw [HJX.out, ← List.append_assoc]; exact HB9.out⟩
              case measure => simp [intOf]; omega
            | false =>
              have hnb : ¬ nameB vo = [] := by
                intro h0
                rw [ByteArray.toList_eq, hNB, h0] at he
                cases he
              have HNB := Lib.hid hnb
              have HNN := Lib.hid hNB
              clear hNB hnb
              have hJ1 := HJ1.out
              have hJ2 := HJ2.out
              have hline : insT j (vo, va) = ((⟨#[32, 32]⟩ : ByteArray) ++ J1 ++ ⟨#[32]⟩ ++ NB ++ ⟨#[32]⟩ ++ J2 ++ ⟨#[10]⟩).data.toList := by
                rw [hJ1, hJ2]
                have hm8 := HNB.out
                rw [HNN.out]
                simp [insT, ByteArray.data_append, bstr, hm8]
              have hll : (insT j (vo, va)).length = 2 + J1.size + 1 + NB.size + 1 + J2.size + 1 := by
                rw [hline, sizeB]
                simp only [ByteArray.size_append, ByteArray.size_mk', List.size_toArray, List.length_cons, List.length_nil]
              have hbig := HLI.out
              rw [hll] at hbig
              have nn1 : ¬ 9223372036854775807 < 2 + J1.size := by omega
              have nn2 : ¬ 9223372036854775807 < 2 + J1.size + 1 := by omega
              have nn3 : ¬ 9223372036854775807 < 2 + J1.size + 1 + NB.size := by omega
              have nn4 : ¬ 9223372036854775807 < 2 + J1.size + 1 + NB.size + 1 := by omega
              have nn5 : ¬ 9223372036854775807 < 2 + J1.size + 1 + NB.size + 1 + J2.size := by omega
              have nn6 : ¬ 9223372036854775807 < 2 + J1.size + 1 + NB.size + 1 + J2.size + 1 := by omega
              have hsz : ((⟨#[32, 32]⟩ : ByteArray) ++ J1 ++ ⟨#[32]⟩ ++ NB ++ ⟨#[32]⟩ ++ J2 ++ ⟨#[10]⟩).size = (insT j (vo, va)).length := by rw [hline, sizeB]
              have KW : Hid (∀ w', Below W6.heap.size W6 w' → Calls Tryd.prog 30 #[.pointer (some ⟨w.heap.size, 0, none⟩), .string ((⟨#[32, 32]⟩ : ByteArray) ++ J1 ++ ⟨#[32]⟩ ++ NB ++ ⟨#[32]⟩ ++ J2 ++ ⟨#[10]⟩)] w' fun e w'' => (∃ z : Int, e = .returned (.tuple #[.int .i64 z, .nilIface])) ∧ Bt w w'' w.heap.size (L2 ++ numbered insT 0 (is.take j) ++ insT j (vo, va)) ∧ KeepW w' w'') := Lib.hid fun w' hb => (write_in (HB6.out.new hb) _ (by rw [hsz, List.length_append]; exact HLI2.out)).mono fun e w'' ⟨h1, h2, h3⟩ => ⟨⟨_, h1⟩, by rw [hline]; exact h2, h3⟩
              clear hJ1 hJ2 hline hll hbig hsz
              go_wp2_with fail
              clear he
              have HD6 : Hid (Below W6.heap.size W6 W6.drew) := Lib.hid (by repeat (first | exact Below.refl _ _ | assumption | refine Below.setCell ?_ (by first | (simp; done) | (simp; omega) | omega) _ | refine below_drewN ?_ _ | refine Below.drew ?_ | refine Below.alloc ?_ (by first | (simp; done) | (simp; omega) | omega) _))
              have HTD : Hid (Tabs W6.drew) := Lib.hid (HT6.out.below HD6.out)
              have HALL : Hid (∀ w', Below W6.heap.size W6 w' → (fun w' => w'.cell? ⟨xb, 1, none⟩ = some (.int .i64 va)) w') := Lib.hid fun w' hb => (HX6.out.new' hb).cell 1
              go_region_held3 (fun w' => w'.cell? ⟨xb, 1, none⟩ = some (.int .i64 va)) (first | exact HK7.out | exact HK8.out | exact HS9.out | go_keep)
                (first
                  | ((with_reducible refine (KJ1.out _ HTD.out).mono ?_); rintro e w7 ⟨rfl, hb7⟩; have HB7 := Lib.hid (HD6.out.trans hb7); have HK7 := Lib.hid (HALL.out _ HB7.out); have HT7 := Lib.hid (HTD.out.below hb7); clear hb7)
                  | ((with_reducible refine (KJ2.out _ HT7.out).mono ?_); rintro e w8 ⟨rfl, hb8⟩; have HB8 := Lib.hid (HB7.out.trans (hb8.mono HB7.out.size)); have HK8 := Lib.hid (HALL.out _ HB8.out); clear hb8)
                  | ((with_reducible refine (KW.out _ HB8.out).mono ?_); rintro e w9 ⟨⟨z9, rfl⟩, hB9, hk9⟩; have HB9 := Lib.hid hB9; have HS9 := Lib.hid ((hk9 _ _ _ (HX6.out.new' HB8.out) (by decide) (by decide)).cell 1); clear hB9 hk9))
              clear nn1 nn2 nn3 nn4 nn5 nn6 y1 hxl
              go_wp2
              go_roundw
              case rel => exact ⟨j + 1, by omega, by go_num, by rw [HJX.out, ← List.append_assoc]; exact HB9.out⟩
              case measure => simp [intOf]; omega
          · obtain rfl : j = n6 := by omega
            have htk : is.take j = is := List.take_of_length_le (by rw [H6.out.1]; exact Nat.le_refl _)
            rw [htk] at hB
            have HBF := Lib.hid hB
            clear hB htk hbel
            go_wp2
            go_roundw
            case rel => exact ⟨k + 1, by omega, by go_num, by rw [HX.out, HL2.out]; exact HBF.out⟩
            case measure => simp [intOf]; omega
    · obtain rfl : k = n := by omega
      have htk : p.take k = p := List.take_of_length_le (by omega)
      rw [htk] at HB
      clear hB htk
      go_wp2_with fail
      refine (string_in HB.out).mono ?_
      rintro e w3 ⟨rfl, hb⟩
      have HBB := Lib.hid hb
      clear hb
      go_wp2_with fail
      go_ret
      exact ⟨rfl, HBB.out⟩
end Go.Proofs.YtcfelfhjhkenaaaDoor
