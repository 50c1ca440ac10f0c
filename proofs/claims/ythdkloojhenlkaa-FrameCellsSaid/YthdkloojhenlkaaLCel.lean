/- FrameCells: the walk. -/
import Derived.Test.YthdkloojhenlkaaStr
namespace Go.Proofs.Ythdkloojhenlkaa
open Go.RowKit
attribute [local go_sem high] guardV eqV neqV
attribute [local go_sem] V.v

def codeRow (k : Nat) (A2 : Option Addr) (c2 : Nat) (vC : Value) : Array Value :=
  #[.string ⟨#[]⟩, .int .i64 0, .int .i64 k, .int .i64 0, .bool false, .slice A2 6 c2, vC, .slice none 0 0, .slice none 0 0, .slice none 0 0, .slice none 0 0]
def names6 : List ByteArray := [⟨#[97]⟩, ⟨#[98]⟩, ⟨#[99]⟩, ⟨#[100]⟩, ⟨#[101]⟩, ⟨#[102]⟩]

def bitAt (b i : Nat) : Bool := bits BinOp.and IntKind.u8 ((b : Int) / 2 ^ i) 1 == 1
theorem and1 : ∀ a : Fin 256, (bits BinOp.and IntKind.u8 (a.val : Int) 1 == 0) = !(bits BinOp.and IntKind.u8 (a.val : Int) 1 == 1) := by decide +kernel
theorem bit0 (b i : Nat) (h : b < 256) : (bits BinOp.and IntKind.u8 ((b : Int) / 2 ^ i) 1 == 0) = !bitAt b i := by
  have e : (b : Int) / 2 ^ i = ((b / 2 ^ i : Nat) : Int) := by rw [Int.natCast_ediv, Int.natCast_pow]; rfl
  have hl : b / 2 ^ i < 256 := Nat.lt_of_le_of_lt (Nat.div_le_self _ _) h
  unfold bitAt
  rw [e]
  exact and1 ⟨b / 2 ^ i, hl⟩
/-- the names that are cells, of the first j -/
def sel (b : Nat) : Nat → List ByteArray
  | 0 => []
  | j + 1 => sel b j ++ (if bitAt b j then [names6.getD j ⟨#[]⟩] else [])

def nums (j : Nat) : List V := (List.range j).map fun (i : Nat) => numV i
theorem nums_succ (j : Nat) : nums (j + 1) = nums j ++ [numV j] := by simp [nums, List.range_succ]
theorem nums_len (j : Nat) : (nums j).length = j := by simp [nums]
theorem newrowE {w u : World} (hb : Below w.heap.size w u) {e0 : Nat} (he : e0 = u.heap.size) : NewRow w (u.alloc (.cells #[] 44)) (.slice (some ⟨e0, 0, none⟩) 0 0) [] := by
  subst he
  exact ⟨empty_own u, fun b e => by simp [Value.ownBlock] at e; have := hb.size; omega, hb.alloc hb.size _⟩
theorem sel_has (b j : Nat) (h : j < 6) : hasS (sel b 6) (names6.getD j ⟨#[]⟩) = bitAt b j := by
  have e : sel b 6 = (if bitAt b 0 then [(⟨#[97]⟩ : ByteArray)] else []) ++ (if bitAt b 1 then [(⟨#[98]⟩ : ByteArray)] else []) ++ (if bitAt b 2 then [(⟨#[99]⟩ : ByteArray)] else []) ++ (if bitAt b 3 then [(⟨#[100]⟩ : ByteArray)] else []) ++ (if bitAt b 4 then [(⟨#[101]⟩ : ByteArray)] else []) ++ (if bitAt b 5 then [(⟨#[102]⟩ : ByteArray)] else []) := by
    simp [sel, names6]
  rw [e]
  have h6 : j = 0 ∨ j = 1 ∨ j = 2 ∨ j = 3 ∨ j = 4 ∨ j = 5 := by omega
  have key : ∀ b0 b1 b2 b3 b4 b5 : Bool, hasS ((if b0 then [(⟨#[97]⟩ : ByteArray)] else []) ++ (if b1 then [(⟨#[98]⟩ : ByteArray)] else []) ++ (if b2 then [(⟨#[99]⟩ : ByteArray)] else []) ++ (if b3 then [(⟨#[100]⟩ : ByteArray)] else []) ++ (if b4 then [(⟨#[101]⟩ : ByteArray)] else []) ++ (if b5 then [(⟨#[102]⟩ : ByteArray)] else [])) ⟨#[97]⟩ = b0 ∧
      hasS ((if b0 then [(⟨#[97]⟩ : ByteArray)] else []) ++ (if b1 then [(⟨#[98]⟩ : ByteArray)] else []) ++ (if b2 then [(⟨#[99]⟩ : ByteArray)] else []) ++ (if b3 then [(⟨#[100]⟩ : ByteArray)] else []) ++ (if b4 then [(⟨#[101]⟩ : ByteArray)] else []) ++ (if b5 then [(⟨#[102]⟩ : ByteArray)] else [])) ⟨#[98]⟩ = b1 ∧
      hasS ((if b0 then [(⟨#[97]⟩ : ByteArray)] else []) ++ (if b1 then [(⟨#[98]⟩ : ByteArray)] else []) ++ (if b2 then [(⟨#[99]⟩ : ByteArray)] else []) ++ (if b3 then [(⟨#[100]⟩ : ByteArray)] else []) ++ (if b4 then [(⟨#[101]⟩ : ByteArray)] else []) ++ (if b5 then [(⟨#[102]⟩ : ByteArray)] else [])) ⟨#[99]⟩ = b2 ∧
      hasS ((if b0 then [(⟨#[97]⟩ : ByteArray)] else []) ++ (if b1 then [(⟨#[98]⟩ : ByteArray)] else []) ++ (if b2 then [(⟨#[99]⟩ : ByteArray)] else []) ++ (if b3 then [(⟨#[100]⟩ : ByteArray)] else []) ++ (if b4 then [(⟨#[101]⟩ : ByteArray)] else []) ++ (if b5 then [(⟨#[102]⟩ : ByteArray)] else [])) ⟨#[100]⟩ = b3 ∧
      hasS ((if b0 then [(⟨#[97]⟩ : ByteArray)] else []) ++ (if b1 then [(⟨#[98]⟩ : ByteArray)] else []) ++ (if b2 then [(⟨#[99]⟩ : ByteArray)] else []) ++ (if b3 then [(⟨#[100]⟩ : ByteArray)] else []) ++ (if b4 then [(⟨#[101]⟩ : ByteArray)] else []) ++ (if b5 then [(⟨#[102]⟩ : ByteArray)] else [])) ⟨#[101]⟩ = b4 ∧
      hasS ((if b0 then [(⟨#[97]⟩ : ByteArray)] else []) ++ (if b1 then [(⟨#[98]⟩ : ByteArray)] else []) ++ (if b2 then [(⟨#[99]⟩ : ByteArray)] else []) ++ (if b3 then [(⟨#[100]⟩ : ByteArray)] else []) ++ (if b4 then [(⟨#[101]⟩ : ByteArray)] else []) ++ (if b5 then [(⟨#[102]⟩ : ByteArray)] else [])) ⟨#[102]⟩ = b5 := by decide +kernel
  obtain ⟨k0, k1, k2, k3, k4, k5⟩ := key (bitAt b 0) (bitAt b 1) (bitAt b 2) (bitAt b 3) (bitAt b 4) (bitAt b 5)
  rcases h6 with rfl | rfl | rfl | rfl | rfl | rfl
  · exact k0
  · exact k1
  · exact k2
  · exact k3
  · exact k4
  · exact k5
theorem frc (CC : List ByteArray) (k : Nat) (zs : List V) (j : Nat) (hj : j < 6) (bt : Bool) (h : hasS CC (names6.getD j ⟨#[]⟩) = bt) :
    (Fr.new 0 names6 CC (nums k) zs).isBound j = (decide (j < k) && !bt) ∧ ((decide (j < k) && !bt) = true → (Fr.new 0 names6 CC (nums k) zs).load j = numV j) := by
  have h1 : (Fr.new 0 names6 CC (nums k) zs).has j = true := by
    refine decide_eq_true (p := 0 ≤ (j : Int) ∧ (j : Int) < ((locTo names6 CC (nums k) 6 (nums k).length).length : Int) ∧ (j : Int) < ((bndTo names6 CC 6 (nums k).length).length : Int)) ?_
    rw [locTo_length, bndTo_length]
    omega
  have h2 : (Fr.new 0 names6 CC (nums k) zs).isBound j = (decide (j < k) && !bt) := by
    unfold Fr.isBound
    rw [h1, Bool.true_and, Int.toNat_natCast]
    show (bndTo names6 CC 6 (nums k).length).getD j false = _
    rw [nums_len, List.getD_eq_getElem?_getD, List.getElem?_eq_getElem (by rw [bndTo_length]; exact hj)]
    simp only [bndTo, List.getElem_map, List.getElem_range, Option.getD_some]
    rw [h]
  refine ⟨h2, fun hb => ?_⟩
  unfold Fr.load
  rw [h2, hb, if_pos rfl, Int.toNat_natCast]
  show (locTo names6 CC (nums k) 6 (nums k).length).getD j V.zero = _
  have hk : j < k := by simp at hb; exact hb.1
  have hbt : bt = false := by simp at hb; exact hb.2
  rw [nums_len, List.getD_eq_getElem?_getD, List.getElem?_eq_getElem (by rw [locTo_length]; exact hj)]
  simp only [locTo, List.getElem_map, List.getElem_range, Option.getD_some]
  rw [h, hbt, Bool.and_false, if_neg (by simp), List.getD_eq_getElem?_getD, List.getElem?_eq_getElem (by rw [nums_len]; exact hk)]
  simp [nums]
theorem sel_len (b j : Nat) : (sel b j).length ≤ j := by
  induction j with
  | zero => simp [sel]
  | succ j ih =>
    simp only [sel, List.length_append]
    split <;> simp <;> omega

set_option maxRecDepth 100000 in
set_option maxHeartbeats 4000000 in
theorem cells_walk (nv bv : Nat) (o0 o1 : Int) (w : World) (hnv : nv < 256) (hbv : bv < 256) (h0 : -128 ≤ o0 ∧ o0 ≤ 127) (h1 : -128 ≤ o1 ∧ o1 ≤ 127) :
    Calls Try.prog 5 #[.int .u8 nv, .int .u8 bv, .agg #[.int .i8 o0, .int .i8 o1]] w fun e w' => e = .returned (.bool true) ∧ Below w.heap.size w w' := by
  have hbx : Below w.heap.size w (w.alloc (.cells #[.int .i8 o0, .int .i8 o1] 57)) := (by repeat (first | exact Below.refl _ _ | assumption | refine Below.setCell ?_ (by first | (simp; done) | (simp; omega) | omega) _ | refine below_drewN ?_ _ | refine Below.drew ?_ | refine Below.alloc ?_ (by first | (simp; done) | (simp; omega) | omega) _))
  have BX := Blk.new w 57 #[.int .i8 o0, .int .i8 o1]
  go_enter Try.func5, Try.ntmps5
  go_wp2_with fail
  refine (shown_any _).mono ?_
  rintro e w1 ⟨rfl, hb1⟩
  have HB := hbx.trans (hb1.mono (by simp))
  have BX := BX.below hb1 BX.lt
  clear hb1 hbx
  have BN := Blk.new w1 58 #[.string ⟨#[97]⟩, .string ⟨#[98]⟩, .string ⟨#[99]⟩, .string ⟨#[100]⟩, .string ⟨#[101]⟩, .string ⟨#[102]⟩]
  have hbn : Below w1.heap.size w1 (w1.alloc (.cells #[.string ⟨#[97]⟩, .string ⟨#[98]⟩, .string ⟨#[99]⟩, .string ⟨#[100]⟩, .string ⟨#[101]⟩, .string ⟨#[102]⟩] 58)) := (by repeat (first | exact Below.refl _ _ | assumption | refine Below.setCell ?_ (by first | (simp; done) | (simp; omega) | omega) _ | refine below_drewN ?_ _ | refine Below.drew ?_ | refine Below.alloc ?_ (by first | (simp; done) | (simp; omega) | omega) _))
  have BX := BX.below hbn BX.lt
  have HB := HB.trans (hbn.mono HB.size)
  have hbe : Below (w1.alloc (.cells #[.string ⟨#[97]⟩, .string ⟨#[98]⟩, .string ⟨#[99]⟩, .string ⟨#[100]⟩, .string ⟨#[101]⟩, .string ⟨#[102]⟩] 58)).heap.size (w1.alloc (.cells #[.string ⟨#[97]⟩, .string ⟨#[98]⟩, .string ⟨#[99]⟩, .string ⟨#[100]⟩, .string ⟨#[101]⟩, .string ⟨#[102]⟩] 58)) ((w1.alloc (.cells #[.string ⟨#[97]⟩, .string ⟨#[98]⟩, .string ⟨#[99]⟩, .string ⟨#[100]⟩, .string ⟨#[101]⟩, .string ⟨#[102]⟩] 58)).alloc (.cells #[] 9)) := (by repeat (first | exact Below.refl _ _ | assumption | refine Below.setCell ?_ (by first | (simp; done) | (simp; omega) | omega) _ | refine below_drewN ?_ _ | refine Below.drew ?_ | refine Below.alloc ?_ (by first | (simp; done) | (simp; omega) | omega) _))
  have BN1 := BN.below hbe BN.lt
  have RN1 : RdS ((w1.alloc (.cells #[.string ⟨#[97]⟩, .string ⟨#[98]⟩, .string ⟨#[99]⟩, .string ⟨#[100]⟩, .string ⟨#[101]⟩, .string ⟨#[102]⟩] 58)).alloc (.cells #[] 9)) (some ⟨w1.heap.size, 0, none⟩) 6 6 names6 := ⟨rfl, by omega, by omega, rfl, fun _ => ⟨w1.heap.size, 0, rfl, BN1.lt, fun j u hu => by rw [Nat.zero_add, BN1.cell j]; simpa [scs, names6] using hu⟩⟩
  have OE := emptyS_own (w1.alloc (.cells #[.string ⟨#[97]⟩, .string ⟨#[98]⟩, .string ⟨#[99]⟩, .string ⟨#[100]⟩, .string ⟨#[101]⟩, .string ⟨#[102]⟩] 58))
  simp only [World.size_alloc] at OE
  go_wp2_with (at_builtin; refine wpList_appendS _ rfl (.tmp 31) (.tmp 32) rfl (.slice (some ⟨w1.heap.size + 1, 0, none⟩) 0 0) [] rfl (by exact OE) (some ⟨w1.heap.size, 0, none⟩) 6 6 names6 rfl RN1 (by decide) ?_; intro v2 w2 hv2 hg2 ha2; obtain ⟨A2, n2, c2, rfl, _⟩ := OwnS.rd hv2; have HV2 := Lib.hid hv2; have HG2 := Lib.hid hg2; have HA2 := Lib.hid ha2; clear hv2 hg2 ha2)
  have hbW2 : Below w1.heap.size w1 w2 := Below.grown (show Below w1.heap.size w1 ((w1.alloc (.cells #[.string ⟨#[97]⟩, .string ⟨#[98]⟩, .string ⟨#[99]⟩, .string ⟨#[100]⟩, .string ⟨#[101]⟩, .string ⟨#[102]⟩] 58)).alloc (.cells #[] 9)) from (by repeat (first | exact Below.refl _ _ | assumption | refine Below.setCell ?_ (by first | (simp; done) | (simp; omega) | omega) _ | refine below_drewN ?_ _ | refine Below.drew ?_ | refine Below.alloc ?_ (by first | (simp; done) | (simp; omega) | omega) _))) HG2.out (by simp; omega) (fun q e => by simp [Value.ownBlock] at e; omega)
  have hbW2' : Below (w1.heap.size + 1) (w1.alloc (.cells #[.string ⟨#[97]⟩, .string ⟨#[98]⟩, .string ⟨#[99]⟩, .string ⟨#[100]⟩, .string ⟨#[101]⟩, .string ⟨#[102]⟩] 58)) w2 := Below.grown (show Below (w1.heap.size + 1) (w1.alloc (.cells #[.string ⟨#[97]⟩, .string ⟨#[98]⟩, .string ⟨#[99]⟩, .string ⟨#[100]⟩, .string ⟨#[101]⟩, .string ⟨#[102]⟩] 58)) ((w1.alloc (.cells #[.string ⟨#[97]⟩, .string ⟨#[98]⟩, .string ⟨#[99]⟩, .string ⟨#[100]⟩, .string ⟨#[101]⟩, .string ⟨#[102]⟩] 58)).alloc (.cells #[] 9)) from (by repeat (first | exact Below.refl _ _ | assumption | refine Below.setCell ?_ (by first | (simp; done) | (simp; omega) | omega) _ | refine below_drewN ?_ _ | refine Below.drew ?_ | refine Below.alloc ?_ (by first | (simp; done) | (simp; omega) | omega) _))) HG2.out (by simp) (fun q e => by simp [Value.ownBlock] at e; omega)
  have BN2 := BN.below hbW2' (by omega)
  have BX2 := BX.below hbW2' (by have := BX.lt; simpa using this)
  have HB2 : Below w.heap.size w w2 := HB.trans (hbW2'.mono (by have := HB.size; simpa using this))
  obtain ⟨_, _, _, e, RL, hRL⟩ := OwnS.rd HV2.out
  cases e
  obtain rfl : 6 = n2 := RL.1
  have hA2 : ∀ b o, A2 = some ⟨b, o, none⟩ → b < w2.heap.size := fun b o e => Own.lt HV2.out (hRL b o e)
  obtain ⟨k, hk⟩ : ∃ k, nv % 7 = k := ⟨_, rfl⟩
  have hk6 : k ≤ 6 := by omega
  rw [show ((nv : Int) % 7) = (k : Int) from by omega]
  have HA2' := Lib.hid hA2
  clear hbW2 hbW2' BN BX BN1 RN1 OE HV2 HG2 HA2 HB hbn hbe hk hnv hRL hA2
  have BC := Blk.new w2 31 (codeRow k A2 c2 (.slice none 0 0))
  generalize hW3 : w2.alloc (Obj.cells #[Value.string { data := #[] }, Value.int IntKind.i64 0, Value.int IntKind.i64 ↑k, Value.int IntKind.i64 0, Value.bool false, Value.slice A2 6 c2, Value.slice none 0 0, Value.slice none 0 0, Value.slice none 0 0, Value.slice none 0 0, Value.slice none 0 0] 31) = W3
  have BC : Blk W3 w2.heap.size 31 (codeRow k A2 c2 (.slice none 0 0)) := by rw [← hW3]; exact BC
  have hb3 : Below w2.heap.size w2 W3 := by rw [← hW3]; exact (by repeat (first | exact Below.refl _ _ | assumption | refine Below.setCell ?_ (by first | (simp; done) | (simp; omega) | omega) _ | refine below_drewN ?_ _ | refine Below.drew ?_ | refine Below.alloc ?_ (by first | (simp; done) | (simp; omega) | omega) _))
  clear hW3
  go_loopw [11] (fun i wr => ∃ (j : Nat) (vC : Value), j ≤ 6 ∧ i = .int .i64 j ∧ Blk wr w2.heap.size 31 (codeRow k A2 c2 vC) ∧ OwnS wr vC (sel bv j) ∧ (∀ b, vC.ownBlock = some b → w2.heap.size < b) ∧ Below w2.heap.size w2 wr) (fun i _ => 6 - (intOf i).toNat)
  case atStart => exact ⟨0, _, by omega, rfl, BC, OwnS.nil_ _, fun b e => (by cases e), hb3⟩
  case round =>
    clear BC hb3
    obtain ⟨j, vC, hj, rfl, BC, OC, NC, hbr⟩ := hrel
    by_cases hlt : j < 6
    · obtain ⟨Ac, nc, cc, rfl, RC, _⟩ := OwnS.rd OC
      have hcl := sel_len bv j
      have BNr := BN2.below hbr BN2.lt
      have c6 : wr.cell? ⟨w2.heap.size, 6, none⟩ = some (.slice Ac nc cc) := BC.cell 6
      have f6 : wr.frozen? ⟨w2.heap.size, 6, none⟩ = false := BC.frozen 6
      have cn : wr.cell? ⟨w1.heap.size, j, none⟩ = some (.string (names6.getD j ⟨#[]⟩)) := by
        rw [BNr.cell j]
        have h6 : j = 0 ∨ j = 1 ∨ j = 2 ∨ j = 3 ∨ j = 4 ∨ j = 5 := by omega
        rcases h6 with rfl | rfl | rfl | rfl | rfl | rfl <;> rfl
      have hn12 : w1.heap.size < w2.heap.size := BN2.lt
      have hn12' : w1.heap.size ≠ w2.heap.size := by omega
      have hlt' : (j : Int) < 6 := by omega
      have hge' : (0 : Int) ≤ (j : Int) := by omega
      have hsel : sel bv (j + 1) = sel bv j ++ (if bitAt bv j then [names6.getD j ⟨#[]⟩] else []) := rfl
      have HSEL := Lib.hid hsel
      clear hsel
      generalize names6.getD j ⟨#[]⟩ = nm at *
      cases hbit : bitAt bv j
      · have hb' : (bits BinOp.and IntKind.u8 ((bv : Int) / 2 ^ j) 1 == 1) = false := hbit
        have HBIT := Lib.hid hbit
        have HOC := Lib.hid OC
        have HBC := Lib.hid BC
        clear hbit OC BC RC
        go_wp2
        go_roundw
        case rel => exact ⟨j + 1, _, by omega, by go_num, HBC.out, by rw [HSEL.out, HBIT.out]; simpa using HOC.out, NC, hbr⟩
        case measure => simp [intOf]; omega
      · have hb' : (bits BinOp.and IntKind.u8 ((bv : Int) / 2 ^ j) 1 == 1) = true := hbit
        have HBIT := Lib.hid hbit
        have HNC := Lib.hid NC
        have HBR := Lib.hid hbr
        have hgo := one_rdS wr nm
        have OC1 : OwnS (wr.alloc (.cells #[.string nm] 9)) (.slice Ac nc cc) (sel bv j) := OC.new (by repeat (first | exact Below.refl _ _ | assumption | refine Below.setCell ?_ (by first | (simp; done) | (simp; omega) | omega) _ | refine below_drewN ?_ _ | refine Below.drew ?_ | refine Below.alloc ?_ (by first | (simp; done) | (simp; omega) | omega) _))
        have BC1 : Blk (wr.alloc (.cells #[.string nm] 9)) w2.heap.size 31 (codeRow k A2 c2 (.slice Ac nc cc)) := BC.alloc _
        have hnec : (Value.slice Ac nc cc).ownBlock ≠ some w2.heap.size := fun e => by have := NC _ e; omega
        clear hbit NC hbr RC BNr
        go_wp2_with fail
        have hl2 : w2.heap.size < wr.heap.size := BC.lt
        have hl1 : w1.heap.size < wr.heap.size := by omega
        clear BC OC
        have HBC1 := Lib.hid BC1
        have HOC1 := Lib.hid OC1
        have HGO := Lib.hid hgo
        have HNEC := Lib.hid hnec
        clear BC1 OC1 hgo hnec
        go_region_law (refine step_appendS _ rfl (.tmp 45) (.tmp 49) rfl (.slice Ac nc cc) (sel bv j) rfl (by exact HOC1.out) (some ⟨wr.heap.size, 0, none⟩) 1 1 [nm] rfl (by exact HGO.out) (by omega) ?_; intro v3 w3 hv3 hg3 ha3; obtain ⟨A3, n3, c3, rfl, _⟩ := OwnS.rd hv3; have BC3 : Blk w3 w2.heap.size 31 (codeRow k A2 c2 (.slice Ac nc cc)) := Blk.grown HBC1.out.drew hg3 (Ne.symm HNEC.out); have c6' : w3.cell? ⟨w2.heap.size, 6, none⟩ = some (.slice Ac nc cc) := BC3.cell 6; have f6' : w3.frozen? ⟨w2.heap.size, 6, none⟩ = false := BC3.frozen 6; have HBC3 := Lib.hid BC3; have HV3 := Lib.hid hv3; have HG3 := Lib.hid hg3; have HA3 := Lib.hid ha3; clear hv3 hg3 ha3 BC3)
        all_goals
          go_wp2
          go_roundw
          case rel =>
            have hn3 : ∀ b, (Value.slice A3 n3 c3).ownBlock = some b → w2.heap.size < b := fun b e => by
              rcases HA3.out with e' | e' <;> rw [e'] at e
              · exact HNC.out b e
              · simp at e; omega
            refine ⟨j + 1, .slice A3 n3 c3, by omega, by go_num, HBC3.out.set_ 6 _, ?_, hn3, ?_⟩
            · rw [HSEL.out, HBIT.out]
              exact Own.keep HV3.out fun b e => Below.heap_setCell _ _ _ _ (by have := hn3 b e; simp; omega)
            · have hx : Below w2.heap.size w2 w3 := Below.grown (show Below w2.heap.size w2 (World.drew (wr.alloc (.cells #[.string nm] 9))) from (HBR.out.alloc (by omega) _).drew) HG3.out (by simp; omega) (fun q e => by have := HNC.out q e; omega)
              exact hx.setCell (p := ⟨w2.heap.size, 6, none⟩) (Nat.le_refl _) _
          case measure => simp [intOf]; omega
    · obtain rfl : j = 6 := by omega
      rw [show ((6 : Nat) : Int) = 6 from rfl]
      obtain ⟨Ac, nc, cc, rfl, RC, hRC⟩ := OwnS.rd OC
      have hcl := sel_len bv 6
      have hnc : nc ≤ 6 := by rw [← RC.1]; exact hcl
      have hAc : ∀ b o, Ac = some ⟨b, o, none⟩ → b < wr.heap.size := fun b o e => Own.lt OC (hRC b o e)
      have RLr := RL.2.keep hbr.size (fun b o e hb => hbr.block b hb)
      have RLr : RdS wr A2 6 c2 names6 := ⟨rfl, RLr⟩
      have BXr := BX2.below hbr BX2.lt
      have HBr := HB2.trans (hbr.mono HB2.size)
      have hsb : ∀ j, j < 6 → hasS (sel bv 6) (names6.getD j ⟨#[]⟩) = bitAt bv j := sel_has bv
      have HSB := Lib.hid hsb
      clear hsb
      generalize sel bv 6 = CC at *
      clear OC NC BN2 BX2 HB2 RL hbr hRC
      obtain ⟨wo, rfl⟩ : ∃ wo : World, wo = wr := ⟨_, rfl⟩
      go_wp2
      go_loopw [12, 13] (fun v i wx => ∃ j : Nat, j ≤ k ∧ i = .int .i64 j ∧ NewRow wo wx v (nums j)) (fun _ i _ => k - (intOf i).toNat)
      case atStart => exact ⟨0, by omega, rfl, newrowE (Below.refl _ _) rfl⟩
      case round =>
        obtain ⟨j, hj, rfl, NV⟩ := hrel
        by_cases hlt2 : j < k
        · have HNS := Lib.hid (nums_succ j)
          have hnl := nums_len j
          obtain ⟨Av, nv2, cv, rfl, _⟩ := OwnV.rd NV.own
          go_wp2_with fail
          refine (num_any j _).mono ?_
          rintro e y1 ⟨rfl, hy1⟩
          have NV1 := (NV.below hy1).below (w' := y1.alloc (.cells #[.int .i64 2, .int .i64 j, .string ⟨#[]⟩] 44)) (by repeat (first | exact Below.refl _ _ | assumption | refine Below.setCell ?_ (by first | (simp; done) | (simp; omega) | omega) _ | refine below_drewN ?_ _ | refine Below.drew ?_ | refine Below.alloc ?_ (by first | (simp; done) | (simp; omega) | omega) _))
          clear NV hy1
          go_wp2_with (at_builtin; refine wpList_appendV _ rfl _ _ rfl (.slice Av nv2 cv) (nums j) rfl NV1.own (some ⟨y1.heap.size, 0, none⟩) 1 1 [numV j] rfl (one_rdV y1 (numV j)) (by omega) ?_; intro v3 w3 hv3 hg3 ha3; have NV3 := NewRow.app NV1 hv3 hg3 ha3; have HNV3 := Lib.hid NV3; clear NV3 hv3 hg3 ha3)
          go_roundw
          case rel => exact ⟨j + 1, by omega, by go_num, by rw [HNS.out]; exact HNV3.out⟩
          case measure => simp [intOf]; omega
        · obtain rfl : j = k := by omega
          obtain ⟨Av, nv2, cv, rfl, RV, _⟩ := OwnV.rd NV.own
          obtain rfl : nv2 = j := by rw [← RV.1, nums_len]
          obtain ⟨k, rfl⟩ : ∃ k, k = nv2 := ⟨_, rfl⟩
          have BCr := BC.below NV.bel BC.lt
          have BXr2 := BXr.below NV.bel BXr.lt
          have RL2 := RLr.new NV.bel
          have RC2 := RC.new NV.bel
          have HBr2 := HBr.trans (NV.bel.mono HBr.size)
          have mV := make_V nc (by omega)
          have d0 : wr.cell? ⟨w2.heap.size, 0, none⟩ = some (.string ⟨#[]⟩) := BCr.cell 0
          have d1 : wr.cell? ⟨w2.heap.size, 1, none⟩ = some (.int .i64 0) := BCr.cell 1
          have d2 : wr.cell? ⟨w2.heap.size, 2, none⟩ = some (.int .i64 k) := BCr.cell 2
          have d3 : wr.cell? ⟨w2.heap.size, 3, none⟩ = some (.int .i64 0) := BCr.cell 3
          have d4 : wr.cell? ⟨w2.heap.size, 4, none⟩ = some (.bool false) := BCr.cell 4
          have d5 : wr.cell? ⟨w2.heap.size, 5, none⟩ = some (.slice A2 6 c2) := BCr.cell 5
          have d6 : wr.cell? ⟨w2.heap.size, 6, none⟩ = some (.slice Ac nc cc) := BCr.cell 6
          have d7 : wr.cell? ⟨w2.heap.size, 7, none⟩ = some (.slice none 0 0) := BCr.cell 7
          have d8 : wr.cell? ⟨w2.heap.size, 8, none⟩ = some (.slice none 0 0) := BCr.cell 8
          have d9 : wr.cell? ⟨w2.heap.size, 9, none⟩ = some (.slice none 0 0) := BCr.cell 9
          have d10 : wr.cell? ⟨w2.heap.size, 10, none⟩ = some (.slice none 0 0) := BCr.cell 10
          have hl2r : w2.heap.size < wr.heap.size := BCr.lt
          clear BC BXr RLr RC HBr NV
          go_wp2_with fail
          clear d0 d1 d2 d3 d4 d5 d6 d7 d8 d9 d10
          have hb1 : Below wr.heap.size wr ((wr.alloc (Obj.cells (zV nc) 44)).alloc (Obj.cells #[Value.string { data := #[] }, Value.int IntKind.i64 0, Value.int IntKind.i64 ↑k, Value.int IntKind.i64 0, Value.bool false, Value.slice A2 6 c2, Value.slice Ac nc cc, Value.slice none 0 0, Value.slice none 0 0, Value.slice none 0 0, Value.slice none 0 0] 31)) := (by repeat (first | exact Below.refl _ _ | assumption | refine Below.setCell ?_ (by first | (simp; done) | (simp; omega) | omega) _ | refine below_drewN ?_ _ | refine Below.drew ?_ | refine Below.alloc ?_ (by first | (simp; done) | (simp; omega) | omega) _))
          have BP := Blk.newAt (w := wr.alloc (Obj.cells (zV nc) 44)) (t := 31) (g := wr.heap.size + 1) (cs := #[Value.string { data := #[] }, Value.int IntKind.i64 0, Value.int IntKind.i64 ↑k, Value.int IntKind.i64 0, Value.bool false, Value.slice A2 6 c2, Value.slice Ac nc cc, Value.slice none 0 0, Value.slice none 0 0, Value.slice none 0 0, Value.slice none 0 0]) (by simp)
          have hz : Blk ((wr.alloc (Obj.cells (zV nc) 44)).alloc (Obj.cells #[Value.string { data := #[] }, Value.int IntKind.i64 0, Value.int IntKind.i64 ↑k, Value.int IntKind.i64 0, Value.bool false, Value.slice A2 6 c2, Value.slice Ac nc cc, Value.slice none 0 0, Value.slice none 0 0, Value.slice none 0 0, Value.slice none 0 0] 31)) wr.heap.size 44 (zV nc) := (Blk.new wr 44 _).alloc _
          obtain ⟨_, _, _, ez, RZ, _⟩ := OwnV.rd (zV_own hz (by omega))
          cases ez
          refine (new_env _ 1 1 0 names6 CC 0 Av k cv (nums k) _ nc nc (List.replicate nc V.zero) _ (by omega) (by omega) (blk_code BP (RL2.new hb1) (RC2.new hb1)) (RV.new hb1) RZ (by simpa [names6] using hk6) (by rw [RC2.1]; rfl) (by decide) (by rw [RC2.1]; omega)).mono ?_
          rintro e w5 ⟨S5, g, rfl, E5⟩
          have HB4 := HBr2.trans (hb1.mono HBr2.size)
          have HB5 := HB4.trans (E5.bel.mono HB4.size)
          have BCd' := BCr.below hb1 BCr.lt
          have BCd := BCd'.below E5.bel BCd'.lt
          have BXd' := BXr2.below hb1 BXr2.lt
          have BXd := BXd'.below E5.bel BXd'.lt
          have RLd := (RL2.new hb1).new E5.bel
          have RCd := (RC2.new hb1).new E5.bel
          clear BCd' BXd' BP hz RZ mV RV HBr2 HB4 BCr BXr2 RL2 RC2 hb1 hl2r
          obtain ⟨L5, B5, C5, X5, K5, hrow⟩ := E5.row53
          have g14 : w5.cell? ⟨g, 14, none⟩ = some (.int .i64 (-1)) := hrow.cell 14
          have g1 : w5.cell? ⟨g, 1, none⟩ = some (.int .i64 0) := hrow.cell 1
          obtain ⟨AL, nL, cL, g2, RL5, _⟩ := E5.locals
          obtain rfl : 6 = nL := by rw [← RL5.1]; exact (locTo_length _ _ _ _ _).symm
          have frcs := fun j hj => frc CC k (List.replicate nc V.zero) j hj (bitAt bv j) (HSB.out j hj)
          have HFRC := Lib.hid frcs
          generalize Fr.new 0 names6 CC (nums k) (List.replicate nc V.zero) = F at *
          clear hrow RL5 frcs
          go_wp2
          clear g14 g1 g2
          go_loopw [17] (fun i wx => ∃ j : Nat, j ≤ 6 ∧ i = .int .i64 j ∧ Below w5.heap.size w5 wx) (fun i _ => 6 - (intOf i).toNat)
          case atStart => exact ⟨0, by omega, rfl, Below.refl _ _⟩
          case round =>
            obtain ⟨j, hj, rfl, hbj⟩ := hrel
            by_cases hlt3 : j < 6
            · have hlt3' : (j : Int) < 6 := by omega
              obtain ⟨f1, f2⟩ := HFRC.out j hlt3
              have Ej := E5.new hbj
              have hb0 := bit0 bv j hbv
              go_wp2_with fail
              refine (load_env Ej j).mono ?_
              rintro e wv ⟨rfl, Ev, hbv'⟩
              have hbv2 := hbj.trans (hbv'.mono hbj.size)
              rw [f1]
              have HE := Lib.hid Ev
              have HF2 := Lib.hid f2
              clear f1 f2 Ej Ev hbv'
              by_cases hjk : j < k
              · cases hbt : bitAt bv j
                · have fl := HF2.out (by simp [hjk, hbt])
                  have hb1 : (bits BinOp.and IntKind.u8 ((bv : Int) / 2 ^ j) 1 == 0) = true := by rw [hb0, hbt]; rfl
                  rw [fl, show (decide (j < k) && !false) = true from by simp [hjk]]
                  clear fl hb0 hbt
                  have BV := Blk.new wv 44 #[.int .i64 (numV j).k, .int .i64 (numV j).n, .string (numV j).s]
                  have hbn : Below wv.heap.size wv (wv.alloc (.cells #[.int .i64 (numV j).k, .int .i64 (numV j).n, .string (numV j).s] 44)) := (by repeat (first | exact Below.refl _ _ | assumption | refine Below.setCell ?_ (by first | (simp; done) | (simp; omega) | omega) _ | refine below_drewN ?_ _ | refine Below.drew ?_ | refine Below.alloc ?_ (by first | (simp; done) | (simp; omega) | omega) _))
                  have hbv3 := hbv2.trans (hbn.mono hbv2.size)
                  clear hbn
                  go_wp2_with fail
                  have z0 := BV.cell 0
                  have z1 := BV.cell 1
                  have z2 := BV.cell 2
                  have zl := BV.lt
                  generalize hWv : wv.alloc (.cells #[.int .i64 (numV j).k, .int .i64 (numV j).n, .string (numV j).s] 44) = Wv at *
                  clear hWv BV
                  have sjj : V.same (numV j) (numV j) = true := V.same_iff.2 rfl
                  go_cut [138] (fun s138 wx => s138 = .bool false ∧ Below Wv.heap.size Wv wx)
                  case first =>
                    go_region_held3 (fun w' => w'.cell? ⟨wv.heap.size, 0, none⟩ = some (.int .i64 (numV j).k) ∧ w'.cell? ⟨wv.heap.size, 1, none⟩ = some (.int .i64 (numV j).n) ∧ w'.cell? ⟨wv.heap.size, 2, none⟩ = some (.string (numV j).s)) (first | exact ⟨z0, z1, z2⟩ | exact HKA.out | go_keep)
                      ((go_at_call 25; refine (num_any j _).mono ?_; rintro e wa ⟨rfl, hba⟩; have HKA := Lib.hid (show wa.cell? ⟨wv.heap.size, 0, none⟩ = some (.int .i64 (numV j).k) ∧ wa.cell? ⟨wv.heap.size, 1, none⟩ = some (.int .i64 (numV j).n) ∧ wa.cell? ⟨wv.heap.size, 2, none⟩ = some (.string (numV j).s) from ⟨(hba.cell (p := ⟨wv.heap.size, 0, none⟩) zl).trans z0, (hba.cell (p := ⟨wv.heap.size, 1, none⟩) zl).trans z1, (hba.cell (p := ⟨wv.heap.size, 2, none⟩) zl).trans z2⟩); have HBA := Lib.hid hba; clear hba))
                    all_goals
                      go_wp2_with fail
                      go_meet
                      exact ⟨by first | rfl | simp [numV, V.same], Below.trans (b := Wv.drew) (by repeat (first | exact Below.refl _ _ | assumption | refine Below.setCell ?_ (by first | (simp; done) | (simp; omega) | omega) _ | refine below_drewN ?_ _ | refine Below.drew ?_ | refine Below.alloc ?_ (by first | (simp; done) | (simp; omega) | omega) _)) HBA.out⟩
                  case rest =>
                    obtain ⟨rfl, hbw⟩ := hcut
                    go_wp2
                    go_roundw
                    case rel => exact ⟨j + 1, by omega, by go_num, hbv3.trans (hbw.mono hbv3.size)⟩
                    case measure => simp [intOf]; omega
                · have hb1 : (bits BinOp.and IntKind.u8 ((bv : Int) / 2 ^ j) 1 == 0) = false := by rw [hb0, hbt]; rfl
                  rw [show (decide (j < k) && !true) = false from by simp]
                  clear hb0 hbt
                  generalize F.load j = lv at *
                  have hbn : Below wv.heap.size wv (wv.alloc (.cells #[.int .i64 lv.k, .int .i64 lv.n, .string lv.s] 44)) := (by repeat (first | exact Below.refl _ _ | assumption | refine Below.setCell ?_ (by first | (simp; done) | (simp; omega) | omega) _ | refine below_drewN ?_ _ | refine Below.drew ?_ | refine Below.alloc ?_ (by first | (simp; done) | (simp; omega) | omega) _))
                  have hbv3 := hbv2.trans (hbn.mono hbv2.size)
                  clear hbn
                  go_wp2_with fail
                  go_quiet (fail)
                  go_wp2
                  go_roundw
                  case rel => exact ⟨j + 1, by omega, by go_num, (by repeat (first | exact Below.refl _ _ | assumption | refine Below.setCell ?_ (by first | (simp; done) | (simp; omega) | omega) _ | refine below_drewN ?_ _ | refine Below.drew ?_ | refine Below.alloc ?_ (by first | (simp; done) | (simp; omega) | omega) _))⟩
                  case measure => simp [intOf]; omega
              · have hd : decide (j < k) = false := by simpa using hjk
                rw [hd, Bool.false_and]
                clear hb0
                generalize F.load j = lv at *
                have hbn : Below wv.heap.size wv (wv.alloc (.cells #[.int .i64 lv.k, .int .i64 lv.n, .string lv.s] 44)) := (by repeat (first | exact Below.refl _ _ | assumption | refine Below.setCell ?_ (by first | (simp; done) | (simp; omega) | omega) _ | refine below_drewN ?_ _ | refine Below.drew ?_ | refine Below.alloc ?_ (by first | (simp; done) | (simp; omega) | omega) _))
                have hbv3 := hbv2.trans (hbn.mono hbv2.size)
                clear hbn
                go_wp2_with fail
                go_quiet (fail)
                go_wp2
                go_roundw
                case rel => exact ⟨j + 1, by omega, by go_num, (by repeat (first | exact Below.refl _ _ | assumption | refine Below.setCell ?_ (by first | (simp; done) | (simp; omega) | omega) _ | refine below_drewN ?_ _ | refine Below.drew ?_ | refine Below.alloc ?_ (by first | (simp; done) | (simp; omega) | omega) _))⟩
                case measure => simp [intOf]; omega
            · obtain rfl : j = 6 := by omega
              have BCe := BCd.below hbj BCd.lt
              have BXe := BXd.below hbj BXd.lt
              have RLe := RLd.new hbj
              have RCe := RCd.new hbj
              have HBe := HB5.trans (hbj.mono HB5.size)
              clear BCd BXd RLd RCd HB5 hbj E5 HFRC
              have x0 : _ = some (Value.int .i8 o0) := BXe.cell 0
              have x1 : _ = some (Value.int .i8 o1) := BXe.cell 1
              obtain ⟨r0, e0⟩ : ∃ r, o0.tmod 4 = r := ⟨_, rfl⟩
              obtain ⟨r1, e1⟩ : ∃ r, o1.tmod 4 = r := ⟨_, rfl⟩
              have hr0 : -3 ≤ r0 ∧ r0 ≤ 3 := by rw [← e0]; have t1 := Int.tmod_lt_of_pos o0 (show (0 : Int) < 4 by omega); have t2 := Int.tmod_lt_of_pos (-o0) (show (0 : Int) < 4 by omega); rw [Int.neg_tmod] at t2; omega
              have hr1 : -3 ≤ r1 ∧ r1 ≤ 3 := by rw [← e1]; have t1 := Int.tmod_lt_of_pos o1 (show (0 : Int) < 4 by omega); have t2 := Int.tmod_lt_of_pos (-o1) (show (0 : Int) < 4 by omega); rw [Int.neg_tmod] at t2; omega
              obtain ⟨hr0a, hr0b⟩ := hr0
              obtain ⟨hr1a, hr1b⟩ := hr1
              have d0 : wr.cell? ⟨w2.heap.size, 0, none⟩ = some (.string ⟨#[]⟩) := BCe.cell 0
              have d1 : wr.cell? ⟨w2.heap.size, 1, none⟩ = some (.int .i64 0) := BCe.cell 1
              have d2 : wr.cell? ⟨w2.heap.size, 2, none⟩ = some (.int .i64 k) := BCe.cell 2
              have d3 : wr.cell? ⟨w2.heap.size, 3, none⟩ = some (.int .i64 0) := BCe.cell 3
              have d4 : wr.cell? ⟨w2.heap.size, 4, none⟩ = some (.bool false) := BCe.cell 4
              have d5 : wr.cell? ⟨w2.heap.size, 5, none⟩ = some (.slice A2 6 c2) := BCe.cell 5
              have d6 : wr.cell? ⟨w2.heap.size, 6, none⟩ = some (.slice Ac nc cc) := BCe.cell 6
              have d7 : wr.cell? ⟨w2.heap.size, 7, none⟩ = some (.slice none 0 0) := BCe.cell 7
              have d8 : wr.cell? ⟨w2.heap.size, 8, none⟩ = some (.slice none 0 0) := BCe.cell 8
              have d9 : wr.cell? ⟨w2.heap.size, 9, none⟩ = some (.slice none 0 0) := BCe.cell 9
              have d10 : wr.cell? ⟨w2.heap.size, 10, none⟩ = some (.slice none 0 0) := BCe.cell 10
              have hl2e : w2.heap.size < wr.heap.size := BCe.lt
              have hlxe : w.heap.size < wr.heap.size := BXe.lt
              have m0 : ∀ q, (Instr.makeSlice 24 (.int .i64 0) (.int .i64 0)).run Try.prog q = .ok (.slice (some ⟨q.heap.size, 0, none⟩) 0 0) (q.alloc (.cells (zV 0) 44)) := make_V 0 (by omega)
              by_cases hp0 : 0 < (k : Int) + r0
              · obtain ⟨M, eM⟩ := Int.eq_ofNat_of_zero_le (Int.le_of_lt hp0)
                have hM9 : M ≤ 9 := by omega
                have mM := make_V M (by omega)
                by_cases hp1 : 0 < (nc : Int) + r1
                · obtain ⟨Wd, eW⟩ := Int.eq_ofNat_of_zero_le (Int.le_of_lt hp1)
                  have hW9 : Wd ≤ 9 := by omega
                  have mW := make_V Wd (by omega)
                  go_wp2_with fail
                  have hb1 : Below wr.heap.size wr (((wr.alloc (Obj.cells (zV M) 44)).alloc (Obj.cells (zV Wd) 44)).alloc (Obj.cells #[Value.string { data := #[] }, Value.int IntKind.i64 0, Value.int IntKind.i64 ↑k, Value.int IntKind.i64 0, Value.bool false, Value.slice A2 6 c2, Value.slice Ac nc cc, Value.slice none 0 0, Value.slice none 0 0, Value.slice none 0 0, Value.slice none 0 0] 31)) := (by repeat (first | exact Below.refl _ _ | assumption | refine Below.setCell ?_ (by first | (simp; done) | (simp; omega) | omega) _ | refine below_drewN ?_ _ | refine Below.drew ?_ | refine Below.alloc ?_ (by first | (simp; done) | (simp; omega) | omega) _))
                  have BP := Blk.newAt (w := ((wr.alloc (Obj.cells (zV M) 44)).alloc (Obj.cells (zV Wd) 44))) (t := 31) (g := wr.heap.size + 1 + 1) (cs := #[Value.string { data := #[] }, Value.int IntKind.i64 0, Value.int IntKind.i64 ↑k, Value.int IntKind.i64 0, Value.bool false, Value.slice A2 6 c2, Value.slice Ac nc cc, Value.slice none 0 0, Value.slice none 0 0, Value.slice none 0 0, Value.slice none 0 0]) (by simp)
                  have hz : Blk (((wr.alloc (Obj.cells (zV M) 44)).alloc (Obj.cells (zV Wd) 44)).alloc (Obj.cells #[Value.string { data := #[] }, Value.int IntKind.i64 0, Value.int IntKind.i64 ↑k, Value.int IntKind.i64 0, Value.bool false, Value.slice A2 6 c2, Value.slice Ac nc cc, Value.slice none 0 0, Value.slice none 0 0, Value.slice none 0 0, Value.slice none 0 0] 31)) wr.heap.size 44 (zV M) := ((Blk.new wr 44 _).alloc _).alloc _
                  have hz2 : Blk (((wr.alloc (Obj.cells (zV M) 44)).alloc (Obj.cells (zV Wd) 44)).alloc (Obj.cells #[Value.string { data := #[] }, Value.int IntKind.i64 0, Value.int IntKind.i64 ↑k, Value.int IntKind.i64 0, Value.bool false, Value.slice A2 6 c2, Value.slice Ac nc cc, Value.slice none 0 0, Value.slice none 0 0, Value.slice none 0 0, Value.slice none 0 0] 31)) (wr.heap.size + 1) 44 (zV Wd) := (Blk.newAt (w := wr.alloc (Obj.cells (zV M) 44)) (by simp)).alloc _
                  obtain ⟨_, _, _, ez, RM, _⟩ := OwnV.rd (zV_own hz (by omega))
                  cases ez
                  obtain ⟨_, _, _, ez, RW, _⟩ := OwnV.rd (zV_own hz2 (by omega))
                  cases ez
                  have HB6 := HBe.trans (hb1.mono HBe.size)
                  by_cases hfit : M = k ∧ Wd = nc
                  · obtain ⟨hf1, hf2⟩ := hfit
                    have hC1 := Eq.mp (congrArg (fun p : Int => CodeAt (((wr.alloc (Obj.cells (zV M) 44)).alloc (Obj.cells (zV Wd) 44)).alloc (Obj.cells #[Value.string { data := #[] }, Value.int IntKind.i64 0, Value.int IntKind.i64 ↑k, Value.int IntKind.i64 0, Value.bool false, Value.slice A2 6 c2, Value.slice Ac nc cc, Value.slice none 0 0, Value.slice none 0 0, Value.slice none 0 0, Value.slice none 0 0] 31)) (some ⟨wr.heap.size + 1 + 1, 0, none⟩) 0 p names6 CC 0) (show (k : Int) = ((M : Nat) : Int) from by omega)) (blk_code BP (RLe.new hb1) (RCe.new hb1))
                    refine (new_env _ 1 1 0 names6 CC 0 _ M M (List.replicate M V.zero) _ Wd Wd (List.replicate Wd V.zero) _ (by omega) (by omega) hC1 RM RW (by have : names6.length = 6 := rfl; omega) (by rw [RCe.1]; omega) (by decide) (by rw [RCe.1]; omega)).mono ?_
                    rintro e w6 ⟨S6, g6, rfl, E6⟩
                    have HB7 := Lib.hid (HB6.trans (E6.bel.mono HB6.size))
                    have pk1 : ((M : Int) == (k : Int)) = true := by rw [beq_iff_eq]; omega
                    have pnc1 : ((Wd : Int) == (nc : Int)) = true := by rw [beq_iff_eq]; omega
                    clear E6 hC1
                    go_wp2
                    go_ret
                    exact ⟨rfl, HB7.out⟩
                  · refine (new_no _ 1 1 0 k names6 CC 0 _ M M _ Wd Wd _ (by omega) (blk_code BP (RLe.new hb1) (RCe.new hb1)) (by rw [RCe.1]; omega) (fun h => hfit ⟨by omega, by rw [RCe.1] at h; omega⟩)).mono ?_
                    rintro e w6 ⟨rfl, hb6⟩
                    have HB7 := Lib.hid (HB6.trans (hb6.mono HB6.size))
                    clear hb6
                    by_cases hf1 : M = k
                    · have hf2 : ¬ Wd = nc := fun h => hfit ⟨hf1, h⟩
                      have pk1 : ((M : Int) == (k : Int)) = true := by rw [beq_iff_eq]; omega
                      have nnc1 : ((Wd : Int) == (nc : Int)) = false := by rw [beq_eq_false_iff_ne]; omega
                      clear hfit
                      go_wp2
                      go_ret
                      exact ⟨rfl, HB7.out⟩
                    · clear hfit
                      have nk1 : ((M : Int) == (k : Int)) = false := by rw [beq_eq_false_iff_ne]; omega
                      go_wp2
                      go_ret
                      exact ⟨rfl, HB7.out⟩
                · have hp1' : ¬ 0 < (nc : Int) + r1 := hp1
                  go_wp2_with fail
                  have hb1 : Below wr.heap.size wr (((wr.alloc (Obj.cells (zV M) 44)).alloc (Obj.cells (zV 0) 44)).alloc (Obj.cells #[Value.string { data := #[] }, Value.int IntKind.i64 0, Value.int IntKind.i64 ↑k, Value.int IntKind.i64 0, Value.bool false, Value.slice A2 6 c2, Value.slice Ac nc cc, Value.slice none 0 0, Value.slice none 0 0, Value.slice none 0 0, Value.slice none 0 0] 31)) := (by repeat (first | exact Below.refl _ _ | assumption | refine Below.setCell ?_ (by first | (simp; done) | (simp; omega) | omega) _ | refine below_drewN ?_ _ | refine Below.drew ?_ | refine Below.alloc ?_ (by first | (simp; done) | (simp; omega) | omega) _))
                  have BP := Blk.newAt (w := ((wr.alloc (Obj.cells (zV M) 44)).alloc (Obj.cells (zV 0) 44))) (t := 31) (g := wr.heap.size + 1 + 1) (cs := #[Value.string { data := #[] }, Value.int IntKind.i64 0, Value.int IntKind.i64 ↑k, Value.int IntKind.i64 0, Value.bool false, Value.slice A2 6 c2, Value.slice Ac nc cc, Value.slice none 0 0, Value.slice none 0 0, Value.slice none 0 0, Value.slice none 0 0]) (by simp)
                  have hz : Blk (((wr.alloc (Obj.cells (zV M) 44)).alloc (Obj.cells (zV 0) 44)).alloc (Obj.cells #[Value.string { data := #[] }, Value.int IntKind.i64 0, Value.int IntKind.i64 ↑k, Value.int IntKind.i64 0, Value.bool false, Value.slice A2 6 c2, Value.slice Ac nc cc, Value.slice none 0 0, Value.slice none 0 0, Value.slice none 0 0, Value.slice none 0 0] 31)) wr.heap.size 44 (zV M) := ((Blk.new wr 44 _).alloc _).alloc _
                  have hz2 : Blk (((wr.alloc (Obj.cells (zV M) 44)).alloc (Obj.cells (zV 0) 44)).alloc (Obj.cells #[Value.string { data := #[] }, Value.int IntKind.i64 0, Value.int IntKind.i64 ↑k, Value.int IntKind.i64 0, Value.bool false, Value.slice A2 6 c2, Value.slice Ac nc cc, Value.slice none 0 0, Value.slice none 0 0, Value.slice none 0 0, Value.slice none 0 0] 31)) (wr.heap.size + 1) 44 (zV 0) := (Blk.newAt (w := wr.alloc (Obj.cells (zV M) 44)) (by simp)).alloc _
                  obtain ⟨_, _, _, ez, RM, _⟩ := OwnV.rd (zV_own hz (by omega))
                  cases ez
                  obtain ⟨_, _, _, ez, RW, _⟩ := OwnV.rd (zV_own hz2 (by omega))
                  cases ez
                  have HB6 := HBe.trans (hb1.mono HBe.size)
                  by_cases hfit : M = k ∧ 0 = nc
                  · obtain ⟨hf1, hf2⟩ := hfit
                    have hC1 := Eq.mp (congrArg (fun p : Int => CodeAt (((wr.alloc (Obj.cells (zV M) 44)).alloc (Obj.cells (zV 0) 44)).alloc (Obj.cells #[Value.string { data := #[] }, Value.int IntKind.i64 0, Value.int IntKind.i64 ↑k, Value.int IntKind.i64 0, Value.bool false, Value.slice A2 6 c2, Value.slice Ac nc cc, Value.slice none 0 0, Value.slice none 0 0, Value.slice none 0 0, Value.slice none 0 0] 31)) (some ⟨wr.heap.size + 1 + 1, 0, none⟩) 0 p names6 CC 0) (show (k : Int) = ((M : Nat) : Int) from by omega)) (blk_code BP (RLe.new hb1) (RCe.new hb1))
                    refine (new_env _ 1 1 0 names6 CC 0 _ M M (List.replicate M V.zero) _ 0 0 (List.replicate 0 V.zero) _ (by omega) (by omega) hC1 RM RW (by have : names6.length = 6 := rfl; omega) (by rw [RCe.1]; omega) (by decide) (by rw [RCe.1]; omega)).mono ?_
                    rintro e w6 ⟨S6, g6, rfl, E6⟩
                    have HB7 := Lib.hid (HB6.trans (E6.bel.mono HB6.size))
                    have pk1 : ((M : Int) == (k : Int)) = true := by rw [beq_iff_eq]; omega
                    subst hf2
                    clear E6 hC1
                    go_wp2
                    go_ret
                    exact ⟨rfl, HB7.out⟩
                  · refine (new_no _ 1 1 0 k names6 CC 0 _ M M _ 0 0 _ (by omega) (blk_code BP (RLe.new hb1) (RCe.new hb1)) (by rw [RCe.1]; omega) (fun h => hfit ⟨by omega, by rw [RCe.1] at h; omega⟩)).mono ?_
                    rintro e w6 ⟨rfl, hb6⟩
                    have HB7 := Lib.hid (HB6.trans (hb6.mono HB6.size))
                    clear hb6
                    by_cases hf1 : M = k
                    · have hf2 : ¬ 0 = nc := fun h => hfit ⟨hf1, h⟩
                      have pk1 : ((M : Int) == (k : Int)) = true := by rw [beq_iff_eq]; omega
                      have nnc1 : ((0 : Int) == (nc : Int)) = false := by rw [beq_eq_false_iff_ne]; omega
                      have nnc2 : ¬ nc = 0 := by omega
                      have nnc3 : ((nc : Int) == 0) = false := by rw [beq_eq_false_iff_ne]; omega
                      have nnc4 : (nc == 0) = false := by rw [beq_eq_false_iff_ne]; omega
                      have nnc5 : (0 == nc) = false := by rw [beq_eq_false_iff_ne]; omega
                      clear hfit
                      go_wp2
                      go_ret
                      exact ⟨rfl, HB7.out⟩
                    · clear hfit
                      have nk1 : ((M : Int) == (k : Int)) = false := by rw [beq_eq_false_iff_ne]; omega
                      go_wp2
                      go_ret
                      exact ⟨rfl, HB7.out⟩
              · by_cases hp1 : 0 < (nc : Int) + r1
                · obtain ⟨Wd, eW⟩ := Int.eq_ofNat_of_zero_le (Int.le_of_lt hp1)
                  have hW9 : Wd ≤ 9 := by omega
                  have mW := make_V Wd (by omega)
                  go_wp2_with fail
                  have hb1 : Below wr.heap.size wr (((wr.alloc (Obj.cells (zV 0) 44)).alloc (Obj.cells (zV Wd) 44)).alloc (Obj.cells #[Value.string { data := #[] }, Value.int IntKind.i64 0, Value.int IntKind.i64 ↑k, Value.int IntKind.i64 0, Value.bool false, Value.slice A2 6 c2, Value.slice Ac nc cc, Value.slice none 0 0, Value.slice none 0 0, Value.slice none 0 0, Value.slice none 0 0] 31)) := (by repeat (first | exact Below.refl _ _ | assumption | refine Below.setCell ?_ (by first | (simp; done) | (simp; omega) | omega) _ | refine below_drewN ?_ _ | refine Below.drew ?_ | refine Below.alloc ?_ (by first | (simp; done) | (simp; omega) | omega) _))
                  have BP := Blk.newAt (w := ((wr.alloc (Obj.cells (zV 0) 44)).alloc (Obj.cells (zV Wd) 44))) (t := 31) (g := wr.heap.size + 1 + 1) (cs := #[Value.string { data := #[] }, Value.int IntKind.i64 0, Value.int IntKind.i64 ↑k, Value.int IntKind.i64 0, Value.bool false, Value.slice A2 6 c2, Value.slice Ac nc cc, Value.slice none 0 0, Value.slice none 0 0, Value.slice none 0 0, Value.slice none 0 0]) (by simp)
                  have hz : Blk (((wr.alloc (Obj.cells (zV 0) 44)).alloc (Obj.cells (zV Wd) 44)).alloc (Obj.cells #[Value.string { data := #[] }, Value.int IntKind.i64 0, Value.int IntKind.i64 ↑k, Value.int IntKind.i64 0, Value.bool false, Value.slice A2 6 c2, Value.slice Ac nc cc, Value.slice none 0 0, Value.slice none 0 0, Value.slice none 0 0, Value.slice none 0 0] 31)) wr.heap.size 44 (zV 0) := ((Blk.new wr 44 _).alloc _).alloc _
                  have hz2 : Blk (((wr.alloc (Obj.cells (zV 0) 44)).alloc (Obj.cells (zV Wd) 44)).alloc (Obj.cells #[Value.string { data := #[] }, Value.int IntKind.i64 0, Value.int IntKind.i64 ↑k, Value.int IntKind.i64 0, Value.bool false, Value.slice A2 6 c2, Value.slice Ac nc cc, Value.slice none 0 0, Value.slice none 0 0, Value.slice none 0 0, Value.slice none 0 0] 31)) (wr.heap.size + 1) 44 (zV Wd) := (Blk.newAt (w := wr.alloc (Obj.cells (zV 0) 44)) (by simp)).alloc _
                  obtain ⟨_, _, _, ez, RM, _⟩ := OwnV.rd (zV_own hz (by omega))
                  cases ez
                  obtain ⟨_, _, _, ez, RW, _⟩ := OwnV.rd (zV_own hz2 (by omega))
                  cases ez
                  have HB6 := HBe.trans (hb1.mono HBe.size)
                  by_cases hfit : 0 = k ∧ Wd = nc
                  · obtain ⟨hf1, hf2⟩ := hfit
                    have hC1 := Eq.mp (congrArg (fun p : Int => CodeAt (((wr.alloc (Obj.cells (zV 0) 44)).alloc (Obj.cells (zV Wd) 44)).alloc (Obj.cells #[Value.string { data := #[] }, Value.int IntKind.i64 0, Value.int IntKind.i64 ↑k, Value.int IntKind.i64 0, Value.bool false, Value.slice A2 6 c2, Value.slice Ac nc cc, Value.slice none 0 0, Value.slice none 0 0, Value.slice none 0 0, Value.slice none 0 0] 31)) (some ⟨wr.heap.size + 1 + 1, 0, none⟩) 0 p names6 CC 0) (show (k : Int) = ((0 : Nat) : Int) from by omega)) (blk_code BP (RLe.new hb1) (RCe.new hb1))
                    refine (new_env _ 1 1 0 names6 CC 0 _ 0 0 (List.replicate 0 V.zero) _ Wd Wd (List.replicate Wd V.zero) _ (by omega) (by omega) hC1 RM RW (by have : names6.length = 6 := rfl; omega) (by rw [RCe.1]; omega) (by decide) (by rw [RCe.1]; omega)).mono ?_
                    rintro e w6 ⟨S6, g6, rfl, E6⟩
                    have HB7 := Lib.hid (HB6.trans (E6.bel.mono HB6.size))
                    subst hf1
                    have pnc1 : ((Wd : Int) == (nc : Int)) = true := by rw [beq_iff_eq]; omega
                    clear E6 hC1
                    go_wp2
                    go_ret
                    exact ⟨rfl, HB7.out⟩
                  · refine (new_no _ 1 1 0 k names6 CC 0 _ 0 0 _ Wd Wd _ (by omega) (blk_code BP (RLe.new hb1) (RCe.new hb1)) (by rw [RCe.1]; omega) (fun h => hfit ⟨by omega, by rw [RCe.1] at h; omega⟩)).mono ?_
                    rintro e w6 ⟨rfl, hb6⟩
                    have HB7 := Lib.hid (HB6.trans (hb6.mono HB6.size))
                    clear hb6
                    by_cases hf1 : 0 = k
                    · have hf2 : ¬ Wd = nc := fun h => hfit ⟨hf1, h⟩
                      subst hf1
                      have nnc1 : ((Wd : Int) == (nc : Int)) = false := by rw [beq_eq_false_iff_ne]; omega
                      clear hfit
                      go_wp2
                      go_ret
                      exact ⟨rfl, HB7.out⟩
                    · clear hfit
                      have nk1 : ((0 : Int) == (k : Int)) = false := by rw [beq_eq_false_iff_ne]; omega
                      have nk2 : ¬ k = 0 := by omega
                      have nk3 : ((k : Int) == 0) = false := by rw [beq_eq_false_iff_ne]; omega
                      have nk4 : (k == 0) = false := by rw [beq_eq_false_iff_ne]; omega
                      have nk5 : (0 == k) = false := by rw [beq_eq_false_iff_ne]; omega
                      go_wp2
                      go_ret
                      exact ⟨rfl, HB7.out⟩
                · have hp1' : ¬ 0 < (nc : Int) + r1 := hp1
                  go_wp2_with fail
                  have hb1 : Below wr.heap.size wr (((wr.alloc (Obj.cells (zV 0) 44)).alloc (Obj.cells (zV 0) 44)).alloc (Obj.cells #[Value.string { data := #[] }, Value.int IntKind.i64 0, Value.int IntKind.i64 ↑k, Value.int IntKind.i64 0, Value.bool false, Value.slice A2 6 c2, Value.slice Ac nc cc, Value.slice none 0 0, Value.slice none 0 0, Value.slice none 0 0, Value.slice none 0 0] 31)) := (by repeat (first | exact Below.refl _ _ | assumption | refine Below.setCell ?_ (by first | (simp; done) | (simp; omega) | omega) _ | refine below_drewN ?_ _ | refine Below.drew ?_ | refine Below.alloc ?_ (by first | (simp; done) | (simp; omega) | omega) _))
                  have BP := Blk.newAt (w := ((wr.alloc (Obj.cells (zV 0) 44)).alloc (Obj.cells (zV 0) 44))) (t := 31) (g := wr.heap.size + 1 + 1) (cs := #[Value.string { data := #[] }, Value.int IntKind.i64 0, Value.int IntKind.i64 ↑k, Value.int IntKind.i64 0, Value.bool false, Value.slice A2 6 c2, Value.slice Ac nc cc, Value.slice none 0 0, Value.slice none 0 0, Value.slice none 0 0, Value.slice none 0 0]) (by simp)
                  have hz : Blk (((wr.alloc (Obj.cells (zV 0) 44)).alloc (Obj.cells (zV 0) 44)).alloc (Obj.cells #[Value.string { data := #[] }, Value.int IntKind.i64 0, Value.int IntKind.i64 ↑k, Value.int IntKind.i64 0, Value.bool false, Value.slice A2 6 c2, Value.slice Ac nc cc, Value.slice none 0 0, Value.slice none 0 0, Value.slice none 0 0, Value.slice none 0 0] 31)) wr.heap.size 44 (zV 0) := ((Blk.new wr 44 _).alloc _).alloc _
                  have hz2 : Blk (((wr.alloc (Obj.cells (zV 0) 44)).alloc (Obj.cells (zV 0) 44)).alloc (Obj.cells #[Value.string { data := #[] }, Value.int IntKind.i64 0, Value.int IntKind.i64 ↑k, Value.int IntKind.i64 0, Value.bool false, Value.slice A2 6 c2, Value.slice Ac nc cc, Value.slice none 0 0, Value.slice none 0 0, Value.slice none 0 0, Value.slice none 0 0] 31)) (wr.heap.size + 1) 44 (zV 0) := (Blk.newAt (w := wr.alloc (Obj.cells (zV 0) 44)) (by simp)).alloc _
                  obtain ⟨_, _, _, ez, RM, _⟩ := OwnV.rd (zV_own hz (by omega))
                  cases ez
                  obtain ⟨_, _, _, ez, RW, _⟩ := OwnV.rd (zV_own hz2 (by omega))
                  cases ez
                  have HB6 := HBe.trans (hb1.mono HBe.size)
                  by_cases hfit : 0 = k ∧ 0 = nc
                  · obtain ⟨hf1, hf2⟩ := hfit
                    have hC1 := Eq.mp (congrArg (fun p : Int => CodeAt (((wr.alloc (Obj.cells (zV 0) 44)).alloc (Obj.cells (zV 0) 44)).alloc (Obj.cells #[Value.string { data := #[] }, Value.int IntKind.i64 0, Value.int IntKind.i64 ↑k, Value.int IntKind.i64 0, Value.bool false, Value.slice A2 6 c2, Value.slice Ac nc cc, Value.slice none 0 0, Value.slice none 0 0, Value.slice none 0 0, Value.slice none 0 0] 31)) (some ⟨wr.heap.size + 1 + 1, 0, none⟩) 0 p names6 CC 0) (show (k : Int) = ((0 : Nat) : Int) from by omega)) (blk_code BP (RLe.new hb1) (RCe.new hb1))
                    refine (new_env _ 1 1 0 names6 CC 0 _ 0 0 (List.replicate 0 V.zero) _ 0 0 (List.replicate 0 V.zero) _ (by omega) (by omega) hC1 RM RW (by have : names6.length = 6 := rfl; omega) (by rw [RCe.1]; omega) (by decide) (by rw [RCe.1]; omega)).mono ?_
                    rintro e w6 ⟨S6, g6, rfl, E6⟩
                    have HB7 := Lib.hid (HB6.trans (E6.bel.mono HB6.size))
                    subst hf1
                    subst hf2
                    clear E6 hC1
                    go_wp2
                    go_ret
                    exact ⟨rfl, HB7.out⟩
                  · refine (new_no _ 1 1 0 k names6 CC 0 _ 0 0 _ 0 0 _ (by omega) (blk_code BP (RLe.new hb1) (RCe.new hb1)) (by rw [RCe.1]; omega) (fun h => hfit ⟨by omega, by rw [RCe.1] at h; omega⟩)).mono ?_
                    rintro e w6 ⟨rfl, hb6⟩
                    have HB7 := Lib.hid (HB6.trans (hb6.mono HB6.size))
                    clear hb6
                    by_cases hf1 : 0 = k
                    · have hf2 : ¬ 0 = nc := fun h => hfit ⟨hf1, h⟩
                      subst hf1
                      have nnc1 : ((0 : Int) == (nc : Int)) = false := by rw [beq_eq_false_iff_ne]; omega
                      have nnc2 : ¬ nc = 0 := by omega
                      have nnc3 : ((nc : Int) == 0) = false := by rw [beq_eq_false_iff_ne]; omega
                      have nnc4 : (nc == 0) = false := by rw [beq_eq_false_iff_ne]; omega
                      have nnc5 : (0 == nc) = false := by rw [beq_eq_false_iff_ne]; omega
                      clear hfit
                      go_wp2
                      go_ret
                      exact ⟨rfl, HB7.out⟩
                    · clear hfit
                      have nk1 : ((0 : Int) == (k : Int)) = false := by rw [beq_eq_false_iff_ne]; omega
                      have nk2 : ¬ k = 0 := by omega
                      have nk3 : ((k : Int) == 0) = false := by rw [beq_eq_false_iff_ne]; omega
                      have nk4 : (k == 0) = false := by rw [beq_eq_false_iff_ne]; omega
                      have nk5 : (0 == k) = false := by rw [beq_eq_false_iff_ne]; omega
                      go_wp2
                      go_ret
                      exact ⟨rfl, HB7.out⟩
end Go.Proofs.Ythdkloojhenlkaa
