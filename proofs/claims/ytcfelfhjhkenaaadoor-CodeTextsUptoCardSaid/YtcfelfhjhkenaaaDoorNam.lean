/- Name: the names of instructions, by strings.Fields. -/
import Derived.Test.YtcfelfhjhkenaaaDoorBld
namespace Go.Proofs.YtcfelfhjhkenaaaDoor
open Go.RowKit
attribute [local go_sem] Oper.semAt_some

def wordsB : List UInt8 := [99, 111, 110, 115, 116, 32, 112, 111, 112, 32, 100, 117, 112, 32, 115, 119, 97, 112, 32, 108, 111, 97, 100, 32, 115, 116, 111, 114, 101, 32, 100, 101, 108, 32, 108, 111, 97, 100, 99, 101, 108, 108, 32, 115, 116, 111, 114, 101, 99, 101, 108, 108, 32, 100, 101, 108, 99, 101, 108, 108, 32, 112, 117, 115, 104, 99, 101, 108, 108, 32, 103, 108, 111, 98, 97, 108, 32, 115, 101, 116, 103, 108, 111, 98, 97, 108, 32, 100, 101, 108, 103, 108, 111, 98, 97, 108, 32, 115, 112, 97, 99, 101, 103, 101, 116, 32, 115, 112, 97, 99, 101, 115, 101, 116, 32, 115, 112, 97, 99, 101, 100, 101, 108, 32, 98, 105, 110, 32, 99, 109, 112, 32, 110, 101, 103, 32, 110, 111, 116, 32, 108, 105, 115, 116, 32, 116, 117, 112, 108, 101, 32, 100, 105, 99, 116, 32, 97, 116, 116, 114, 32, 115, 101, 116, 97, 116, 116, 114, 32, 100, 101, 108, 97, 116, 116, 114, 32, 105, 110, 100, 101, 120, 32, 115, 101, 116, 105, 110, 100, 101, 120, 32, 100, 101, 108, 105, 110, 100, 101, 120, 32, 115, 108, 105, 99, 101, 32, 99, 97, 108, 108, 32, 102, 117, 110, 99, 32, 98, 111, 100, 121, 32, 99, 108, 97, 115, 115, 32, 106, 117, 109, 112, 32, 106, 117, 109, 112, 102, 97, 108, 115, 101, 32, 106, 117, 109, 112, 116, 114, 117, 101, 32, 107, 101, 101, 112, 102, 97, 108, 115, 101, 32, 107, 101, 101, 112, 116, 114, 117, 101, 32, 105, 116, 101, 114, 32, 110, 101, 120, 116, 32, 109, 111, 114, 101, 32, 100, 111, 110, 101, 32, 112, 105, 99, 107, 32, 114, 111, 116, 32, 116, 114, 121, 32, 101, 110, 100, 116, 114, 121, 32, 109, 97, 116, 99, 104, 32, 114, 97, 105, 115, 101, 32, 114, 101, 114, 97, 105, 115, 101, 32, 114, 101, 116, 117, 114, 110, 32, 121, 105, 101, 108, 100, 32, 98, 101, 97, 116, 32, 101, 114, 114, 111, 114, 32, 101, 114, 114, 111, 114, 97, 114, 103]
/-- the names, that of 1 first -/
def wordsL : List (List UInt8) := [[99, 111, 110, 115, 116],
  [112, 111, 112],
  [100, 117, 112],
  [115, 119, 97, 112],
  [108, 111, 97, 100],
  [115, 116, 111, 114, 101],
  [100, 101, 108],
  [108, 111, 97, 100, 99, 101, 108, 108],
  [115, 116, 111, 114, 101, 99, 101, 108, 108],
  [100, 101, 108, 99, 101, 108, 108],
  [112, 117, 115, 104, 99, 101, 108, 108],
  [103, 108, 111, 98, 97, 108],
  [115, 101, 116, 103, 108, 111, 98, 97, 108],
  [100, 101, 108, 103, 108, 111, 98, 97, 108],
  [115, 112, 97, 99, 101, 103, 101, 116],
  [115, 112, 97, 99, 101, 115, 101, 116],
  [115, 112, 97, 99, 101, 100, 101, 108],
  [98, 105, 110],
  [99, 109, 112],
  [110, 101, 103],
  [110, 111, 116],
  [108, 105, 115, 116],
  [116, 117, 112, 108, 101],
  [100, 105, 99, 116],
  [97, 116, 116, 114],
  [115, 101, 116, 97, 116, 116, 114],
  [100, 101, 108, 97, 116, 116, 114],
  [105, 110, 100, 101, 120],
  [115, 101, 116, 105, 110, 100, 101, 120],
  [100, 101, 108, 105, 110, 100, 101, 120],
  [115, 108, 105, 99, 101],
  [99, 97, 108, 108],
  [102, 117, 110, 99],
  [98, 111, 100, 121],
  [99, 108, 97, 115, 115],
  [106, 117, 109, 112],
  [106, 117, 109, 112, 102, 97, 108, 115, 101],
  [106, 117, 109, 112, 116, 114, 117, 101],
  [107, 101, 101, 112, 102, 97, 108, 115, 101],
  [107, 101, 101, 112, 116, 114, 117, 101],
  [105, 116, 101, 114],
  [110, 101, 120, 116],
  [109, 111, 114, 101],
  [100, 111, 110, 101],
  [112, 105, 99, 107],
  [114, 111, 116],
  [116, 114, 121],
  [101, 110, 100, 116, 114, 121],
  [109, 97, 116, 99, 104],
  [114, 97, 105, 115, 101],
  [114, 101, 114, 97, 105, 115, 101],
  [114, 101, 116, 117, 114, 110],
  [121, 105, 101, 108, 100],
  [98, 101, 97, 116],
  [101, 114, 114, 111, 114],
  [101, 114, 114, 111, 114, 97, 114, 103]]
theorem words_len : wordsL.length = 56 := by decide
set_option maxRecDepth 100000 in
theorem words_fields : Lib.fields wordsB = wordsL := by kernel_rfl
theorem words_size : (⟨wordsB.toArray⟩ : ByteArray).size < 4294967281 := by
  have h : (⟨wordsB.toArray⟩ : ByteArray).size = 363 := by kernel_rfl
  omega
set_option maxRecDepth 100000 in
theorem words_ascii : ∀ (j : Nat) b, (⟨wordsB.toArray⟩ : ByteArray).data.toList[j]? = some b → b.toNat < 128 := fun j b h => by
  have h1 : ∀ b ∈ wordsB, b.toNat < 128 := by decide
  exact h1 b (List.mem_of_getElem? (by simpa using h))
theorem fields_call (w : World) (htab : Lib.TabIs Tryd.prog w "strings.asciiSpace" .u8 Lib.asciiSpaceTab) :
    Calls Tryd.prog 34 #[.string ⟨wordsB.toArray⟩] w fun e w' => e = .returned (.slice (some ⟨w.heap.size, 0, none⟩) 56 56) ∧ w' = w.alloc (.cells (wordsL.map fun l => Value.string ⟨l.toArray⟩).toArray 9) := by
  refine (Tryd.strings_Fields ⟨wordsB.toArray⟩ w words_size words_ascii htab).mono ?_
  rintro e w' ⟨rfl, rfl⟩
  have e : Lib.fields (⟨wordsB.toArray⟩ : ByteArray).data.toList = wordsL := words_fields
  rw [e, words_len]
  exact ⟨rfl, rfl⟩
theorem alloc_below (w : World) (o : Obj) : Below w.heap.size w (w.alloc o) := (by repeat (first | exact Below.refl _ _ | assumption | refine Below.setCell ?_ (by first | (simp; done) | (simp; omega) | omega) _ | refine below_drewN ?_ _ | refine Below.drew ?_ | refine Below.alloc ?_ (by first | (simp; done) | (simp; omega) | omega) _))
theorem alloc_lt (w : World) (o : Obj) : w.heap.size < (w.alloc o).heap.size := by simp
/-- an instruction's name -/
def nameB (op : Int) : List UInt8 := if 1 ≤ op ∧ op < 57 then wordsL.getD (op - 1).toNat [] else []
set_option maxRecDepth 100000 in
set_option maxHeartbeats 1000000 in
theorem name_any (op : Int) (w : World) (htab : Lib.TabIs Tryd.prog w "strings.asciiSpace" .u8 Lib.asciiSpaceTab) :
    Calls Tryd.prog 18 #[.int .i64 op] w fun e w' => e = .returned (.string ⟨(nameB op).toArray⟩) ∧ Below w.heap.size w w' := by
  by_cases h : 1 ≤ op ∧ op < 57
  · obtain ⟨i, rfl⟩ : ∃ i : Nat, op = (i : Int) + 1 := ⟨(op - 1).toNat, by omega⟩
    have hi : i < 56 := by omega
    have hn : nameB ((i : Int) + 1) = wordsL.getD i [] := by
      rw [nameB, if_pos h]
      congr 1
      omega
    have hx : wordsL[i]? = some (wordsL.getD i []) := by
      have : i < wordsL.length := by rw [words_len]; exact hi
      rw [List.getD_eq_getElem?_getD, List.getElem?_eq_getElem this]; rfl
    rw [hn]
    have hc : (w.alloc (.cells (wordsL.map fun l => Value.string ⟨l.toArray⟩).toArray 9)).cell? ⟨w.heap.size, i, none⟩ = some (.string ⟨(wordsL.getD i []).toArray⟩) := by
      rw [(Blk.new w 9 _).cell]
      rw [List.getElem?_toArray, List.getElem?_map, hx]; rfl
    have hb : Below w.heap.size w (w.alloc (.cells (wordsL.map fun l => Value.string ⟨l.toArray⟩).toArray 9)) := alloc_below w _
    have hz : w.heap.size < (w.alloc (.cells (wordsL.map fun l => Value.string ⟨l.toArray⟩).toArray 9)).heap.size := alloc_lt w _
    have HC := Lib.hid (And.intro hc (And.intro hb hz))
    have HT := Lib.hid htab
    clear hc hb hz hx hn htab h
    generalize wordsL.getD i [] = N at *
    have h0 : decide ((i : Int) + 1 < 1) = false := decide_eq_false (by omega)
    have h1 : decide ((57 : Int) ≤ (i : Int) + 1) = false := decide_eq_false (by omega)
    go_enter Tryd.func18, Tryd.ntmps18
    go_wp2_with fail
    refine (fields_call w HT.out).mono ?_
    rintro e w1 ⟨rfl, rfl⟩
    obtain ⟨hc, hb, hz⟩ := HC.out
    have HB := Lib.hid hb
    clear hb HC
    generalize w.alloc (.cells (wordsL.map fun l => Value.string ⟨l.toArray⟩).toArray 9) = W1 at *
    go_wp2_with fail
    go_ret
    exact ⟨rfl, HB.out⟩
  · have hn : nameB op = [] := if_neg h
    rw [hn]
    clear hn htab
    by_cases h0 : op < 1
    · have h1 : decide (op < 1) = true := decide_eq_true h0
      go_enter Tryd.func18, Tryd.ntmps18
      go_wp2_with fail
      go_ret
      exact ⟨rfl, Below.refl _ _⟩
    · have h1 : decide (op < 1) = false := decide_eq_false h0
      have h2 : decide ((57 : Int) ≤ op) = true := decide_eq_true (by omega)
      go_enter Tryd.func18, Tryd.ntmps18
      go_wp2_with fail
      go_ret
      exact ⟨rfl, Below.refl _ _⟩
/-- is its argument a place? -/
def jumpsB (op : Int) : Bool := decide (op = 36) || decide (op = 37) || decide (op = 38) || decide (op = 39) || decide (op = 40) || decide (op = 42) || decide (op = 47)
set_option maxRecDepth 100000 in
set_option maxHeartbeats 1000000 in
theorem jumps_any (op : Int) (w : World) : Calls Tryd.prog 20 #[.int .i64 op] w fun e w' => e = .returned (.bool (jumpsB op)) ∧ w' = w := by
  have hcase : op = 36 ∨ op = 37 ∨ op = 38 ∨ op = 39 ∨ op = 40 ∨ op = 42 ∨ op = 47 ∨ (op ≠ 36 ∧ op ≠ 37 ∧ op ≠ 38 ∧ op ≠ 39 ∧ op ≠ 40 ∧ op ≠ 42 ∧ op ≠ 47) := by omega
  rcases hcase with rfl | rfl | rfl | rfl | rfl | rfl | rfl | ⟨h1, h2, h3, h4, h5, h6, h7⟩
  iterate 7
    · go_enter Tryd.func20, Tryd.ntmps20
      go_wp2_with fail
      go_ret
      exact ⟨rfl, rfl⟩
  have hj : jumpsB op = false := by simp [jumpsB, h1, h2, h3, h4, h5, h6, h7]
  rw [hj]
  have g1 : (op == 36) = false := by simpa using h1
  have g2 : (op == 37) = false := by simpa using h2
  have g3 : (op == 38) = false := by simpa using h3
  have g4 : (op == 39) = false := by simpa using h4
  have g5 : (op == 40) = false := by simpa using h5
  have g6 : (op == 42) = false := by simpa using h6
  have g7 : (op == 47) = false := by simpa using h7
  clear hj h1 h2 h3 h4 h5 h6 h7
  go_enter Tryd.func20, Tryd.ntmps20
  go_wp2_with fail
  go_ret
  exact ⟨rfl, rfl⟩
end Go.Proofs.YtcfelfhjhkenaaaDoor
