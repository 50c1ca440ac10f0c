/- laid: it is bytes, and text. -/
import Derived.Test.YtcfelfhjhkenaaaDoorPla
import Derived.Test.YtcfelfhjhkenaaaDoorSam
namespace Go.Proofs.YtcfelfhjhkenaaaDoor
open Go.RowKit
attribute [local go_sem] Oper.semAt_some

theorem enc_plain : encE [plainD] = .ok plainB := by
  have n0 : numE 0 = .ok [0] := by simp [numE, numB_lo]
  have n1 : numE 1 = .ok [1] := by simp [numE, numB_lo]
  have n2 : numE 2 = .ok [2] := by simp [numE, numB_lo]
  have b0 : numB 0 = [0] := by rw [numB_lo (by omega)]; rfl
  have b1 : numB 1 = [1] := by rw [numB_lo (by omega)]; rfl
  have t1 : textE ⟨#[109]⟩ = .ok [1, 109] := by
    rw [textE, if_pos (by decide), show (⟨#[109]⟩ : ByteArray).size = 1 from rfl, b1]
    rfl
  have l0 : listE [] = .ok [0] := by
    rw [listE, if_pos (by decide)]
    show Except.ok (numB 0 ++ []) = _
    rw [b0]
    rfl
  have i1 : insE (1, 0) = .ok [1, 0] := by
    rw [insE, if_pos (by decide)]
    show andE (.ok [byteI 1]) (numE 0) = _
    rw [n0]
    rfl
  have i2 : insE (52, 0) = .ok [52, 0] := by
    rw [insE, if_pos (by decide)]
    show andE (.ok [byteI 52]) (numE 0) = _
    rw [n0]
    rfl
  have hv : valE ⟨2, 5, ⟨#[]⟩⟩ = .ok [2, 0, 0, 0, 0, 0, 0, 0, 5] := by
    rw [valE_2, if_pos emp_isEmpty]
    rfl
  have hc1 : countE ((1 : Nat) : Int) 4096 = .ok [1] := by rw [countE, if_pos (by decide)]; exact n1
  have hc2 : countE ((2 : Nat) : Int) 65536 = .ok [2] := by rw [countE, if_pos (by decide)]; exact n2
  have hc3 : countE ((1 : Nat) : Int) 1000 = .ok [1] := by rw [countE, if_pos (by decide)]; exact n1
  have hco : codeE plainD = .ok [1, 109, 1, 0, 0, 0, 0, 0, 0, 0, 1, 2, 0, 0, 0, 0, 0, 0, 0, 5, 2, 1, 0, 52, 0] := by
    unfold codeE plainD
    simp only [List.length_cons, List.length_nil, Nat.zero_add, Nat.reduceAdd, t1, n1, n0, l0, hc1, hc2, seqE, hv, i1, i2]
    rfl
  unfold encE
  simp only [List.length_cons, List.length_nil, Nat.zero_add, hc3, seqE, hco]
  rfl
theorem plain_ok : ∀ c ∈ [plainD], c.Ok := fun c hc => by
  have : c = plainD := by simpa using hc
  subst this
  intro v hv
  have : v = ⟨2, 5, ⟨#[]⟩⟩ := by simpa [plainD] using hv
  subst this
  exact ⟨by decide, by decide⟩
theorem dec_plain : decE plainB = .ok [plainD] := dec_back plain_ok enc_plain
theorem dec_plus : decE (plainB ++ [120]) = .error 50 := dec_more plain_ok enc_plain (by simp)
theorem dec_many : decE [75, 82, 65, 73, 84, 49, 233, 7] = .error 2 := by rfl
theorem enc_bad : encE [badD] = .error 1 := by
  have b1 : numB 1 = [1] := by rw [numB_lo (by omega)]; rfl
  have b0 : numB 0 = [0] := by rw [numB_lo (by omega)]; rfl
  have hc3 : countE ((1 : Nat) : Int) 1000 = .ok [1] := by
    rw [countE, if_pos (by decide), numE, if_pos (by decide)]
    show Except.ok (numB 1) = _
    rw [b1]
  have t1 : textE ⟨#[]⟩ = .ok [0] := by
    rw [textE, if_pos (by decide), show (⟨#[]⟩ : ByteArray).size = 0 from rfl, b0]
    rfl
  have n1 : numE (-1) = .error 1 := rfl
  have hco : codeE badD = .error 1 := by
    unfold codeE badD
    simp only [t1, n1]
    rfl
  unfold encE
  simp only [List.length_cons, List.length_nil, Nat.zero_add, hc3, seqE, hco]
  rfl
def plainT : List UInt8 := [99, 111, 100, 101, 32, 48, 32, 109, 32, 107, 105, 110, 100, 32, 49, 32, 112, 97, 114, 97, 109, 115, 32, 48, 32, 100, 101, 102, 97, 117, 108, 116, 115, 32, 48, 10, 32, 32, 48, 32, 99, 111, 110, 115, 116, 32, 48, 10, 32, 32, 49, 32, 114, 101, 116, 117, 114, 110, 32, 48, 10]
theorem text_plain : textT [plainD] = plainT := by kernel_rfl
end Go.Proofs.YtcfelfhjhkenaaaDoor
