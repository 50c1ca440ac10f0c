/- The reference's decimal. -/
import Derived.Test.YtcfelfhjhkenaaaDoorTxw
import Derived.Lib.ItoaLen
namespace Go.Proofs.YtcfelfhjhkenaaaDoor
open Go.RowKit
set_option linter.unusedVariables false
set_option linter.unusedSimpArgs false
attribute [local go_sem] Oper.semAt_some

/-- what is left to be written, and what is written -/
def Dig (u m : Nat) (s : List UInt8) : Prop := s.length ≤ 20 ∧ ((s = [] ∧ m = u) ∨ (s ≠ [] ∧ ((m = 0 ∧ Lib.decDigits u = s) ∨ (0 < m ∧ Lib.decDigits u = Lib.decDigits m ++ s))))
theorem dec_len {u : Nat} (h : u ≤ 18446744073709551615) : (Lib.decDigits u).length ≤ 20 := by
  rw [Lib.decDigits_length]
  exact Lib.nDigits_le20 u (by omega)
theorem Dig.step {u m : Nat} {s : List UInt8} (h : Dig u m s) (hu : u ≤ 18446744073709551615) (hm : 0 < m ∨ s = []) : Dig u (m / 10) (UInt8.ofNat (48 + m % 10) :: s) := by
  have key : Lib.decDigits u = Lib.decDigits m ++ s := by
    rcases h.2 with ⟨rfl, rfl⟩ | ⟨h1, ⟨rfl, _⟩ | ⟨_, h2⟩⟩
    · simp
    · rcases hm with hm | hm
      · omega
      · exact absurd hm h1
    · exact h2
  have hl := dec_len hu
  by_cases h10 : m < 10
  · rw [show Lib.decDigits m = [UInt8.ofNat (48 + m)] by rw [Lib.decDigits, dif_pos h10]] at key
    have e : m % 10 = m := by omega
    refine ⟨?_, .inr ⟨by simp, .inl ⟨by omega, by rw [e, key]; rfl⟩⟩⟩
    rw [key] at hl
    simpa using hl
  · rw [show Lib.decDigits m = Lib.decDigits (m / 10) ++ [UInt8.ofNat (48 + m % 10)] by rw [Lib.decDigits, dif_neg h10]] at key
    refine ⟨?_, .inr ⟨by simp, .inr ⟨by omega, by rw [key]; simp⟩⟩⟩
    rw [key] at hl
    simp at hl ⊢
    omega
theorem Dig.end_ {u m : Nat} {s : List UInt8} (h : Dig u m s) (hm : ¬ (0 < m)) (hs : s ≠ []) : Lib.decDigits u = s := by
  rcases h.2 with ⟨rfl, rfl⟩ | ⟨h1, ⟨rfl, h2⟩ | ⟨h2, _⟩⟩
  · exact absurd rfl hs
  · exact h2
  · omega
theorem Dig.start (u : Nat) : Dig u u [] := ⟨by simp, .inl ⟨rfl, rfl⟩⟩

set_option maxRecDepth 100000 in
set_option maxHeartbeats 1000000 in
theorem decimal_any (n : Int) (h : I64 n) (w : World) :
    Calls Tryd.prog 33 #[.int .i64 n] w fun e w' => e = .returned (.string (bstr (Lib.itoa n))) ∧ Below w.heap.size w w' := by
  obtain ⟨u, hu⟩ : ∃ u : Nat, u = n.natAbs := ⟨_, rfl⟩
  obtain ⟨h0, h1⟩ := h
  have hu2 : u ≤ 9223372036854775808 := by omega
  have hneg : n < 0 ∨ ¬ n < 0 := by omega
  have hit : Lib.itoa n = if n < 0 then 45 :: Lib.decDigits u else Lib.decDigits u := by
    unfold Lib.itoa
    rw [hu]
    split
    · rfl
    · congr 1; omega
  rw [hit]
  have hw : IntKind.u64.wrap n = if n < 0 then n + 18446744073709551616 else n := by
    have : IntKind.u64.wrap n = n % 18446744073709551616 := rfl
    rw [this]
    split <;> omega
  have hw2 : n < 0 → IntKind.u64.wrap (-(n + 18446744073709551616)) = (u : Int) := by
    intro hn
    have : IntKind.u64.wrap (-(n + 18446744073709551616)) = (-(n + 18446744073709551616)) % 18446744073709551616 := rfl
    rw [this]
    omega
  have key : ∀ (neg : Bool), decide (n < 0) = neg → Calls Tryd.prog 33 #[.int .i64 n] w fun e w' => e = .returned (.string (bstr (if neg then 45 :: Lib.decDigits u else Lib.decDigits u))) ∧ Below w.heap.size w w' := by
    intro neg hd
    cases neg with
    | true =>
      have hn : n < 0 := of_decide_eq_true hd
      have hw2' := hw2 hn
      rw [if_pos hn] at hw
      clear hit hw2 hneg hu
      go_enter Tryd.func33, Tryd.ntmps33
      go_wp2_with fail
      go_loopw [3, 4] (fun v s wr => ∃ (k : Nat) (l : List UInt8), v = .int .u64 k ∧ s = .string (bstr l) ∧ k ≤ 9223372036854775808 ∧ Dig u k l ∧ Below w.heap.size w wr) (fun v s _ => (intOf v).toNat + (match s with | .string s => if s.size = 0 then 1 else 0 | _ => 0))
      case atStart => exact ⟨u, [], rfl, rfl, hu2, Dig.start u, Below.refl _ _⟩
      case round =>
        obtain ⟨k, l, rfl, rfl, hk, hD, hB⟩ := hrel
        have HD := Lib.hid hD
        have HB := Lib.hid hB
        have hl20 := hD.1
        by_cases hgo : 0 < k ∨ l = []
        · have HS := Lib.hid (hD.step (by omega) hgo)
          obtain ⟨y, hy⟩ : ∃ y : UInt8, y = UInt8.ofNat (48 + k % 10) := ⟨_, rfl⟩
          have hyv : 48 + (k : Int) % 10 = (y.toNat : Int) := by rw [hy, UInt8.toNat_ofNat']; omega
          have hyw : IntKind.u8.wrap (48 + (k : Int) % 10) = (y.toNat : Int) := by
            rw [show IntKind.u8.wrap (48 + (k : Int) % 10) = (48 + (k : Int) % 10) % 256 from rfl]
            omega
          rw [← hy] at HS
          clear hy
          have kc : (convert 30 9 (.slice (some ⟨wr.heap.size, 0, none⟩) 1 1)).run Tryd.prog (wr.alloc (.cells #[.int .u8 y.toNat] 5)) = .ok (.string (bstr [y])) (wr.alloc (.cells #[.int .u8 y.toNat] 5)) := by
            obtain ⟨A', c', e, r, -⟩ := (Own.made (t := 5) (sz := 1) wr #[.int .u8 y.toNat] 1 (by omega) rfl).rd
            cases e
            exact conv_rd (bs := [y]) r (by simp)
          obtain ⟨T, hT⟩ : ∃ T, T = bstr l := ⟨_, rfl⟩
          have hTs : T.size ≤ 20 := by rw [hT, bstr_size]; exact hl20
          obtain ⟨U, hU⟩ : ∃ U, U = bstr [y] := ⟨_, rfl⟩
          have hUs : U.size = 1 := by rw [hU, bstr_size]; rfl
          have hUT : U ++ T = bstr (y :: l) := by rw [hU, hT]; simp [bstr, ByteArray.ext_iff]
          rw [← hT]
          rw [← hU] at kc
          have HU := Lib.hid hUT
          have HT := Lib.hid hT
          clear hU hT hUT
          by_cases hk0 : 0 < k
          · have d0 : decide ((0 : Int) < (k : Int)) = true := decide_eq_true (by omega)
            go_wp2_with fail
            go_roundw
            case rel => exact ⟨k / 10, y :: l, by rw [Int.natCast_ediv]; rfl, by rw [HU.out], by omega, HS.out, HB.out.alloc (by have := HB.out.size; omega) _⟩
            case measure =>
              simp only [intOf, ByteArray.size_append]
              rw [if_neg (by omega)]
              split <;> omega
          · obtain rfl : k = 0 := by omega
            obtain rfl : l = [] := by rcases hgo with h | h; exact absurd h hk0; exact h
            obtain rfl : T = ⟨#[]⟩ := HT.out
            have e48 : (y.toNat : Int) = 48 := by omega
            rw [e48] at kc
            go_wp2_with fail
            go_roundw
            case rel => exact ⟨0, [y], by go_num, by rw [HU.out], by omega, HS.out, HB.out.alloc (by have := HB.out.size; omega) _⟩
            case measure =>
              simp only [intOf, ByteArray.size_append]
              rw [if_neg (by omega), if_pos (show (⟨#[]⟩ : ByteArray).size = 0 from rfl)]
              decide
        · obtain rfl : k = 0 := by omega
          have hne : l ≠ [] := fun h => hgo (.inr h)
          have HE := Lib.hid (hD.end_ (by omega) hne)
          obtain ⟨T, hT⟩ : ∃ T, T = bstr l := ⟨_, rfl⟩
          have hTs : T.size ≤ 20 := by rw [hT, bstr_size]; exact hl20
          have ht1 : ¬ T = (⟨#[]⟩ : ByteArray) := by
            rw [hT]
            cases l with
            | nil => exact absurd rfl hne
            | cons x l => exact fun h => by simp [bstr] at h
          have ht0 : (T == (⟨#[]⟩ : ByteArray)) = false := by
            rw [hT]
            cases l with
            | nil => exact absurd rfl hne
            | cons x l => rfl
          have ht2 : T.toList.isEmpty = false := by
            rw [ByteArray.toList_eq, hT, bstr_list]
            cases l with
            | nil => exact absurd rfl hne
            | cons x l => rfl
          rw [← hT]
          have HT := Lib.hid hT
          clear hT hD hne
          go_wp2_with fail
          go_ret
          exact ⟨by rw [show bstr (45 :: Lib.decDigits u) = (⟨#[45]⟩ : ByteArray) ++ T by rw [HT.out, HE.out]; simp [bstr, ByteArray.ext_iff]]; rfl, HB.out⟩
    | false =>
      have hn : ¬ n < 0 := of_decide_eq_false hd
      obtain rfl : n = (u : Int) := by omega
      rw [if_neg hn] at hw
      clear hit hw2 hneg hu
      go_enter Tryd.func33, Tryd.ntmps33
      go_wp2_with fail
      go_loopw [3, 4] (fun v s wr => ∃ (k : Nat) (l : List UInt8), v = .int .u64 k ∧ s = .string (bstr l) ∧ k ≤ 9223372036854775808 ∧ Dig u k l ∧ Below w.heap.size w wr) (fun v s _ => (intOf v).toNat + (match s with | .string s => if s.size = 0 then 1 else 0 | _ => 0))
      case atStart => exact ⟨u, [], rfl, rfl, hu2, Dig.start u, Below.refl _ _⟩
      case round =>
        obtain ⟨k, l, rfl, rfl, hk, hD, hB⟩ := hrel
        have HD := Lib.hid hD
        have HB := Lib.hid hB
        have hl20 := hD.1
        by_cases hgo : 0 < k ∨ l = []
        · have HS := Lib.hid (hD.step (by omega) hgo)
          obtain ⟨y, hy⟩ : ∃ y : UInt8, y = UInt8.ofNat (48 + k % 10) := ⟨_, rfl⟩
          have hyv : 48 + (k : Int) % 10 = (y.toNat : Int) := by rw [hy, UInt8.toNat_ofNat']; omega
          have hyw : IntKind.u8.wrap (48 + (k : Int) % 10) = (y.toNat : Int) := by
            rw [show IntKind.u8.wrap (48 + (k : Int) % 10) = (48 + (k : Int) % 10) % 256 from rfl]
            omega
          rw [← hy] at HS
          clear hy
          have kc : (convert 30 9 (.slice (some ⟨wr.heap.size, 0, none⟩) 1 1)).run Tryd.prog (wr.alloc (.cells #[.int .u8 y.toNat] 5)) = .ok (.string (bstr [y])) (wr.alloc (.cells #[.int .u8 y.toNat] 5)) := by
            obtain ⟨A', c', e, r, -⟩ := (Own.made (t := 5) (sz := 1) wr #[.int .u8 y.toNat] 1 (by omega) rfl).rd
            cases e
            exact conv_rd (bs := [y]) r (by simp)
          obtain ⟨T, hT⟩ : ∃ T, T = bstr l := ⟨_, rfl⟩
          have hTs : T.size ≤ 20 := by rw [hT, bstr_size]; exact hl20
          obtain ⟨U, hU⟩ : ∃ U, U = bstr [y] := ⟨_, rfl⟩
          have hUs : U.size = 1 := by rw [hU, bstr_size]; rfl
          have hUT : U ++ T = bstr (y :: l) := by rw [hU, hT]; simp [bstr, ByteArray.ext_iff]
          rw [← hT]
          rw [← hU] at kc
          have HU := Lib.hid hUT
          have HT := Lib.hid hT
          clear hU hT hUT
          by_cases hk0 : 0 < k
          · have d0 : decide ((0 : Int) < (k : Int)) = true := decide_eq_true (by omega)
            go_wp2_with fail
            go_roundw
            case rel => exact ⟨k / 10, y :: l, by rw [Int.natCast_ediv]; rfl, by rw [HU.out], by omega, HS.out, HB.out.alloc (by have := HB.out.size; omega) _⟩
            case measure =>
              simp only [intOf, ByteArray.size_append]
              rw [if_neg (by omega)]
              split <;> omega
          · obtain rfl : k = 0 := by omega
            obtain rfl : l = [] := by rcases hgo with h | h; exact absurd h hk0; exact h
            obtain rfl : T = ⟨#[]⟩ := HT.out
            have e48 : (y.toNat : Int) = 48 := by omega
            rw [e48] at kc
            go_wp2_with fail
            go_roundw
            case rel => exact ⟨0, [y], by go_num, by rw [HU.out], by omega, HS.out, HB.out.alloc (by have := HB.out.size; omega) _⟩
            case measure =>
              simp only [intOf, ByteArray.size_append]
              rw [if_neg (by omega), if_pos (show (⟨#[]⟩ : ByteArray).size = 0 from rfl)]
              decide
        · obtain rfl : k = 0 := by omega
          have hne : l ≠ [] := fun h => hgo (.inr h)
          have HE := Lib.hid (hD.end_ (by omega) hne)
          obtain ⟨T, hT⟩ : ∃ T, T = bstr l := ⟨_, rfl⟩
          have hTs : T.size ≤ 20 := by rw [hT, bstr_size]; exact hl20
          have ht1 : ¬ T = (⟨#[]⟩ : ByteArray) := by
            rw [hT]
            cases l with
            | nil => exact absurd rfl hne
            | cons x l => exact fun h => by simp [bstr] at h
          have ht0 : (T == (⟨#[]⟩ : ByteArray)) = false := by
            rw [hT]
            cases l with
            | nil => exact absurd rfl hne
            | cons x l => rfl
          have ht2 : T.toList.isEmpty = false := by
            rw [ByteArray.toList_eq, hT, bstr_list]
            cases l with
            | nil => exact absurd rfl hne
            | cons x l => rfl
          rw [← hT]
          have HT := Lib.hid hT
          clear hT hD hne
          go_wp2_with fail
          go_ret
          exact ⟨by rw [HT.out, HE.out]; rfl, HB.out⟩
  rcases hneg with hn | hn
  · rw [if_pos hn]
    exact key true (decide_eq_true hn)
  · rw [if_neg hn]
    exact key false (decide_eq_false hn)
end Go.Proofs.YtcfelfhjhkenaaaDoor
