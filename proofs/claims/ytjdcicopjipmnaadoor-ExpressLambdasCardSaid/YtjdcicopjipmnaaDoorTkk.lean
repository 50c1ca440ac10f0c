/- tok, whole. -/
import Derived.Test.YtjdcicopjipmnaaDoorTok
namespace Go.Proofs.YtjdcicopjipmnaaDoor
open Go.RowKit
set_option linter.unusedVariables false
set_option linter.unusedSimpArgs false
theorem tcs_len (t : TokD) : (tcs t).length = 4 := rfl
theorem flat_at : ∀ {L : List TokD} {k : Nat} {t : TokD}, L[k]? = some t → ∀ j u, (tcs t)[j]? = some u → (L.flatMap tcs)[k * 4 + j]? = some u
  | [], k, t, h, j, u, hu => by simp at h
  | x :: L, 0, t, h, j, u, hu => by
    obtain rfl : x = t := by simpa using h
    rw [List.flatMap_cons, List.getElem?_append_left (by have := (List.getElem?_eq_some_iff.1 hu).1; omega), Nat.zero_mul, Nat.zero_add]
    exact hu
  | x :: L, k + 1, t, h, j, u, hu => by
    rw [List.flatMap_cons, List.getElem?_append_right (by rw [tcs_len]; omega), tcs_len]
    have e : (k + 1) * 4 + j - 4 = k * 4 + j := by omega
    rw [e]
    exact flat_at (by simpa using h) j u hu
theorem tok_any {w : World} {pb bb mb n c : Nat} {A : Option Addr} {s : PS} {L : List TokD} (hP : Blk w pb 98 (pcs bb (.slice A n c) mb s)) (hL : Rd w A n c 4 (L.flatMap tcs)) (hn : L.length = n) (by_ : Nat) (hs : s.at_ + by_ ≤ 9223372036854775807) :
    Calls Tryd.prog 76 #[.pointer (some ⟨pb, 0, none⟩), .int .i64 by_] w fun e w' => e = .returned (tokV (tokP L s by_)) ∧ Below w.heap.size w w' := by
  by_cases he : s.e = 0
  · by_cases hk : s.at_ + by_ < n
    · obtain ⟨h1, h2, h3, h4⟩ := hL
      obtain ⟨b, o, rfl, hb, hc⟩ := h4 (by omega)
      obtain ⟨t, ht⟩ : ∃ t, L[s.at_ + by_]? = some t := ⟨_, List.getElem?_eq_getElem (by omega)⟩
      have e : tokP L s by_ = t := by unfold tokP; rw [if_neg (by simpa using he), ht]; rfl
      rw [e]
      exact tok_in hP he by_ hk (by omega) hb fun j u hu => by
        have := hc _ u (flat_at ht j u hu)
        rwa [← Nat.add_assoc] at this
    · have e : tokP L s by_ = zeroT := by unfold tokP; rw [if_neg (by simpa using he), List.getElem?_eq_none (by omega)]; rfl
      rw [e]
      exact tok_out hP he by_ (by omega) hs
  · have e : tokP L s by_ = zeroT := by unfold tokP; rw [if_pos he]
    rw [e]
    exact tok_bad hP he by_
end Go.Proofs.YtjdcicopjipmnaaDoor
