/- in.take, in.among. -/
import Derived.Test.YtcfelfhjhkenaaaDoorEcd
import Derived.Test.YtcfelfhjhkenaaaDoorPas
namespace Go.Proofs.YtcfelfhjhkenaaaDoor
open Go.RowKit
attribute [local go_sem] Oper.semAt_some

/-- what a reading call does: it gives a value and leaves the rest, or gives up -/
def Took {α : Type} (w : World) (x : Nat) (V : World → α → Value → Prop) (r : Except Int (α × List UInt8)) (e : Ending) (w' : World) : Prop :=
  Mod (fun i => i = x) w w' ∧ match r with
  | .ok (a, l) => (∃ v, e = .returned v ∧ V w' a v) ∧ Blk w' x 70 #[.string (bstr l)]
  | .error y => e = .panicked [{ v := .iface 24 (.int .i64 y), recovered := false }]
def StrV (_ : World) (t : List UInt8) (v : Value) : Prop := v = .string (bstr t)
def ByteV (_ : World) (b : UInt8) (v : Value) : Prop := v = .int .u8 b.toNat
theorem extract_lo (l : List UInt8) (n : Nat) : (bstr l).extract 0 n = bstr (l.take n) := by
  apply ByteArray.ext
  apply Array.toList_inj.1
  rw [bstr_list]
  simp [bstr, ByteArray.data_extract]
theorem extract_hi (l : List UInt8) (n : Nat) : (bstr l).extract n (bstr l).size = bstr (l.drop n) := by
  apply ByteArray.ext
  apply Array.toList_inj.1
  rw [bstr_list, bstr_size]
  simp only [bstr, ByteArray.data_extract, Array.toList_extract, List.extract_eq_take_drop]
  exact List.take_of_length_le (by rw [List.length_drop]; exact Nat.le_refl _)
theorem und70 : Tryd.prog.underlying 9 = some .string := by kernel_rfl

set_option maxHeartbeats 400000 in
theorem take_any {w : World} {x : Nat} {l : List UInt8} (h : Blk w x 70 #[.string (bstr l)]) (n : Nat) :
    Calls Tryd.prog 58 #[.pointer (some ⟨x, 0, none⟩), .int .i64 n] w (Took w x StrV (takeP n l)) := by
  have hc := h.cell 0
  have hf := h.frozen 0
  have hlt := h.lt
  simp only [List.getElem?_toArray, List.getElem?_cons_zero] at hc
  have H := Lib.hid h
  clear h
  have hlo := extract_lo l n
  have hhi := extract_hi l n
  have hz := bstr_size l
  generalize bstr l = s at *
  by_cases hn : n ≤ s.size
  · have hr : takeP n l = .ok (l.take n, l.drop n) := if_pos (by omega)
    rw [hr]
    have hd : decide ((n : Int) ≤ (s.size : Int)) = true := decide_eq_true (by omega)
    have HZ := Lib.hid (And.intro hlo hhi)
    clear hlo hhi hz hr
    go_enter Tryd.func58, Tryd.ntmps58
    go_wp2_with fail
    refine (need_yes 50 _).mono ?_
    rintro e w1 ⟨rfl, rfl⟩
    clear hd
    go_wp2_with fail
    go_ret
    refine ⟨(Mod.refl (fun i => i = x) _).setCell (p := ⟨x, 0, none⟩) (fun _ => rfl) _, ⟨_, rfl, ?_⟩, ?_⟩
    · rw [HZ.out.1]
      rfl
    · rw [← HZ.out.2]
      exact H.out.set_ 0 _
  · have hr : takeP n l = .error 50 := if_neg (by omega)
    rw [hr]
    have hd : decide (n ≤ s.size) = false := decide_eq_false hn
    clear hlo hhi hz hr
    go_enter Tryd.func58, Tryd.ntmps58
    go_wp2_with fail
    refine (need_no 50 _).mono ?_
    rintro e w1 ⟨rfl, rfl⟩
    exact ⟨rfl, Mod.refl _ _, rfl⟩
theorem Took.ok {α : Type} {w : World} {x : Nat} {V : World → α → Value → Prop} {a : α} {l : List UInt8} {e : Ending} {w' : World} (h : Took w x V (.ok (a, l)) e w') : ∃ v, e = .returned v ∧ V w' a v ∧ Blk w' x 70 #[.string (bstr l)] ∧ Mod (fun i => i = x) w w' := by
  obtain ⟨h1, ⟨v, h2, h3⟩, h4⟩ := h
  exact ⟨v, h2, h3, h4, h1⟩
theorem one_index (b : UInt8) : (bstr [b]).size = 1 := rfl

set_option maxHeartbeats 400000 in
theorem among_any {w : World} {x : Nat} {l : List UInt8} (h : Blk w x 70 #[.string (bstr l)]) (lo hi : Nat) :
    Calls Tryd.prog 51 #[.pointer (some ⟨x, 0, none⟩), .int .u8 lo, .int .u8 hi] w (Took w x ByteV (amongP lo hi l)) := by
  have H := Lib.hid h
  clear h
  cases l with
  | nil =>
    go_enter Tryd.func51, Tryd.ntmps51
    go_wp2_with fail
    refine (take_any H.out 1).mono ?_
    rintro e w1 ⟨hm, rfl⟩
    exact ⟨rfl, hm, rfl⟩
  | cons b r =>
    have ht : takeP 1 (b :: r) = .ok ([b], r) := rfl
    have HT := Lib.hid ht
    clear ht
    have hsz := one_index b
    have hb0 : ∀ h, (bstr [b])[0]'h = b := fun _ => rfl
    by_cases hin : lo ≤ b.toNat ∧ b.toNat ≤ hi
    · have hr : amongP lo hi (b :: r) = .ok (b, r) := if_pos hin
      rw [hr]
      clear hr
      go_enter Tryd.func51, Tryd.ntmps51
      go_wp2_with fail
      refine (take_any H.out 1).mono ?_
      rintro e w1 ht
      rw [HT.out] at ht
      obtain ⟨v, rfl, rfl, hB, hm⟩ := ht.ok
      clear ht
      have hd1 : decide (lo ≤ b.toNat) = true := decide_eq_true hin.1
      have hd2 : decide (b.toNat ≤ hi) = true := decide_eq_true hin.2
      go_wp2_with fail
      refine (need_yes 50 _).mono ?_
      rintro e w2 ⟨rfl, rfl⟩
      go_wp2_with fail
      go_ret
      exact ⟨hm, ⟨_, rfl, rfl⟩, hB⟩
    · have hr : amongP lo hi (b :: r) = .error 50 := if_neg hin
      rw [hr]
      clear hr
      go_enter Tryd.func51, Tryd.ntmps51
      go_wp2_with fail
      refine (take_any H.out 1).mono ?_
      rintro e w1 ht
      rw [HT.out] at ht
      obtain ⟨v, rfl, rfl, hB, hm⟩ := ht.ok
      clear ht
      by_cases h1 : lo ≤ b.toNat
      · have h2 : ¬ b.toNat ≤ hi := fun h => hin ⟨h1, h⟩
        have hd1 : decide (lo ≤ b.toNat) = true := decide_eq_true h1
        have hd2 : decide (b.toNat ≤ hi) = false := decide_eq_false h2
        go_wp2_with fail
        refine (need_no 50 _).mono ?_
        rintro e w2 ⟨rfl, rfl⟩
        exact ⟨rfl, hm, rfl⟩
      · have hd1 : decide (lo ≤ b.toNat) = false := decide_eq_false h1
        go_wp2_with fail
        refine (need_no 50 _).mono ?_
        rintro e w2 ⟨rfl, rfl⟩
        exact ⟨rfl, hm, rfl⟩
end Go.Proofs.YtcfelfhjhkenaaaDoor
