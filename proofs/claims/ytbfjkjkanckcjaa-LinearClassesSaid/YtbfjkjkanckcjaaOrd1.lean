/- Order. -/
import Derived.Test.YtbfjkjkanckcjaaMrg
import Derived.Test.YtbfjkjkanckcjaaApf
namespace Go.Proofs.Ytbfjkjkanckcjaa
open Go.RowKit Go.Shelf

/-- P11.2 in plain words -/
def Lin.order (x : Int) (bases : List Int) (rows : List (List Int)) : Option (List Int) :=
  match Lin.merge (rows ++ [bases]) with
  | none => none
  | some l => if l.contains x then none else some (x :: l)

theorem merge_length {rows : List (List Int)} {l : List Int} (h : Lin.merge rows = some l) : l.length ≤ Lin.weight rows :=
  Lin.merge_ind (P := fun rows l => l.length ≤ Lin.weight rows) (fun _ _ _ => Nat.zero_le _) (fun rows x l hp ih => by
    have := Lin.pick_weight hp
    simp only [List.length_cons]
    omega) _ rows l h

set_option maxHeartbeats 400000 in
theorem clip_any (A : Option Addr) (n c : Nat) (w : World) (hnc : n ≤ c) (hc : c ≤ 9223372036854775807) :
    Calls Try.prog 32 #[.slice A n c] w fun e w' => e = .returned (.slice A n n) ∧ w' = w := by
  have hn : n ≤ 9223372036854775807 := by omega
  go_enter Try.func32, Try.ntmps32
  go_wp2_with fail
  go_ret
  exact ⟨rfl, rfl⟩

set_option maxRecDepth 100000 in
set_option maxHeartbeats 1000000 in
theorem order_any (x : Int) (B : Option Addr) (nb cb : Nat) (bs : List Int) (A : Option Addr) (m c : Nat) (rs : List SlI) (w : World) (hB : RdI w B nb cb bs) (hR : RdR w A m c rs) (hok : AllOk w rs) (hA : m = 0 → A = none ∨ ∃ b o, A = some ⟨b, o, none⟩)
    (hm : m ≤ 900) (hw : Lin.weight (nums rs) + nb ≤ 1000000) :
    Calls Try.prog 19 #[.int .i64 x, .slice B nb cb, .slice A m c] w fun e w' => ∃ v, e = .returned (.tuple #[v, .bool (Lin.order x bs (nums rs)).isSome]) ∧ NewI 2 w w' v ((Lin.order x bs (nums rs)).getD []) := by
  have hmc := hR.2.1
  have hc9 := hR.2.2.1
  have hR2 : RdR w A m m rs := ⟨hR.1, by
    have := hR.2.shrink (Nat.le_refl m) (Nat.le_refl m) hmc
    rw [List.take_of_length_le (by rw [rcs_length, hR.1]; omega)] at this
    exact this⟩
  go_enter Try.func19, Try.ntmps19
  go_wp2_with fail
  refine (clip_any A m c w hmc hc9).mono ?_
  rintro e w1 ⟨rfl, rfl⟩
  have hb1 : Below w1.heap.size w1 (w1.alloc (.cells #[.slice B nb cb] 25)) := (by repeat (first | exact Below.refl _ _ | assumption | refine Below.setCell ?_ (by first | (simp; done) | (simp; omega) | omega) _ | refine below_drewN ?_ _ | refine Below.drew ?_ | refine Below.alloc ?_ (by first | (simp; done) | (simp; omega) | omega) _))
  have HB := Lib.hid hb1
  have r1 := one_rdR w1 25 ⟨B, nb, cb, bs⟩
  have hR3 := hR2.new hb1
  have HR1 := Lib.hid r1
  have HR3 := Lib.hid hR3
  clear hb1 r1 hR3
  go_wp2_with (at_builtin; refine wpList_appendRF _ rfl (.tmp 12) (.tmp 14) rfl A m rs rfl HR3.out hA (some ⟨w1.heap.size, 0, none⟩) 1 1 [⟨B, nb, cb, bs⟩] rfl HR1.out (by omega) (by omega) ?_; intro v2 w2 hv2 hb2 hn2; obtain ⟨A2, n2, c2, rfl, hr2, _⟩ := OwnR.rd hv2; have HR2 := Lib.hid hr2; have HB2 := Lib.hid hb2; clear hr2 hb2 hv2 hn2)
  have hB2 : Below w1.heap.size w1 w2 := HB.out.trans (HB2.out.mono HB.out.size)
  have hok2 : AllOk w2 (rs ++ [⟨B, nb, cb, bs⟩]) := fun s hs => by
    rcases List.mem_append.1 hs with hs | hs
    · exact (hok s hs).new hB2
    · rw [List.mem_singleton] at hs
      subst hs
      exact RdI.new hB hB2
  have hn2 : n2 = m + 1 := by have := HR2.out.1; rw [← this]; simp [hR.1]
  have hnums : nums (rs ++ [⟨B, nb, cb, bs⟩]) = nums rs ++ [bs] := by simp [nums]
  have hwt : Lin.weight (nums (rs ++ [⟨B, nb, cb, bs⟩])) ≤ 1000000 := by
    have := hB.1
    rw [hnums]
    simp only [Lin.weight, List.map_append, List.sum_append, List.map_cons, List.map_nil, List.sum_cons, List.sum_nil] at hw ⊢
    omega
  refine (merge_any A2 n2 c2 _ w2 HR2.out hok2 (by omega) hwt).mono ?_
  rintro e w3 ⟨v3, rfl, hv3⟩
  rw [hnums] at hv3 ⊢
  have hwt2 : Lin.weight (nums rs ++ [bs]) ≤ 1000000 := by rw [← hnums]; exact hwt
  clear hnums hwt hok2 hR hR2 HR1 HR3 HR2 hok hB
  have hb3 := hB2.trans (hv3.bel.mono hB2.size)
  clear HB HB2 hB2
  cases hmg : Lin.merge (nums rs ++ [bs]) with
  | none =>
    have ho : Lin.order x bs (nums rs) = none := by simp [Lin.order, hmg]
    have HO := Lib.hid ho
    clear ho
    simp only [Option.isSome_none]
    rw [hmg] at hv3
    go_wp2_with fail
    refine bodyPost_ret (results_tmp2 rfl _ _ _) rfl ?_
    rw [HO.out]
    exact ⟨_, rfl, OwnI.nil_ 2 _, fun b e => (by cases e), hb3⟩
  | some l =>
    simp only [Option.isSome_some]
    rw [hmg] at hv3
    have hv3 : NewI 2 w2 w3 v3 l := hv3
    obtain ⟨A3, n3, c3, rfl, hr3, _⟩ := OwnI.rd hv3.own
    have HR3 := Lib.hid hr3
    have hl3 := hr3.1
    have hll : l.length ≤ 1000000 := Nat.le_trans (merge_length hmg) hwt2
    clear hr3 hv3
    have hsel : Lin.order x bs (nums rs) = if hasI l x then none else some (x :: l) := by simp [Lin.order, hmg, hasI]
    have HSEL := Lib.hid hsel
    clear hsel hmg
    cases hx : hasI l x
    · have HX := Lib.hid hx
      clear hx
      have hb4 : Below w3.heap.size w3 (w3.alloc (.cells #[.int .i64 x] 2)) := (by repeat (first | exact Below.refl _ _ | assumption | refine Below.setCell ?_ (by first | (simp; done) | (simp; omega) | omega) _ | refine below_drewN ?_ _ | refine Below.drew ?_ | refine Below.alloc ?_ (by first | (simp; done) | (simp; omega) | omega) _))
      have HB4 := Lib.hid hb4
      clear hb4
      have ho1 : OwnI 2 (w3.alloc (.cells #[.int .i64 x] 2)) (.slice (some ⟨w3.heap.size, 0, none⟩) 1 1) [x] := Own.made w3 #[.int .i64 x] 1 (by omega) rfl
      have HO1 := Lib.hid ho1
      clear ho1
      go_wp2_with fail
      refine (contains_any A3 n3 c3 l x _ HR3.out).mono ?_
      rintro e w' ⟨rfl, rfl⟩
      rw [HX.out]
      go_wp2_with (at_builtin; refine wpList_appendI _ rfl (.tmp 27) (.tmp 28) rfl _ _ rfl HO1.out A3 n3 c3 l rfl (HR3.out.new HB4.out) (by simp; omega) ?_; intro v5 w5 hv5 hg5 ha5; have HV5 := Lib.hid hv5; have HG5 := Lib.hid hg5; have HA5 := Lib.hid ha5; clear hv5 hg5 ha5)
      refine bodyPost_ret (results_tmp2 rfl _ _ _) rfl ?_
      rw [HSEL.out, HX.out]
      have h0 : NewI 2 w1 (w'.alloc (.cells #[.int .i64 x] 2)) (.slice (some ⟨w'.heap.size, 0, none⟩) 1 1) [x] := ⟨HO1.out, fun b e => (by
        have := hb3.size
        simp [Value.ownBlock] at e
        omega), hb3.trans (HB4.out.mono hb3.size)⟩
      exact ⟨_, rfl, h0.app HV5.out HG5.out HA5.out⟩
    · have HX := Lib.hid hx
      clear hx
      go_wp2_with fail
      refine (contains_any A3 n3 c3 l x _ HR3.out).mono ?_
      rintro e w' ⟨rfl, rfl⟩
      rw [HX.out]
      go_wp2_with fail
      refine bodyPost_ret (results_tmp2 rfl _ _ _) rfl ?_
      rw [HSEL.out, HX.out]
      exact ⟨_, rfl, OwnI.nil_ 2 _, fun b e => (by cases e), hb3⟩
end Go.Proofs.Ytbfjkjkanckcjaa
