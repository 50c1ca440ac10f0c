/- DictPlays: the walk. -/
import Derived.Test.YtfdihmbmlhlkgaaShn
namespace Go.Proofs.Ytfdihmbmlhlkgaa
open Go.RowKit
attribute [local go_sem high] guardV eqV neqV guardP neqP
attribute [local go_sem] V.v

/-- a dict and the reference's, both new -/
theorem both_new {w0 w w1 : World} {g : Nat} (h0 : Below w0.heap.size w0 w) (hd : IsDict w1 (Grew (fun _ => False) w w1) g []) (hb1 : Below w.heap.size w w1) :
    ∃ S, HasB w0 (w1.alloc (.cells #[.slice none 0 0] 53)) S g w1.heap.size [] := by
  have hbn : Below w1.heap.size w1 (w1.alloc (.cells #[.slice none 0 0] 53)) := (by repeat (first | exact Below.refl _ _ | assumption | refine Below.setCell ?_ (by first | (simp; done) | (simp; omega) | omega) _ | refine below_drewN ?_ _ | refine Below.drew ?_ | refine Below.alloc ?_ (by first | (simp; done) | (simp; omega) | omega) _))
  have hy : IsRef (w1.alloc (.cells #[.slice none 0 0] 53)) (fun i => i = w1.heap.size) w1.heap.size [] := ⟨.slice none 0 0, Blk.new w1 53 _, Own.nil_ _ _ _, rfl, fun b e => (by cases e), fun i e => (by subst e; simp)⟩
  have hs := hb1.size
  have h0s := h0.size
  refine ⟨Grew (fun _ => False) w (w1.alloc (.cells #[.slice none 0 0] 53)), ⟨_, _, hd.new hbn, hy, fun i h1 h2 => ?_, fun i hi => hi.elim False.elim (fun h => .inr ⟨h.1, by simp; omega⟩), fun i hi => .inr ⟨by subst hi; exact hs, by subst hi; simp⟩⟩, ⟨fun i hi => hi.elim False.elim (fun h => h.2), fun i hi => hi.elim False.elim (fun h => by omega), h0.trans ((hb1.trans (hbn.mono hs)).mono h0s)⟩⟩
  subst h2
  exact h1.elim False.elim (fun h => by omega)

set_option maxRecDepth 100000 in
set_option maxHeartbeats 2000000 in
theorem plays_walk (A : Option Addr) (n c : Nat) (l : List CallD) (w : World) (hA : RdC w A n c l) :
    Calls Try.prog 6 #[.slice A n c] w fun e w' => e = .returned (.bool true) ∧ Below w.heap.size w w' := by
  have hn := hA.le
  have hln := hA.1
  have HA := Lib.hid hA
  clear hA
  go_enter Try.func6, Try.ntmps6
  go_wp2_with fail
  refine (shown_any _).mono ?_
  rintro e w0 ⟨rfl, hb0⟩
  go_wp2_with fail
  refine (new_any _).mono ?_
  rintro e w1 ⟨g, rfl, hd, hb1⟩
  have hB0 := both_new hb0 hd hb1
  have HB0 := Lib.hid hB0
  clear hd hb1 hB0 hb0
  go_wp2_with fail
  go_loopw [6] (fun i wr => ∃ (k : Nat) (S : Nat → Prop) (L : List (V × V)), k ≤ n ∧ k ≤ 40 ∧ i = .int .i64 k ∧ HasB w wr S g w1.heap.size L) (fun i _ => 40 - (intOf i).toNat)
  case atStart =>
    obtain ⟨S, h⟩ := HB0.out
    exact ⟨0, S, [], Nat.zero_le _, Nat.zero_le _, rfl, h⟩
  case round =>
    obtain ⟨k, S, L, hk, hk40, rfl, hB⟩ := hrel
    generalize w1.heap.size = y at *
    have HB := Lib.hid hB
    clear hB HB0
    by_cases hlt : k < n
    · by_cases h40 : k < 40
      · obtain ⟨b, o, x, rfl, hb, hx, hok, hc⟩ := (HA.out.new HB.out.z.bel).at_ hlt
        obtain ⟨d, ⟨k1, n1, s1⟩, ⟨k2, n2, s2⟩, raw⟩ := x
        have z0 := hc 0 (.int .i64 d) rfl
        have z1 := hc 1 (.int .i64 k1) rfl
        have z2 := hc 2 (.int .i64 n1) rfl
        have z3 := hc 3 (.string s1) rfl
        have z4 := hc 4 (.int .i64 k2) rfl
        have z5 := hc 5 (.int .i64 n2) rfl
        have z6 := hc 6 (.string s2) rfl
        have z7 := hc 7 (.bool raw) rfl
        simp only [Nat.add_zero] at z0
        have HOK := Lib.hid hok
        have HFO := Lib.hid (CallD.fit_ok (c := ⟨d, ⟨k1, n1, s1⟩, ⟨k2, n2, s2⟩, raw⟩) HOK.out)
        clear hc hx hok
        go_wp2_with fail
        refine (fitc_any ⟨d, ⟨k1, n1, s1⟩, ⟨k2, n2, s2⟩, raw⟩ HOK.out.2.2 _).mono ?_
        rintro e w2 ⟨rfl, hb2⟩
        have hB2 := HB.out.new hb2
        clear HB hb2 z0 z1 z2 z3 z4 z5 z6 z7 hb
        generalize CallD.fit ⟨d, ⟨k1, n1, s1⟩, ⟨k2, n2, s2⟩, raw⟩ = f at *
        go_wp2_with fail
        refine (does_any hB2 f HFO.out).mono ?_
        rintro e w3 ⟨rfl, hB3, -⟩
        generalize Grew _ _ _ = S3 at hB3
        clear hB2
        go_wp2_with fail
        obtain ⟨T1, T2, hd, hr, -, -, -⟩ := hB3.two
        refine (alike_yes hd hr).mono ?_
        rintro e w4 ⟨rfl, hb4⟩
        have HB4 := Lib.hid (hB3.new hb4)
        clear hB3 hd hr hb4
        go_wp2
        go_roundw
        case rel => exact ⟨k + 1, _, _, by omega, by omega, by go_num, HB4.out⟩
        case measure => simp [intOf]; omega
      · go_wp2
        go_ret
        exact ⟨rfl, HB.out.z.bel⟩
    · go_wp2
      go_ret
      exact ⟨rfl, HB.out.z.bel⟩
end Go.Proofs.Ytfdihmbmlhlkgaa
