/- right: bases, each a lesser number. -/
import Derived.Test.YtbfjkjkanckcjaaPut
import Derived.Test.YtbfjkjkanckcjaaLAll
import Derived.Test.YtbfjkjkanckcjaaOrd
namespace Go.Proofs.Ytbfjkjkanckcjaa
open Go.RowKit Go.Shelf

/-- the first i rows hold lesser numbers alone -/
def RightTo (rows : List (List Int)) (i : Nat) : Prop := ∀ j, j < i → ∀ r, rows[j]? = some r → ∀ b ∈ r, 0 ≤ b ∧ b < (j : Int)
theorem RightTo.set {rows : List (List Int)} {i : Nat} (h : RightTo rows i) (r : List Int) : RightTo (rows.set i r) i := fun j hj r' hr' => by
  rw [List.getElem?_set_ne (by omega)] at hr'
  exact h j hj r' hr'
theorem RightTo.succ {rows : List (List Int)} {i : Nat} (h : RightTo rows i) (hr : ∀ r, rows[i]? = some r → ∀ b ∈ r, 0 ≤ b ∧ b < (i : Int)) : RightTo rows (i + 1) := fun j hj r' hr' => by
  by_cases e : j = i
  · subst e
    exact hr r' hr'
  · exact h j (by omega) r' hr'
/-- the first k of a row are lesser -/
def LessTo (r : List Int) (i k : Nat) : Prop := ∀ q, q < k → ∀ b, r[q]? = some b → 0 ≤ b ∧ b < (i : Int)
theorem LessTo.set {r : List Int} {i k : Nat} (h : LessTo r i k) {p : Nat} (hp : p < i) : LessTo (r.set k (p : Int)) i (k + 1) := fun q hq b hb => by
  rw [List.getElem?_set] at hb
  split at hb
  · split at hb
    · injection hb with hb
      omega
    · cases hb
  · exact h q (by omega) b hb
theorem LessTo.all {r : List Int} {i : Nat} (h : LessTo r i r.length) : ∀ b ∈ r, 0 ≤ b ∧ b < (i : Int) := fun b hb => by
  obtain ⟨q, hq, e⟩ := List.getElem_of_mem hb
  exact h q hq b (by rw [List.getElem?_eq_getElem hq, e])
/-- the state of right -/
structure GSt (w wr : World) (A3 : Option Addr) (N c3 : Nat) (os : List SlI) : Prop where
  r : NewRows 3 40 w wr (.slice A3 N c3) os
  l : os.length = N
  s : ∀ x ∈ os, x.n ≤ 6
theorem GSt.below {w wr w' : World} {A3 : Option Addr} {N c3 : Nat} {os : List SlI} (h : GSt w wr A3 N c3 os) (hb : Below wr.heap.size wr w') : GSt w w' A3 N c3 os := ⟨h.r.below hb, h.l, h.s⟩
theorem GSt.blk {w wr : World} {A3 : Option Addr} {N c3 : Nat} {os : List SlI} (h : GSt w wr A3 N c3 os) (hN : 0 < N) : ∃ b3, A3 = some ⟨b3, 0, none⟩ := by
  rcases h.r.r.own.2 with ⟨e, h0⟩ | ⟨g, _, _, e, _⟩
  · have := h.l
    omega
  · injection e with e1 _ _
    exact ⟨g, e1⟩
/-- one of its rows, as it lies there -/
theorem GSt.at_ {w wr : World} {b3 N c3 : Nat} {os : List SlI} (h : GSt w wr (some ⟨b3, 0, none⟩) N c3 os) {i : Nat} (hi : i < N) : ∃ Ai ni ci xi, os[i]? = some ⟨Ai, ni, ci, xi⟩ ∧ wr.cell? ⟨b3, i, none⟩ = some (.slice Ai ni ci) ∧ RdI wr Ai ni ci xi ∧ ni ≤ 6 ∧ (0 < ni → ∃ bi, Ai = some ⟨bi, 0, none⟩) := by
  have hx : i < os.length := by rw [h.l]; exact hi
  obtain ⟨_, _, _, e, hr, _⟩ := OwnR.rd h.r.r.own
  cases e
  obtain ⟨b, o, e, _, hc⟩ := hr.at_ hi
  cases e
  rw [Nat.zero_add] at hc
  refine ⟨os[i].A, os[i].n, os[i].c, os[i].xs, List.getElem?_eq_getElem hx, hc, h.r.i.ok os[i] (List.getElem_mem hx), h.s _ (List.getElem_mem hx), fun hn => ?_⟩
  have ho := h.r.i os[i] (List.getElem_mem hx)
  rcases ho.2 with ⟨e, _⟩ | ⟨g, _, _, e, _⟩
  · unfold SlI.v at e
    injection e with e1 e2 e3
    omega
  · unfold SlI.v at e
    injection e with e1 e2 e3
    exact ⟨g, e1⟩
theorem set_mem {α : Type} {l : List α} {i : Nat} {x y : α} (h : y ∈ l.set i x) : y ∈ l ∨ y = x := by
  rcases List.mem_or_eq_of_mem_set h with h | h
  · exact .inl h
  · exact .inr h
theorem GSt.num {w wr : World} {b3 N c3 : Nat} {os : List SlI} (h : GSt w wr (some ⟨b3, 0, none⟩) N c3 os) {i : Nat} {bi ni ci : Nat} {xi : List Int} (hi : os[i]? = some ⟨some ⟨bi, 0, none⟩, ni, ci, xi⟩) {k : Nat} (hk : k < ni) (x : Int) :
    wr.frozen? ⟨bi, k, none⟩ = false ∧ GSt w (wr.setCell ⟨bi, k, none⟩ (.int .i64 x)) (some ⟨b3, 0, none⟩) N c3 (os.set i ⟨some ⟨bi, 0, none⟩, ni, ci, xi.set k x⟩) := by
  obtain ⟨hx, e⟩ := List.getElem?_eq_some_iff.1 hi
  have hok := h.r.i.ok os[i] (List.getElem_mem hx)
  rw [e] at hok
  have hln : xi.length = ni := hok.1
  obtain ⟨h1, h2⟩ := h.r.num (by decide) hx e hk hln x
  refine ⟨h1, h2, by rw [List.length_set]; exact h.l, fun s hs => ?_⟩
  rcases set_mem hs with hs | rfl
  · exact h.s s hs
  · have := h.s os[i] (List.getElem_mem hx)
    rw [e] at this
    exact this
theorem GSt.none {w wr : World} {b3 N c3 : Nat} {os : List SlI} (h : GSt w wr (some ⟨b3, 0, none⟩) N c3 os) {i : Nat} (hi : i < N) : wr.frozen? ⟨b3, i, none⟩ = false ∧ GSt w (wr.setCell ⟨b3, i, none⟩ (.slice none 0 0)) (some ⟨b3, 0, none⟩) N c3 (os.set i .none_) := by
  have hx : i < os.length := by rw [h.l]; exact hi
  obtain ⟨h1, h2⟩ := h.r.row (by decide) hx h.l .none_ (Own.nil_ wr 3 1) (World.grownBy.refl wr _) (fun b e => by cases e)
  refine ⟨h1, h2, by rw [List.length_set]; exact h.l, fun s hs => ?_⟩
  rcases set_mem hs with hs | rfl
  · exact h.s s hs
  · exact Nat.zero_le _

set_option maxRecDepth 100000 in
set_option maxHeartbeats 8000000 in
theorem right_any (A : Option Addr) (n c : Nat) (rs : List SlI) (w : World) (hR : RdR w A n c rs) (hok : AllOk w rs) :
    Calls Try.prog 27 #[.slice A n c] w fun e w' => ∃ A3 N c3 os, e = .returned (.slice A3 N c3) ∧ GSt w w' A3 N c3 os ∧ N ≤ 20 ∧ RightTo (nums os) N := by
  have HC := Lib.hid (few_any A n c rs w hR hok)
  clear hR hok
  go_enter Try.func27, Try.ntmps27
  go_wp2_with fail
  (with_reducible refine HC.out.mono ?_)
  rintro e w1 ⟨v1, o1, rfl, hn1, hu1⟩
  obtain ⟨A3, c3, rfl, hr1, _⟩ := OwnR.rdL hn1.r.own
  have hg0 : GSt w w1 A3 o1.length c3 o1 := ⟨hn1, rfl, rows_short hu1 hn1.i.ok fun r hr => cutTo_row hr⟩
  have hN : o1.length ≤ 20 := by rw [← nums_length, hu1]; exact cutTo_length 6 _ 20
  have HG0 := Lib.hid hg0
  clear hn1 hu1 hr1 hg0
  generalize hNN : o1.length = N at *
  clear hNN
  go_wp2_with fail
  go_loopw [4] (fun j wr => ∃ (i : Nat) (os : List SlI), i ≤ N ∧ j = .int .i64 i ∧ GSt w wr A3 N c3 os ∧ Hid (RightTo (nums os) i)) (fun j _ => N - (intOf j).toNat)
  case atStart => exact ⟨0, o1, Nat.zero_le _, rfl, HG0.out, fun j hj => by omega⟩
  case round =>
    obtain ⟨i, os, hi, rfl, hg, hrt⟩ := hrel
    by_cases hlt : i < N
    · obtain ⟨b3, rfl⟩ := hg.blk (by omega)
      by_cases h0 : i = 0
      · have hb0 : ((i : Int) == 0) = true := by simp [h0]
        obtain ⟨f3, hg2⟩ := hg.none hlt
        obtain ⟨_, _, _, _, _, q3, _, _, _⟩ := hg.at_ hlt
        have hrow : (os.set i .none_)[i]? = some ⟨none, 0, 0, []⟩ := by
          rw [List.getElem?_set_self (by rw [hg.l]; exact hlt)]
          rfl
        have hrt2 : RightTo (nums (os.set i .none_)) i := by
          rw [nums_set]
          exact hrt.out.set _
        have hni : 0 ≤ 6 := by omega
        have HZ := Lib.hid (show i = 0 → (0 : Nat) = 0 from fun _ => rfl)
        have HG2 := Lib.hid hg2
        have HROW := Lib.hid hrow
        have HRT2 := Lib.hid hrt2
        clear hg hg2 hrow hrt2 h0
        go_wp2_with fail
        clear f3 q3
        generalize wr.setCell ⟨b3, i, none⟩ (.slice none 0 0) = W' at *
        have hmx : ∃ m : Nat, 0 < m ∧ (m = i ∨ i = 0) ∧ (if (i : Int) < (1 : Int) then (1 : Int) else (i : Int)) = (m : Int) := by
          by_cases h : i = 0
          · exact ⟨1, by omega, .inr h, if_pos (by omega)⟩
          · exact ⟨i, by omega, .inl rfl, if_neg (by omega)⟩
        obtain ⟨m, hm0, hmi, himx⟩ := hmx
        have HIMX := Lib.hid himx
        clear himx
        obtain ⟨wo, rfl⟩ : ∃ wo : World, wo = W' := ⟨_, rfl⟩
        go_loopw [5] (fun j wr => ∃ (k : Nat) (os : List SlI) (Ai : Option Addr) (ni ci : Nat) (xi : List Int), k ≤ ni ∧ ni ≤ 6 ∧ j = .int .i64 k ∧ GSt w wr (some ⟨b3, 0, none⟩) N c3 os ∧ Hid (RightTo (nums os) i) ∧ Hid (os[i]? = some ⟨Ai, ni, ci, xi⟩) ∧ Hid (LessTo xi i k) ∧ Hid (i = 0 → ni = 0)) (fun j _ => 7 - (intOf j).toNat)
        case atStart => exact ⟨0, _, _, _, _, _, Nat.zero_le _, hni, rfl, HG2.out, HRT2.out, HROW.out, fun q hq => by omega, by first | exact HZ.out | exact fun _ => rfl⟩
        case round =>
          obtain ⟨k, os, Ai, ni, ci, xi, hk, hni6, rfl, hg, hrt, hrow, hless, hz⟩ := hrel
          obtain ⟨_, _, _, _, e, g3, gx, _, hblk⟩ := hg.at_ hlt
          rw [hrow.out] at e
          have e' := Option.some.inj e
          injection e' with e1 e2 e3 e4
          subst e1 e2 e3 e4
          have hlx := gx.1
          have hnc := gx.2.1
          have hc9 := gx.2.2.1
          by_cases hltk : k < ni
          · obtain ⟨bi, rfl⟩ := hblk (by omega)
            obtain ⟨_, _, e, _, gk⟩ := gx.at_ hltk
            cases e
            rw [Nat.zero_add] at gk
            have hmi' : i = m := by
              rcases hmi with h | h
              · exact h.symm
              · have := hz.out h
                omega
            subst hmi'
            generalize xi[k]'_ = x at *
            obtain ⟨a, ha, hxa⟩ : ∃ a : Nat, a ≤ 65535 ∧ bits BinOp.and IntKind.i64 x 65535 = (a : Int) := and_small x 65535 (by decide)
            obtain ⟨p, hp, hap⟩ : ∃ p : Nat, p < i ∧ (a : Int).tmod (i : Int) = (p : Int) := ⟨a % i, Nat.mod_lt a hm0, by rw [Int.tmod_eq_emod_of_nonneg (by omega), Int.natCast_emod]⟩
            have hput := (hg.below ((Below.refl _ _).drew)).num hrow.out hltk (p : Int)
            have hfz := hput.1
            have hnew := hput.2
            have hrow2 : (os.set i ⟨some ⟨bi, 0, none⟩, ni, ci, xi.set k (p : Int)⟩)[i]? = some ⟨some ⟨bi, 0, none⟩, ni, ci, xi.set k (p : Int)⟩ := by
              rw [List.getElem?_set_self (by rw [hg.l]; exact hlt)]
            have hrt2 : RightTo (nums (os.set i ⟨some ⟨bi, 0, none⟩, ni, ci, xi.set k (p : Int)⟩)) i := by
              rw [nums_set]
              exact hrt.out.set _
            have hless2 : LessTo (xi.set k (p : Int)) i (k + 1) := hless.out.set (by omega)
            have hSD : (fun w' : World => w'.cell? ⟨b3, i, none⟩ = some (.slice (some ⟨bi, 0, none⟩) ni ci) ∧ w'.cell? ⟨bi, k, none⟩ = some (.int .i64 x)) wr.drew := ⟨g3, gk⟩
            have HSD := Lib.hid hSD
            have HNEW := Lib.hid hnew
            have HROW2 := Lib.hid hrow2
            have HRT2' := Lib.hid hrt2
            have HLESS2 := Lib.hid hless2
            have i0 : (0 : Int) ≤ (k : Int) := by omega
            have i1 : (k : Int) < (ni : Int) := by omega
            have i2 : (0 : Int) ≤ (i : Int) := by omega
            have i3 : (i : Int) < (N : Int) := by omega
            have hmz : (i : Int) ≠ 0 := by omega
            have hmz2 : i ≠ 0 := by omega
            clear hput hnew hrow2 hrt2 hless2 hSD hg gx hblk e
            have himx := HIMX.out
            go_wp2_with fail
            refine wp_region_noPanic ?_
            refine AnyBut.start (S := fun w' => w'.cell? ⟨b3, i, none⟩ = some (.slice (some ⟨bi, 0, none⟩) ni ci) ∧ w'.cell? ⟨bi, k, none⟩ = some (.int .i64 x)) 17 (by kernel_rfl) HSD.out (fun hHeld => ?_)
            generalize wr.drew = Wd at *
            refine AnyBut.take (i := 0) (v := ?_) (by rw [List.getElem?_toArray]; rfl) (by kernel_rfl) (by kernel_rfl) (by kernel_rfl) (by kernel_rfl) (fun _ _ _ h => h) (Or.inl ⟨by rfl, ?_⟩) (by assumption) ?_
            rotate_left 1
            · (intro w_ hSw; (try dsimp only at hSw); go_simp; try with_reducible rfl)
            try simp only [Act.put, List.setIfInBounds_toArray, List.set_cons_zero, List.set_cons_succ]
            refine AnyBut.take (i := 1) (v := ?_) (by rw [List.getElem?_toArray]; rfl) (by kernel_rfl) (by kernel_rfl) (by kernel_rfl) (by kernel_rfl) (fun _ _ _ h => h) (Or.inl ⟨by rfl, ?_⟩) (by assumption) ?_
            rotate_left 1
            · (intro w_ hSw; (try dsimp only at hSw); go_simp; try with_reducible rfl)
            try simp only [Act.put, List.setIfInBounds_toArray, List.set_cons_zero, List.set_cons_succ]
            refine AnyBut.take (i := 2) (v := ?_) (by rw [List.getElem?_toArray]; rfl) (by kernel_rfl) (by kernel_rfl) (by kernel_rfl) (by kernel_rfl) (fun _ _ _ h => h) (Or.inl ⟨by rfl, ?_⟩) (by assumption) ?_
            rotate_left 1
            · (intro w_ hSw; (try dsimp only at hSw); go_simp; try with_reducible rfl)
            try simp only [Act.put, List.setIfInBounds_toArray, List.set_cons_zero, List.set_cons_succ]
            refine AnyBut.take (i := 3) (v := ?_) (by rw [List.getElem?_toArray]; rfl) (by kernel_rfl) (by kernel_rfl) (by kernel_rfl) (by kernel_rfl) (fun _ _ _ h => h) (Or.inl ⟨by rfl, ?_⟩) (by assumption) ?_
            rotate_left 1
            · (intro w_ hSw; (try dsimp only at hSw); go_simp; try with_reducible rfl)
            try simp only [Act.put, List.setIfInBounds_toArray, List.set_cons_zero, List.set_cons_succ]
            refine AnyBut.take (i := 4) (v := ?_) (by rw [List.getElem?_toArray]; rfl) (by kernel_rfl) (by kernel_rfl) (by kernel_rfl) (by kernel_rfl) (fun _ _ _ h => h) (Or.inl ⟨by rfl, ?_⟩) (by assumption) ?_
            rotate_left 1
            · (intro w_ hSw; (try dsimp only at hSw); go_simp; try with_reducible rfl)
            try simp only [Act.put, List.setIfInBounds_toArray, List.set_cons_zero, List.set_cons_succ]
            refine AnyBut.take (i := 5) (v := ?_) (by rw [List.getElem?_toArray]; rfl) (by kernel_rfl) (by kernel_rfl) (by kernel_rfl) (by kernel_rfl) (fun _ _ _ h => h) (Or.inl ⟨by rfl, ?_⟩) (by assumption) ?_
            rotate_left 1
            · (intro w_ hSw; (try dsimp only at hSw); go_simp; try with_reducible rfl)
            try simp only [Act.put, List.setIfInBounds_toArray, List.set_cons_zero, List.set_cons_succ]
            refine AnyBut.take (i := 6) (v := ?_) (by rw [List.getElem?_toArray]; rfl) (by kernel_rfl) (by kernel_rfl) (by kernel_rfl) (by kernel_rfl) (fun _ _ _ h => h) (Or.inl ⟨by rfl, ?_⟩) (by assumption) ?_
            rotate_left 1
            · (intro w_ hSw; (try dsimp only at hSw); go_simp; try with_reducible rfl)
            try simp only [Act.put, List.setIfInBounds_toArray, List.set_cons_zero, List.set_cons_succ]
            refine AnyBut.take (i := 7) (v := ?_) (by rw [List.getElem?_toArray]; rfl) (by kernel_rfl) (by kernel_rfl) (by kernel_rfl) (by kernel_rfl) (fun _ _ _ h => h) (Or.inl ⟨by rfl, ?_⟩) (by assumption) ?_
            rotate_left 1
            · (intro w_ hSw; (try dsimp only at hSw); go_simp; try with_reducible rfl)
            try simp only [Act.put, List.setIfInBounds_toArray, List.set_cons_zero, List.set_cons_succ]
            refine AnyBut.take (i := 8) (v := ?_) (by rw [List.getElem?_toArray]; rfl) (by kernel_rfl) (by kernel_rfl) (by kernel_rfl) (by kernel_rfl) (fun _ _ _ h => h) (Or.inl ⟨by rfl, ?_⟩) (by assumption) ?_
            rotate_left 1
            · (intro w_ hSw; (try dsimp only at hSw); go_simp; try with_reducible rfl)
            try simp only [Act.put, List.setIfInBounds_toArray, List.set_cons_zero, List.set_cons_succ]
            refine AnyBut.take (i := 9) (v := ?_) (by rw [List.getElem?_toArray]; rfl) (by kernel_rfl) (by kernel_rfl) (by kernel_rfl) (by kernel_rfl) (fun _ _ _ h => h) (Or.inl ⟨by rfl, ?_⟩) (by assumption) ?_
            rotate_left 1
            · (intro w_ hSw; (try dsimp only at hSw); go_simp; try with_reducible rfl)
            try simp only [Act.put, List.setIfInBounds_toArray, List.set_cons_zero, List.set_cons_succ]
            refine AnyBut.take (i := 10) (v := ?_) (by rw [List.getElem?_toArray]; rfl) (by kernel_rfl) (by kernel_rfl) (by kernel_rfl) (by kernel_rfl) (fun _ _ _ h => h) (Or.inl ⟨by rfl, ?_⟩) (by assumption) ?_
            rotate_left 1
            · (intro w_ hSw; (try dsimp only at hSw); go_simp; try with_reducible rfl)
            try simp only [Act.put, List.setIfInBounds_toArray, List.set_cons_zero, List.set_cons_succ]
            refine AnyBut.take (i := 11) (v := ?_) (by rw [List.getElem?_toArray]; rfl) (by kernel_rfl) (by kernel_rfl) (by kernel_rfl) (by kernel_rfl) (fun _ _ _ h => h) (Or.inl ⟨by rfl, ?_⟩) (by assumption) ?_
            rotate_left 1
            · (intro w_ hSw; (try dsimp only at hSw); go_simp; try with_reducible rfl)
            try simp only [Act.put, List.setIfInBounds_toArray, List.set_cons_zero, List.set_cons_succ]
            refine AnyBut.take (i := 12) (v := ?_) (by rw [List.getElem?_toArray]; rfl) (by kernel_rfl) (by kernel_rfl) (by kernel_rfl) (by kernel_rfl) (fun _ _ _ h => h) (Or.inl ⟨by rfl, ?_⟩) (by assumption) ?_
            rotate_left 1
            · (intro w_ hSw; (try dsimp only at hSw); go_simp; try with_reducible rfl)
            try simp only [Act.put, List.setIfInBounds_toArray, List.set_cons_zero, List.set_cons_succ]
            refine AnyBut.take (i := 13) (v := ?_) (by rw [List.getElem?_toArray]; rfl) (by kernel_rfl) (by kernel_rfl) (by kernel_rfl) (by kernel_rfl) (fun _ _ _ h => h) (Or.inl ⟨by rfl, ?_⟩) (by assumption) ?_
            rotate_left 1
            · (intro w_ hSw; (try dsimp only at hSw); go_simp; try with_reducible rfl)
            try simp only [Act.put, List.setIfInBounds_toArray, List.set_cons_zero, List.set_cons_succ]
            refine AnyBut.take (i := 14) (v := ?_) (by rw [List.getElem?_toArray]; rfl) (by kernel_rfl) (by kernel_rfl) (by kernel_rfl) (by kernel_rfl) (fun _ _ _ h => h) (Or.inl ⟨by rfl, ?_⟩) (by assumption) ?_
            rotate_left 1
            · (intro w_ hSw; (try dsimp only at hSw); go_simp; try with_reducible rfl)
            try simp only [Act.put, List.setIfInBounds_toArray, List.set_cons_zero, List.set_cons_succ]
            refine AnyBut.take (i := 15) (v := ?_) (by rw [List.getElem?_toArray]; rfl) (by kernel_rfl) (by kernel_rfl) (by kernel_rfl) (by kernel_rfl) (fun _ _ _ h => h) (Or.inl ⟨by rfl, ?_⟩) (by assumption) ?_
            rotate_left 1
            · (intro w_ hSw; (try dsimp only at hSw); go_simp; try with_reducible rfl)
            try simp only [Act.put, List.setIfInBounds_toArray, List.set_cons_zero, List.set_cons_succ]
            refine AnyBut.take (i := 16) (v := ?_) (by rw [List.getElem?_toArray]; rfl) (by kernel_rfl) (by kernel_rfl) (by kernel_rfl) (by kernel_rfl) (fun _ _ _ h => h) (Or.inl ⟨by rfl, ?_⟩) (by assumption) ?_
            rotate_left 1
            · (intro w_ hSw; (try dsimp only at hSw); go_simp; try with_reducible rfl)
            try simp only [Act.put, List.setIfInBounds_toArray, List.set_cons_zero, List.set_cons_succ]
            refine AnyBut.ready (rs := [17]) (by kernel_rfl) (by simp) ?_
            refine ReadyBut.last (by rw [List.getElem?_toArray]; rfl) (fun K hK => ?_)
            go_simp
            refine hK.out _ _ ?_
            clear hK K
            try simp only [Act.put, List.setIfInBounds_toArray, List.set_cons_zero, List.set_cons_succ]
            refine AnyBut.done (by kernel_rfl) ?_ _
            refine NoPanic.normal ?_
            clear himx hxa hap
            go_wp2_with fail
            go_roundw
            case rel => exact ⟨k + 1, _, _, ni, ci, _, by omega, hni6, by go_num, HNEW.out, HRT2'.out, HROW2.out, HLESS2.out, hz.out⟩
            case measure => simp [intOf]; omega
          · obtain rfl : k = ni := by omega
            have hrs : RightTo (nums os) (i + 1) := hrt.out.succ fun r hr => by
              have h : (nums os)[i]? = some xi := by
                simp only [nums, List.getElem?_map, hrow.out, Option.map_some]
              rw [h] at hr
              obtain rfl := Option.some.inj hr
              exact LessTo.all (by rw [hlx]; exact hless.out)
            have HRS := Lib.hid hrs
            have HG := Lib.hid hg
            clear hrs hg gx hblk e
            go_wp2_with fail
            go_roundw
            case rel => exact ⟨i + 1, os, by omega, by go_num, HG.out, HRS.out⟩
            case measure => simp [intOf]; omega
      · have hb0 : ((i : Int) == 0) = false := by simp [h0]
        obtain ⟨Ai, ni, ci, xi, hrow, _, _, hni, _⟩ := hg.at_ hlt
        have HZ := Lib.hid (show i = 0 → ni = 0 from fun h => absurd h h0)
        have HG2 := Lib.hid hg
        have HROW := Lib.hid hrow
        have HRT2 := Lib.hid hrt.out
        clear hg hrow h0
        obtain ⟨W', rfl⟩ : ∃ W' : World, W' = wr := ⟨_, rfl⟩
        go_wp2_with fail
        have hmx : ∃ m : Nat, 0 < m ∧ (m = i ∨ i = 0) ∧ (if (i : Int) < (1 : Int) then (1 : Int) else (i : Int)) = (m : Int) := by
          by_cases h : i = 0
          · exact ⟨1, by omega, .inr h, if_pos (by omega)⟩
          · exact ⟨i, by omega, .inl rfl, if_neg (by omega)⟩
        obtain ⟨m, hm0, hmi, himx⟩ := hmx
        have HIMX := Lib.hid himx
        clear himx
        obtain ⟨wo, rfl⟩ : ∃ wo : World, wo = W' := ⟨_, rfl⟩
        go_loopw [5] (fun j wr => ∃ (k : Nat) (os : List SlI) (Ai : Option Addr) (ni ci : Nat) (xi : List Int), k ≤ ni ∧ ni ≤ 6 ∧ j = .int .i64 k ∧ GSt w wr (some ⟨b3, 0, none⟩) N c3 os ∧ Hid (RightTo (nums os) i) ∧ Hid (os[i]? = some ⟨Ai, ni, ci, xi⟩) ∧ Hid (LessTo xi i k) ∧ Hid (i = 0 → ni = 0)) (fun j _ => 7 - (intOf j).toNat)
        case atStart => exact ⟨0, _, _, _, _, _, Nat.zero_le _, hni, rfl, HG2.out, HRT2.out, HROW.out, fun q hq => by omega, by first | exact HZ.out | exact fun _ => rfl⟩
        case round =>
          obtain ⟨k, os, Ai, ni, ci, xi, hk, hni6, rfl, hg, hrt, hrow, hless, hz⟩ := hrel
          obtain ⟨_, _, _, _, e, g3, gx, _, hblk⟩ := hg.at_ hlt
          rw [hrow.out] at e
          have e' := Option.some.inj e
          injection e' with e1 e2 e3 e4
          subst e1 e2 e3 e4
          have hlx := gx.1
          have hnc := gx.2.1
          have hc9 := gx.2.2.1
          by_cases hltk : k < ni
          · obtain ⟨bi, rfl⟩ := hblk (by omega)
            obtain ⟨_, _, e, _, gk⟩ := gx.at_ hltk
            cases e
            rw [Nat.zero_add] at gk
            have hmi' : i = m := by
              rcases hmi with h | h
              · exact h.symm
              · have := hz.out h
                omega
            subst hmi'
            generalize xi[k]'_ = x at *
            obtain ⟨a, ha, hxa⟩ : ∃ a : Nat, a ≤ 65535 ∧ bits BinOp.and IntKind.i64 x 65535 = (a : Int) := and_small x 65535 (by decide)
            obtain ⟨p, hp, hap⟩ : ∃ p : Nat, p < i ∧ (a : Int).tmod (i : Int) = (p : Int) := ⟨a % i, Nat.mod_lt a hm0, by rw [Int.tmod_eq_emod_of_nonneg (by omega), Int.natCast_emod]⟩
            have hput := (hg.below ((Below.refl _ _).drew)).num hrow.out hltk (p : Int)
            have hfz := hput.1
            have hnew := hput.2
            have hrow2 : (os.set i ⟨some ⟨bi, 0, none⟩, ni, ci, xi.set k (p : Int)⟩)[i]? = some ⟨some ⟨bi, 0, none⟩, ni, ci, xi.set k (p : Int)⟩ := by
              rw [List.getElem?_set_self (by rw [hg.l]; exact hlt)]
            have hrt2 : RightTo (nums (os.set i ⟨some ⟨bi, 0, none⟩, ni, ci, xi.set k (p : Int)⟩)) i := by
              rw [nums_set]
              exact hrt.out.set _
            have hless2 : LessTo (xi.set k (p : Int)) i (k + 1) := hless.out.set (by omega)
            have hSD : (fun w' : World => w'.cell? ⟨b3, i, none⟩ = some (.slice (some ⟨bi, 0, none⟩) ni ci) ∧ w'.cell? ⟨bi, k, none⟩ = some (.int .i64 x)) wr.drew := ⟨g3, gk⟩
            have HSD := Lib.hid hSD
            have HNEW := Lib.hid hnew
            have HROW2 := Lib.hid hrow2
            have HRT2' := Lib.hid hrt2
            have HLESS2 := Lib.hid hless2
            have i0 : (0 : Int) ≤ (k : Int) := by omega
            have i1 : (k : Int) < (ni : Int) := by omega
            have i2 : (0 : Int) ≤ (i : Int) := by omega
            have i3 : (i : Int) < (N : Int) := by omega
            have hmz : (i : Int) ≠ 0 := by omega
            have hmz2 : i ≠ 0 := by omega
            clear hput hnew hrow2 hrt2 hless2 hSD hg gx hblk e
            have himx := HIMX.out
            go_wp2_with fail
            refine wp_region_noPanic ?_
            refine AnyBut.start (S := fun w' => w'.cell? ⟨b3, i, none⟩ = some (.slice (some ⟨bi, 0, none⟩) ni ci) ∧ w'.cell? ⟨bi, k, none⟩ = some (.int .i64 x)) 17 (by kernel_rfl) HSD.out (fun hHeld => ?_)
            generalize wr.drew = Wd at *
            refine AnyBut.take (i := 0) (v := ?_) (by rw [List.getElem?_toArray]; rfl) (by kernel_rfl) (by kernel_rfl) (by kernel_rfl) (by kernel_rfl) (fun _ _ _ h => h) (Or.inl ⟨by rfl, ?_⟩) (by assumption) ?_
            rotate_left 1
            · (intro w_ hSw; (try dsimp only at hSw); go_simp; try with_reducible rfl)
            try simp only [Act.put, List.setIfInBounds_toArray, List.set_cons_zero, List.set_cons_succ]
            refine AnyBut.take (i := 1) (v := ?_) (by rw [List.getElem?_toArray]; rfl) (by kernel_rfl) (by kernel_rfl) (by kernel_rfl) (by kernel_rfl) (fun _ _ _ h => h) (Or.inl ⟨by rfl, ?_⟩) (by assumption) ?_
            rotate_left 1
            · (intro w_ hSw; (try dsimp only at hSw); go_simp; try with_reducible rfl)
            try simp only [Act.put, List.setIfInBounds_toArray, List.set_cons_zero, List.set_cons_succ]
            refine AnyBut.take (i := 2) (v := ?_) (by rw [List.getElem?_toArray]; rfl) (by kernel_rfl) (by kernel_rfl) (by kernel_rfl) (by kernel_rfl) (fun _ _ _ h => h) (Or.inl ⟨by rfl, ?_⟩) (by assumption) ?_
            rotate_left 1
            · (intro w_ hSw; (try dsimp only at hSw); go_simp; try with_reducible rfl)
            try simp only [Act.put, List.setIfInBounds_toArray, List.set_cons_zero, List.set_cons_succ]
            refine AnyBut.take (i := 3) (v := ?_) (by rw [List.getElem?_toArray]; rfl) (by kernel_rfl) (by kernel_rfl) (by kernel_rfl) (by kernel_rfl) (fun _ _ _ h => h) (Or.inl ⟨by rfl, ?_⟩) (by assumption) ?_
            rotate_left 1
            · (intro w_ hSw; (try dsimp only at hSw); go_simp; try with_reducible rfl)
            try simp only [Act.put, List.setIfInBounds_toArray, List.set_cons_zero, List.set_cons_succ]
            refine AnyBut.take (i := 4) (v := ?_) (by rw [List.getElem?_toArray]; rfl) (by kernel_rfl) (by kernel_rfl) (by kernel_rfl) (by kernel_rfl) (fun _ _ _ h => h) (Or.inl ⟨by rfl, ?_⟩) (by assumption) ?_
            rotate_left 1
            · (intro w_ hSw; (try dsimp only at hSw); go_simp; try with_reducible rfl)
            try simp only [Act.put, List.setIfInBounds_toArray, List.set_cons_zero, List.set_cons_succ]
            refine AnyBut.take (i := 5) (v := ?_) (by rw [List.getElem?_toArray]; rfl) (by kernel_rfl) (by kernel_rfl) (by kernel_rfl) (by kernel_rfl) (fun _ _ _ h => h) (Or.inl ⟨by rfl, ?_⟩) (by assumption) ?_
            rotate_left 1
            · (intro w_ hSw; (try dsimp only at hSw); go_simp; try with_reducible rfl)
            try simp only [Act.put, List.setIfInBounds_toArray, List.set_cons_zero, List.set_cons_succ]
            refine AnyBut.take (i := 6) (v := ?_) (by rw [List.getElem?_toArray]; rfl) (by kernel_rfl) (by kernel_rfl) (by kernel_rfl) (by kernel_rfl) (fun _ _ _ h => h) (Or.inl ⟨by rfl, ?_⟩) (by assumption) ?_
            rotate_left 1
            · (intro w_ hSw; (try dsimp only at hSw); go_simp; try with_reducible rfl)
            try simp only [Act.put, List.setIfInBounds_toArray, List.set_cons_zero, List.set_cons_succ]
            refine AnyBut.take (i := 7) (v := ?_) (by rw [List.getElem?_toArray]; rfl) (by kernel_rfl) (by kernel_rfl) (by kernel_rfl) (by kernel_rfl) (fun _ _ _ h => h) (Or.inl ⟨by rfl, ?_⟩) (by assumption) ?_
            rotate_left 1
            · (intro w_ hSw; (try dsimp only at hSw); go_simp; try with_reducible rfl)
            try simp only [Act.put, List.setIfInBounds_toArray, List.set_cons_zero, List.set_cons_succ]
            refine AnyBut.take (i := 8) (v := ?_) (by rw [List.getElem?_toArray]; rfl) (by kernel_rfl) (by kernel_rfl) (by kernel_rfl) (by kernel_rfl) (fun _ _ _ h => h) (Or.inl ⟨by rfl, ?_⟩) (by assumption) ?_
            rotate_left 1
            · (intro w_ hSw; (try dsimp only at hSw); go_simp; try with_reducible rfl)
            try simp only [Act.put, List.setIfInBounds_toArray, List.set_cons_zero, List.set_cons_succ]
            refine AnyBut.take (i := 9) (v := ?_) (by rw [List.getElem?_toArray]; rfl) (by kernel_rfl) (by kernel_rfl) (by kernel_rfl) (by kernel_rfl) (fun _ _ _ h => h) (Or.inl ⟨by rfl, ?_⟩) (by assumption) ?_
            rotate_left 1
            · (intro w_ hSw; (try dsimp only at hSw); go_simp; try with_reducible rfl)
            try simp only [Act.put, List.setIfInBounds_toArray, List.set_cons_zero, List.set_cons_succ]
            refine AnyBut.take (i := 10) (v := ?_) (by rw [List.getElem?_toArray]; rfl) (by kernel_rfl) (by kernel_rfl) (by kernel_rfl) (by kernel_rfl) (fun _ _ _ h => h) (Or.inl ⟨by rfl, ?_⟩) (by assumption) ?_
            rotate_left 1
            · (intro w_ hSw; (try dsimp only at hSw); go_simp; try with_reducible rfl)
            try simp only [Act.put, List.setIfInBounds_toArray, List.set_cons_zero, List.set_cons_succ]
            refine AnyBut.take (i := 11) (v := ?_) (by rw [List.getElem?_toArray]; rfl) (by kernel_rfl) (by kernel_rfl) (by kernel_rfl) (by kernel_rfl) (fun _ _ _ h => h) (Or.inl ⟨by rfl, ?_⟩) (by assumption) ?_
            rotate_left 1
            · (intro w_ hSw; (try dsimp only at hSw); go_simp; try with_reducible rfl)
            try simp only [Act.put, List.setIfInBounds_toArray, List.set_cons_zero, List.set_cons_succ]
            refine AnyBut.take (i := 12) (v := ?_) (by rw [List.getElem?_toArray]; rfl) (by kernel_rfl) (by kernel_rfl) (by kernel_rfl) (by kernel_rfl) (fun _ _ _ h => h) (Or.inl ⟨by rfl, ?_⟩) (by assumption) ?_
            rotate_left 1
            · (intro w_ hSw; (try dsimp only at hSw); go_simp; try with_reducible rfl)
            try simp only [Act.put, List.setIfInBounds_toArray, List.set_cons_zero, List.set_cons_succ]
            refine AnyBut.take (i := 13) (v := ?_) (by rw [List.getElem?_toArray]; rfl) (by kernel_rfl) (by kernel_rfl) (by kernel_rfl) (by kernel_rfl) (fun _ _ _ h => h) (Or.inl ⟨by rfl, ?_⟩) (by assumption) ?_
            rotate_left 1
            · (intro w_ hSw; (try dsimp only at hSw); go_simp; try with_reducible rfl)
            try simp only [Act.put, List.setIfInBounds_toArray, List.set_cons_zero, List.set_cons_succ]
            refine AnyBut.take (i := 14) (v := ?_) (by rw [List.getElem?_toArray]; rfl) (by kernel_rfl) (by kernel_rfl) (by kernel_rfl) (by kernel_rfl) (fun _ _ _ h => h) (Or.inl ⟨by rfl, ?_⟩) (by assumption) ?_
            rotate_left 1
            · (intro w_ hSw; (try dsimp only at hSw); go_simp; try with_reducible rfl)
            try simp only [Act.put, List.setIfInBounds_toArray, List.set_cons_zero, List.set_cons_succ]
            refine AnyBut.take (i := 15) (v := ?_) (by rw [List.getElem?_toArray]; rfl) (by kernel_rfl) (by kernel_rfl) (by kernel_rfl) (by kernel_rfl) (fun _ _ _ h => h) (Or.inl ⟨by rfl, ?_⟩) (by assumption) ?_
            rotate_left 1
            · (intro w_ hSw; (try dsimp only at hSw); go_simp; try with_reducible rfl)
            try simp only [Act.put, List.setIfInBounds_toArray, List.set_cons_zero, List.set_cons_succ]
            refine AnyBut.take (i := 16) (v := ?_) (by rw [List.getElem?_toArray]; rfl) (by kernel_rfl) (by kernel_rfl) (by kernel_rfl) (by kernel_rfl) (fun _ _ _ h => h) (Or.inl ⟨by rfl, ?_⟩) (by assumption) ?_
            rotate_left 1
            · (intro w_ hSw; (try dsimp only at hSw); go_simp; try with_reducible rfl)
            try simp only [Act.put, List.setIfInBounds_toArray, List.set_cons_zero, List.set_cons_succ]
            refine AnyBut.ready (rs := [17]) (by kernel_rfl) (by simp) ?_
            refine ReadyBut.last (by rw [List.getElem?_toArray]; rfl) (fun K hK => ?_)
            go_simp
            refine hK.out _ _ ?_
            clear hK K
            try simp only [Act.put, List.setIfInBounds_toArray, List.set_cons_zero, List.set_cons_succ]
            refine AnyBut.done (by kernel_rfl) ?_ _
            refine NoPanic.normal ?_
            clear himx hxa hap
            go_wp2_with fail
            go_roundw
            case rel => exact ⟨k + 1, _, _, ni, ci, _, by omega, hni6, by go_num, HNEW.out, HRT2'.out, HROW2.out, HLESS2.out, hz.out⟩
            case measure => simp [intOf]; omega
          · obtain rfl : k = ni := by omega
            have hrs : RightTo (nums os) (i + 1) := hrt.out.succ fun r hr => by
              have h : (nums os)[i]? = some xi := by
                simp only [nums, List.getElem?_map, hrow.out, Option.map_some]
              rw [h] at hr
              obtain rfl := Option.some.inj hr
              exact LessTo.all (by rw [hlx]; exact hless.out)
            have HRS := Lib.hid hrs
            have HG := Lib.hid hg
            clear hrs hg gx hblk e
            go_wp2_with fail
            go_roundw
            case rel => exact ⟨i + 1, os, by omega, by go_num, HG.out, HRS.out⟩
            case measure => simp [intOf]; omega
    · obtain rfl : i = N := by omega
      have HG := Lib.hid hg
      clear hg
      go_wp2_with fail
      go_ret
      exact ⟨A3, i, c3, os, rfl, HG.out, hN, hrt.out⟩
end Go.Proofs.Ytbfjkjkanckcjaa
