/- LinearBad: the walk. -/
import Derived.Test.YtbfjkjkanckcjaaRgt
import Derived.Test.YtbfjkjkanckcjaaLin3
import Derived.Deep.DeepCutAuto
namespace Go.Proofs.Ytbfjkjkanckcjaa
open Go.RowKit Go.Shelf

/-- a row of rows in which one was spoilt -/
theorem spoilt {w w1 : World} {b3 N c3 : Nat} {os : List SlI} {i : Nat} (s : SlI) (h : NewRows 3 40 w w1 (.slice (some ⟨b3, 0, none⟩) N c3) (os.set i s)) (hl : os.length = N) (hi : i < N) (hs : ∀ x ∈ os, x.n ≤ 6) (hsn : s.n ≤ 8)
    (hbad : ¬ s.xs.Nodup ∨ ∃ b ∈ s.xs, (i : Int) ≤ b) : RdR w1 (some ⟨b3, 0, none⟩) N c3 (os.set i s) ∧ AllOk w1 (os.set i s) ∧ (∀ r ∈ nums (os.set i s), r.length ≤ 100) ∧ Lin.all (nums (os.set i s)) = none := by
  obtain ⟨_, _, _, e, hr, _⟩ := OwnR.rd h.r.own
  cases e
  refine ⟨hr, h.i.ok, fun r hr' => ?_, ?_⟩
  · obtain ⟨x, hx, rfl⟩ := List.mem_map.1 hr'
    rw [(h.i.ok x hx).1]
    rcases set_mem hx with hx | rfl
    · have := hs x hx
      omega
    · omega
  · have hlen : i < (nums (os.set i s)).length := by rw [nums_length, List.length_set, hl]; exact hi
    have e : (nums (os.set i s))[i] = s.xs := by simp [nums]
    exact all_bad hlen (by rw [e]; exact hbad)

theorem own_or {v v' : Value} {m : Nat} (h : v'.ownBlock = v.ownBlock ∨ v'.ownBlock = some m) : ∀ b', v'.ownBlock = some b' → v.ownBlock = some b' ∨ m ≤ b' := fun b' e => by
  rcases h with h | h
  · exact .inl (h.symm.trans e)
  · have e2 := h.symm.trans e
    injection e2 with e2
    exact .inr (by omega)

set_option maxRecDepth 100000 in
set_option maxHeartbeats 8000000 in
theorem bad_walk (A : Option Addr) (n c : Nat) (rs : List SlI) (x y : Int) (w : World) (hR : RdR w A n c rs) (hok : AllOk w rs) :
    Calls Try.prog 13 #[.slice A n c, .int .i64 x, .int .i64 y] w fun e w' => e = .returned (.bool true) ∧ Below w.heap.size w w' := by
  have HR := Lib.hid hR
  have HOK := Lib.hid hok
  clear hR hok
  obtain ⟨a, ha, hxa⟩ : ∃ a : Nat, a ≤ 65535 ∧ bits BinOp.and IntKind.i64 x 65535 = (a : Int) := and_small x 65535 (by decide)
  obtain ⟨d, hd, hyd⟩ : ∃ d : Nat, d ≤ 1 ∧ bits BinOp.and IntKind.i64 y 1 = (d : Int) := and_small y 1 (by decide)
  obtain ⟨g, hg, hyg⟩ : ∃ g : Nat, g ≤ 255 ∧ bits BinOp.and IntKind.i64 (y / 2) 255 = (g : Int) := and_small (y / 2) 255 (by decide)
  go_enter Try.func13, Try.ntmps13
  go_wp2_with fail
  (with_reducible refine (shown_any _).mono ?_)
  rintro e w1 ⟨rfl, hb1⟩
  have HB1 := Lib.hid hb1
  have HC1 := Lib.hid (right_any A n c rs w1 (HR.out.new hb1) (HOK.out.new hb1))
  clear hb1
  go_wp2_with fail
  (with_reducible refine HC1.out.mono ?_)
  rintro e wr ⟨A3, N, c3, os, rfl, hgs, hN, _⟩
  have HGS := Lib.hid hgs
  have HB2 := Lib.hid (HB1.out.trans (hgs.r.r.bel.mono HB1.out.size))
  clear hgs HC1 HR HOK
  by_cases hN2 : N < 2
  · go_wp2_with fail
    go_ret
    exact ⟨rfl, HB2.out⟩
  · obtain ⟨b3, rfl⟩ := HGS.out.blk (by omega)
    obtain ⟨i, hi, hia⟩ : ∃ i : Nat, i < N ∧ (1 : Int) + (a : Int) % ((N : Int) - 1) = (i : Int) := ⟨1 + a % (N - 1), by have := Nat.mod_lt a (show 0 < N - 1 by omega); omega, by rw [show (N : Int) - 1 = ((N - 1 : Nat) : Int) from by omega]; omega⟩
    have HIA := Lib.hid hia
    clear hia
    go_upto_region 6 with (fail)
    rw [HIA.out, show wrap64 (i : Int) = (i : Int) from IntWalk.wrap64_in _ (by omega)]
    obtain ⟨Ai, ni, ci, xi, hrow, g3, gx, hni, _⟩ := HGS.out.at_ hi
    have hrx : i < os.length := by rw [HGS.out.l]; exact hi
    have hre : os[i] = ⟨Ai, ni, ci, xi⟩ := by
      rw [List.getElem?_eq_getElem hrx] at hrow
      exact Option.some.inj hrow
    have hown := HGS.out.r.i os[i] (List.getElem_mem hrx)
    rw [hre] at hown
    have hxl : xi.length = ni := gx.1
    have HOWN := Lib.hid (show OwnI 3 wr (.slice Ai ni ci) xi from hown)
    have HRE := Lib.hid hre
    have hb3lt : b3 < wr.heap.size := Own.lt HGS.out.r.r.own rfl
    have hg6 : ∀ (o : Obj) (w6 : World), (wr.alloc o).grownBy w6 (Value.slice Ai ni ci).ownBlock → w6.cell? ⟨b3, i, none⟩ = some (.slice Ai ni ci) := fun o w6 h => by
      have hne : some b3 ≠ (Value.slice Ai ni ci).ownBlock := fun e => own_own_ne (show OwnI 3 wr (.slice Ai ni ci) xi from hown) HGS.out.r.r.own (by decide) e.symm rfl
      have e1 := World.cell?_of_block (a := ⟨b3, i, none⟩) (h.block b3 (by simp; omega) hne)
      rw [e1]
      exact (World.cell?_alloc_lt wr o ⟨b3, i, none⟩ hb3lt).trans g3
    have G6 := Lib.hid hg6
    clear hrow gx hre hown hg6
    have hxl6 : xi.length ≤ 6 := by omega
    rcases (by omega : d = 0 ∨ d = 1) with rfl | rfl
    · have hbn : Below wr.heap.size wr (wr.alloc (.cells #[.int .i64 0, .int .i64 0] 3)) := (by repeat (first | exact Below.refl _ _ | assumption | refine Below.setCell ?_ (by first | (simp; done) | (simp; omega) | omega) _ | refine below_drewN ?_ _ | refine Below.drew ?_ | refine Below.alloc ?_ (by first | (simp; done) | (simp; omega) | omega) _))
      have HBN := Lib.hid hbn
      have HO := Lib.hid (Own.new HOWN.out hbn)
      have HZZ := Lib.hid (rowI wr 3 wr.heap.size 2 [0, 0] #[.int .i64 0, .int .i64 0] rfl rfl rfl (by omega))
      clear hbn
      go_wp2_with (at_builtin; refine wpList_appendN _ rfl (.tmp 34) (.tmp 35) rfl (.slice Ai ni ci) xi rfl HO.out (some ⟨wr.heap.size, 0, none⟩) 2 2 [0, 0] rfl HZZ.out (by omega) ?_; intro v6 w6 hv6 hg6 ha6; obtain ⟨A6, n6, c6, rfl, hr6, _⟩ := OwnI.rd hv6; have hgs2 := HGS.out.below HBN.out; have hrow6 := hgs2.r.row (by decide) hrx HGS.out.l ⟨A6, n6, c6, xi ++ [0, 0]⟩ hv6 (by rw [HRE.out]; exact hg6) (by rw [HRE.out]; exact own_or ha6); have hf6 := hrow6.1; have HROW := Lib.hid hrow6.2; have hn6 : n6 ≤ 8 := (by rw [← hr6.1, List.length_append]; simp only [List.length_cons, List.length_nil]; omega); have h66 : w6.cell? ⟨b3, i, none⟩ = some (.slice Ai ni ci) := G6.out _ w6 hg6; clear hv6 hg6 ha6 hr6 hrow6 hgs2)
      obtain ⟨k1, k2, k3, k4⟩ := spoilt ⟨A6, n6, c6, xi ++ [0, 0]⟩ HROW.out HGS.out.l hi HGS.out.s hn6 (.inl fun h => by have := (List.nodup_append.1 h).2.1; simp at this)
      have hal := all_of (some ⟨b3, 0, none⟩) N c3 _ _ _ rfl k1 k2 (by omega) k3
      rw [k4] at hal
      have HAL := Lib.hid (show Calls Try.prog 22 #[.slice (some ⟨b3, 0, none⟩) N c3] (w6.setCell ⟨b3, i, none⟩ (.slice A6 n6 c6)) (AllRd (w6.setCell ⟨b3, i, none⟩ (.slice A6 n6 c6)) none) from hal)
      have HB6 := Lib.hid (show Below w1.heap.size w1 (w6.setCell ⟨b3, i, none⟩ (.slice A6 n6 c6)) from HROW.out.r.bel)
      clear k1 k2 k3 k4 hal
      (with_reducible refine HAL.out.mono ?_)
      rintro e w7 ⟨A7, n7, c7, o7, rfl, hr7, _, hu7, hb7⟩
      have hn7 : n7 = 0 := by
        rw [← hr7.1, ← nums_length, hu7]
        rfl
      subst hn7
      simp only [Option.isSome_none]
      have HB7 := Lib.hid (HB1.out.trans ((HB6.out.trans (hb7.mono HB6.out.size)).mono HB1.out.size))
      clear hr7 hu7 hb7
      go_wp2_with fail
      go_ret
      exact ⟨rfl, HB7.out⟩
    · have hbn : Below wr.heap.size wr (wr.alloc (.cells #[.int .i64 ((i : Int) + (g : Int))] 3)) := (by repeat (first | exact Below.refl _ _ | assumption | refine Below.setCell ?_ (by first | (simp; done) | (simp; omega) | omega) _ | refine below_drewN ?_ _ | refine Below.drew ?_ | refine Below.alloc ?_ (by first | (simp; done) | (simp; omega) | omega) _))
      have HBN := Lib.hid hbn
      have HO := Lib.hid (Own.new HOWN.out hbn)
      have HZZ := Lib.hid (rowI wr 3 wr.heap.size 1 [(i : Int) + (g : Int)] #[.int .i64 ((i : Int) + (g : Int))] rfl rfl rfl (by omega))
      clear hbn
      go_wp2_with (at_builtin; refine wpList_appendN _ rfl (.tmp 43) (.tmp 49) rfl (.slice Ai ni ci) xi rfl HO.out (some ⟨wr.heap.size, 0, none⟩) 1 1 [(i : Int) + (g : Int)] rfl HZZ.out (by omega) ?_; intro v6 w6 hv6 hg6 ha6; obtain ⟨A6, n6, c6, rfl, hr6, _⟩ := OwnI.rd hv6; have hgs2 := HGS.out.below HBN.out; have hrow6 := hgs2.r.row (by decide) hrx HGS.out.l ⟨A6, n6, c6, xi ++ [(i : Int) + (g : Int)]⟩ hv6 (by rw [HRE.out]; exact hg6) (by rw [HRE.out]; exact own_or ha6); have hf6 := hrow6.1; have HROW := Lib.hid hrow6.2; have hn6 : n6 ≤ 8 := (by rw [← hr6.1, List.length_append]; simp only [List.length_cons, List.length_nil]; omega); have h66 : w6.cell? ⟨b3, i, none⟩ = some (.slice Ai ni ci) := G6.out _ w6 hg6; clear hv6 hg6 ha6 hr6 hrow6 hgs2)
      obtain ⟨k1, k2, k3, k4⟩ := spoilt ⟨A6, n6, c6, xi ++ [(i : Int) + (g : Int)]⟩ HROW.out HGS.out.l hi HGS.out.s hn6 (.inr ⟨(i : Int) + (g : Int), by simp, by omega⟩)
      have hal := all_of (some ⟨b3, 0, none⟩) N c3 _ _ _ rfl k1 k2 (by omega) k3
      rw [k4] at hal
      have HAL := Lib.hid (show Calls Try.prog 22 #[.slice (some ⟨b3, 0, none⟩) N c3] (w6.setCell ⟨b3, i, none⟩ (.slice A6 n6 c6)) (AllRd (w6.setCell ⟨b3, i, none⟩ (.slice A6 n6 c6)) none) from hal)
      have HB6 := Lib.hid (show Below w1.heap.size w1 (w6.setCell ⟨b3, i, none⟩ (.slice A6 n6 c6)) from HROW.out.r.bel)
      clear k1 k2 k3 k4 hal
      (with_reducible refine HAL.out.mono ?_)
      rintro e w7 ⟨A7, n7, c7, o7, rfl, hr7, _, hu7, hb7⟩
      have hn7 : n7 = 0 := by
        rw [← hr7.1, ← nums_length, hu7]
        rfl
      subst hn7
      simp only [Option.isSome_none]
      have HB7 := Lib.hid (HB1.out.trans ((HB6.out.trans (hb7.mono HB6.out.size)).mono HB1.out.size))
      clear hr7 hu7 hb7
      go_wp2_with fail
      go_ret
      exact ⟨rfl, HB7.out⟩
end Go.Proofs.Ytbfjkjkanckcjaa
