/- LinearNames: the walk. -/
import Derived.Test.YtbfjkjkanckcjaaPut
import Derived.Test.YtbfjkjkanckcjaaOrd
import Derived.Test.YtbfjkjkanckcjaaLKee
import Derived.Test.YtbfjkjkanckcjaaRow
namespace Go.Proofs.Ytbfjkjkanckcjaa
open Go.RowKit Go.Shelf

theorem NewRows.blk {t tr : TypeId} {w wr : World} {A3 : Option Addr} {N c3 : Nat} {os : List SlI} (h : NewRows t tr w wr (.slice A3 N c3) os) (hl : os.length = N) (hN : 0 < N) : ∃ b3, A3 = some ⟨b3, 0, none⟩ := by
  rcases h.r.own.2 with ⟨e, h0⟩ | ⟨g, _, _, e, _⟩
  · omega
  · injection e with e1 _ _
    exact ⟨g, e1⟩
theorem NewRows.at_ {t tr : TypeId} {w wr : World} {b3 N c3 : Nat} {os : List SlI} (h : NewRows t tr w wr (.slice (some ⟨b3, 0, none⟩) N c3) os) (hl : os.length = N) {i : Nat} (hi : i < N) :
    ∃ Ai ni ci xi, os[i]? = some ⟨Ai, ni, ci, xi⟩ ∧ wr.cell? ⟨b3, i, none⟩ = some (.slice Ai ni ci) ∧ RdI wr Ai ni ci xi ∧ (0 < ni → ∃ bi, Ai = some ⟨bi, 0, none⟩) := by
  have hx : i < os.length := by rw [hl]; exact hi
  obtain ⟨_, _, _, e, hr, _⟩ := OwnR.rd h.r.own
  cases e
  obtain ⟨b, o, e, _, hc⟩ := hr.at_ hi
  cases e
  rw [Nat.zero_add] at hc
  refine ⟨os[i].A, os[i].n, os[i].c, os[i].xs, List.getElem?_eq_getElem hx, hc, h.i.ok os[i] (List.getElem_mem hx), fun hn => ?_⟩
  have ho := h.i os[i] (List.getElem_mem hx)
  rcases ho.2 with ⟨e, _⟩ | ⟨g, _, _, e, _⟩
  · unfold SlI.v at e
    injection e with e1 e2 e3
    omega
  · unfold SlI.v at e
    injection e with e1 e2 e3
    exact ⟨g, e1⟩
/-- the first i rows turned -/
def turnTo (f : Int → Int) (rows : List (List Int)) (i : Nat) : List (List Int) := (rows.take i).map (List.map f) ++ rows.drop i
/-- the first k numbers turned -/
def partTo (f : Int → Int) (r : List Int) (k : Nat) : List Int := (r.take k).map f ++ r.drop k
theorem turnTo_length (f : Int → Int) (rows : List (List Int)) (i : Nat) : (turnTo f rows i).length = rows.length := by
  simp only [turnTo, List.length_append, List.length_map, List.length_take, List.length_drop]
  omega
theorem partTo_length (f : Int → Int) (r : List Int) (k : Nat) : (partTo f r k).length = r.length := by
  simp only [partTo, List.length_append, List.length_map, List.length_take, List.length_drop]
  omega
theorem partTo_at (f : Int → Int) (r : List Int) (k : Nat) (h : k < r.length) : (partTo f r k)[k]'(by rw [partTo_length]; exact h) = r[k] := by
  unfold partTo
  rw [List.getElem_append_right (by simp; omega)]
  simp [Nat.min_eq_left (Nat.le_of_lt h)]
theorem partTo_set (f : Int → Int) (r : List Int) (k : Nat) (h : k < r.length) : (partTo f r k).set k (f r[k]) = partTo f r (k + 1) := by
  unfold partTo
  have hl : ((r.take k).map f).length = k := by simp; omega
  rw [List.set_append_right _ _ (by omega), hl, Nat.sub_self, List.drop_eq_getElem_cons h, List.set_cons_zero, List.take_succ_eq_append_getElem h, List.map_append, List.append_assoc]
  rfl
theorem turnTo_at (f : Int → Int) (rows : List (List Int)) (i : Nat) (h : i < rows.length) : (turnTo f rows i)[i]'(by rw [turnTo_length]; exact h) = rows[i] := by
  unfold turnTo
  rw [List.getElem_append_right (by simp; omega)]
  simp [Nat.min_eq_left (Nat.le_of_lt h)]
theorem turnTo_set (f : Int → Int) (rows : List (List Int)) (i : Nat) (h : i < rows.length) : (turnTo f rows i).set i (rows[i].map f) = turnTo f rows (i + 1) := by
  unfold turnTo
  have hl : ((rows.take i).map (List.map f)).length = i := by simp; omega
  rw [List.set_append_right _ _ (by omega), hl, Nat.sub_self, List.drop_eq_getElem_cons h, List.set_cons_zero, List.take_succ_eq_append_getElem h, List.map_append, List.append_assoc]
  rfl
theorem turnTo_zero (f : Int → Int) (rows : List (List Int)) : turnTo f rows 0 = rows := by simp [turnTo]
theorem turnTo_all (f : Int → Int) {rows : List (List Int)} {i : Nat} (h : rows.length ≤ i) : turnTo f rows i = rows.map (List.map f) := by
  unfold turnTo
  rw [List.take_of_length_le h, List.drop_of_length_le h, List.append_nil]
theorem partTo_zero (f : Int → Int) (r : List Int) : partTo f r 0 = r := by simp [partTo]
theorem partTo_all (f : Int → Int) {r : List Int} {k : Nat} (h : r.length ≤ k) : partTo f r k = r.map f := by
  unfold partTo
  rw [List.take_of_length_le h, List.drop_of_length_le h, List.append_nil]
theorem cutTo_in {rs : List SlI} (h : ∀ s ∈ rs, InI s.xs) : ∀ r ∈ cutTo 8 (nums rs) 8, InI r := fun r hr => by
  simp only [cutTo, List.mem_map] at hr
  obtain ⟨q, hq, rfl⟩ := hr
  obtain ⟨s, hs, rfl⟩ := List.mem_map.1 (List.mem_of_mem_take hq)
  exact fun x hx => h s hs x (List.mem_of_mem_take hx)

set_option maxRecDepth 100000 in
set_option maxHeartbeats 8000000 in
theorem names_walk (A : Option Addr) (n c : Nat) (rs : List SlI) (x : Int) (w : World) (hR : RdR w A n c rs) (hok : AllOk w rs) (hin : ∀ s ∈ rs, InI s.xs) :
    Calls Try.prog 10 #[.slice A n c, .int .i64 x] w fun e w' => e = .returned (.bool true) ∧ Below w.heap.size w w' := by
  have HR := Lib.hid hR
  have HOK := Lib.hid hok
  have HIN := Lib.hid (cutTo_in hin)
  clear hR hok hin
  go_enter Try.func10, Try.ntmps10
  go_wp2_with fail
  (with_reducible refine (shown_any _).mono ?_)
  rintro e w1 ⟨rfl, hb1⟩
  have HB1 := Lib.hid hb1
  have HC1 := Lib.hid (cut_any A n c rs w1 (HR.out.new hb1) (HOK.out.new hb1))
  clear hb1
  go_wp2_with fail
  (with_reducible refine HC1.out.mono ?_)
  rintro e w2 ⟨v2, o2, rfl, hn2, hu2⟩
  obtain ⟨A2, n2, c2, rfl, hr2, hk2, hl2, hw2, hb2⟩ := hn2.rd hu2
  have HB2 := Lib.hid (HB1.out.trans (hb2.mono HB1.out.size))
  have HR2 := Lib.hid hr2
  have HK2 := Lib.hid hk2
  have HU2 := Lib.hid hu2
  have HW2 := Lib.hid hw2
  have HC2 := Lib.hid (cut_any A n c rs w2 (HR.out.new HB2.out) (HOK.out.new HB2.out))
  clear hn2 hu2 hr2 hk2 hw2 hb2 HC1 HB1
  go_wp2_with fail
  (with_reducible refine HC2.out.mono ?_)
  rintro e w3 ⟨v3, o3, rfl, hn3, hu3⟩
  obtain ⟨A3, c3, rfl, _, _⟩ := OwnR.rdL hn3.r.own
  have hN8 : o3.length ≤ 8 := by rw [← nums_length, hu3]; exact cutTo_length 8 _ 8
  have HN3 := Lib.hid hn3
  have hrow8 : ∀ r ∈ cutTo 8 (nums rs) 8, r.length ≤ 8 := fun r hr => cutTo_row hr
  have HR8 := Lib.hid hrow8
  generalize hrows : cutTo 8 (nums rs) 8 = rows at *
  have hrl : rows.length = o3.length := by rw [← hu3, nums_length]
  have HU3 := Lib.hid hu3
  have hll : ∃ N, N = o3.length := ⟨_, rfl⟩
  obtain ⟨N, hNN⟩ := hll
  rw [← hNN] at hN8 hrl HN3 ⊢
  have HRL := Lib.hid hrl
  have HNN := Lib.hid hNN
  clear hn3 hu3 hrows hrow8 hrl hNN HC2 HR HOK
  go_wp2_with fail
  go_loopw [8] (fun j wr => ∃ (i : Nat) (os : List SlI), i ≤ N ∧ j = .int .i64 i ∧ NewRows 2 25 w2 wr (.slice A3 N c3) os ∧ Hid (os.length = N) ∧ Hid (nums os = turnTo (xorI x) rows i)) (fun j _ => N - (intOf j).toNat)
  case atStart => exact ⟨0, o3, Nat.zero_le _, rfl, HN3.out, HNN.out.symm, by unfold Hid; rw [turnTo_zero]; exact HU3.out⟩
  case round =>
    obtain ⟨i, os, hi, rfl, hnr, hol, hnu⟩ := hrel
    by_cases hlt : i < N
    · obtain ⟨b3, rfl⟩ := hnr.blk hol.out (by omega)
      have hir : i < rows.length := by rw [HRL.out]; exact hlt
      have hri8 : rows[i].length ≤ 8 := HR8.out _ (List.getElem_mem hir)
      have hini : InI rows[i] := HIN.out _ (List.getElem_mem hir)
      have hts := turnTo_set (xorI x) rows i hir
      have hta := turnTo_at (xorI x) rows i hir
      have hset0 : (turnTo (xorI x) rows i).set i rows[i] = turnTo (xorI x) rows i := by
        conv => lhs; rw [← hta]
        exact List.set_getElem_self _
      generalize rows[i] = ri at *
      have HTS := Lib.hid hts
      have HINI := Lib.hid hini
      have HNR := Lib.hid hnr
      have HNU := Lib.hid (show nums os = (turnTo (xorI x) rows i).set i (partTo (xorI x) ri 0) from by rw [partTo_zero, hset0]; exact hnu.out)
      clear hts hta hset0 hini hnr hnu
      generalize turnTo (xorI x) rows i = base at *
      go_wp2_with fail
      obtain ⟨wo, rfl⟩ : ∃ wo : World, wo = wr := ⟨_, rfl⟩
      go_loopw [9] (fun j wr => ∃ (k : Nat) (os : List SlI), k ≤ ri.length ∧ j = .int .i64 k ∧ NewRows 2 25 w2 wr (.slice (some ⟨b3, 0, none⟩) N c3) os ∧ Hid (os.length = N) ∧ Hid (nums os = base.set i (partTo (xorI x) ri k))) (fun j _ => ri.length - (intOf j).toNat)
      case atStart => exact ⟨0, os, Nat.zero_le _, rfl, HNR.out, hol, HNU.out⟩
      case round =>
        obtain ⟨k, os, hk, rfl, hg, hol, hnu⟩ := hrel
        obtain ⟨Ai, ni, ci, xi, hrow, g3, gx, hblk⟩ := hg.at_ hol.out hlt
        have hxi : xi = partTo (xorI x) ri k := by
          have h1 : (nums os)[i]? = some xi := by simp only [nums, List.getElem?_map, hrow, Option.map_some]
          have hbl : base.length = N := by
            have := congrArg List.length hnu.out
            rw [nums_length, List.length_set, hol.out] at this
            exact this.symm
          rw [hnu.out, List.getElem?_set_self (by omega)] at h1
          exact (Option.some.inj h1).symm
        have hlx := gx.1
        obtain rfl : ni = ri.length := by rw [← hlx, hxi, partTo_length]
        have hnc := gx.2.1
        have hc9 := gx.2.2.1
        by_cases hltk : k < ri.length
        · obtain ⟨bi, rfl⟩ := hblk (by omega)
          obtain ⟨_, _, e, _, gk⟩ := gx.at_ hltk
          cases e
          rw [Nat.zero_add] at gk
          have hxk : xi[k]'(by omega) = ri[k] := by simp only [hxi]; exact partTo_at _ ri k hltk
          rw [hxk] at gk
          have hps := partTo_set (xorI x) ri k hltk
          have hrange := HINI.out ri[k] (List.getElem_mem hltk)
          rw [xorI_in hrange] at hps
          generalize ri[k] = z at *
          have hrx : i < os.length := by rw [hol.out]; exact hlt
          have hre : os[i] = ⟨some ⟨bi, 0, none⟩, ri.length, ci, xi⟩ := by
            rw [List.getElem?_eq_getElem hrx] at hrow
            exact Option.some.inj hrow
          have hput := (hg.below ((Below.refl _ _).drew)).num (by decide) hrx hre hltk hlx (bits BinOp.xor IntKind.i64 z x)
          have hfz := hput.1
          have hnew := hput.2
          have hnu2 : nums (os.set i ⟨some ⟨bi, 0, none⟩, ri.length, ci, xi.set k (bits BinOp.xor IntKind.i64 z x)⟩) = base.set i (partTo (xorI x) ri (k + 1)) := by
            rw [nums_set, hnu.out, List.set_set]
            congr 1
            show xi.set k _ = _
            rw [hxi, hps]
          have hSD : (fun w' : World => w'.cell? ⟨b3, i, none⟩ = some (.slice (some ⟨bi, 0, none⟩) ri.length ci) ∧ w'.cell? ⟨bi, k, none⟩ = some (.int .i64 z)) wr.drew := ⟨g3, gk⟩
          have HSD := Lib.hid hSD
          have HNEW := Lib.hid hnew
          have HNU2 := Lib.hid hnu2
          have i0 : (0 : Int) ≤ (k : Int) := by omega
          have i1 : (k : Int) < (ri.length : Int) := by omega
          have i2 : (0 : Int) ≤ (i : Int) := by omega
          have i3 : (i : Int) < (N : Int) := by omega
          clear hput hnew hnu2 hSD hg gx hblk hrow hxi hxk hps hrange hre
          go_wp2_with fail
          refine wp_region_noPanic ?_
          refine AnyBut.start (S := fun w' => w'.cell? ⟨b3, i, none⟩ = some (.slice (some ⟨bi, 0, none⟩) ri.length ci) ∧ w'.cell? ⟨bi, k, none⟩ = some (.int .i64 z)) 15 (by kernel_rfl) HSD.out (fun hHeld => ?_)
          generalize wr.drew = Wd at *
          refine AnyBut.take (i := 0) (v := ?_) (by rw [List.getElem?_toArray]; rfl) (by kernel_rfl) (by kernel_rfl) (by kernel_rfl) (by kernel_rfl) (fun _ _ _ h => h) (Or.inl ⟨by rfl, ?_⟩) (by assumption) ?_
          rotate_left 1
          · (intro w_ hSw; (try dsimp only at hSw); go_simp; try with_reducible rfl)
          try simp only [Act.put, List.setIfInBounds_toArray, List.set_cons_zero, List.set_cons_succ]
          refine AnyBut.take (i := 1) (v := ?_) (by rw [List.getElem?_toArray]; rfl) (by kernel_rfl) (by kernel_rfl) (by kernel_rfl) (by kernel_rfl) (fun _ _ _ h => h) (Or.inl ⟨by rfl, ?_⟩) (by assumption) ?_
          rotate_left 1
          · (intro w_ hSw; (try dsimp only at hSw); go_simp; try with_reducible rfl)
          try simp only [Act.put, List.setIfInBounds_toArray, List.set_cons_zero, List.set_cons_succ]
          refine AnyBut.take (i := 2) (v := ?_) (by rw [List.getElem?_toArray]; rfl) (by kernel_rfl) (by kernel_rfl) (by kernel_rfl) (by kernel_rfl) (fun _ _ _ h => h) (Or.inl ⟨by rfl, ?_⟩) (by assumption) ?_
          rotate_left 1
          · (intro w_ hSw; (try dsimp only at hSw); go_simp; try with_reducible rfl)
          try simp only [Act.put, List.setIfInBounds_toArray, List.set_cons_zero, List.set_cons_succ]
          refine AnyBut.take (i := 3) (v := ?_) (by rw [List.getElem?_toArray]; rfl) (by kernel_rfl) (by kernel_rfl) (by kernel_rfl) (by kernel_rfl) (fun _ _ _ h => h) (Or.inl ⟨by rfl, ?_⟩) (by assumption) ?_
          rotate_left 1
          · (intro w_ hSw; (try dsimp only at hSw); go_simp; try with_reducible rfl)
          try simp only [Act.put, List.setIfInBounds_toArray, List.set_cons_zero, List.set_cons_succ]
          refine AnyBut.take (i := 4) (v := ?_) (by rw [List.getElem?_toArray]; rfl) (by kernel_rfl) (by kernel_rfl) (by kernel_rfl) (by kernel_rfl) (fun _ _ _ h => h) (Or.inl ⟨by rfl, ?_⟩) (by assumption) ?_
          rotate_left 1
          · (intro w_ hSw; (try dsimp only at hSw); go_simp; try with_reducible rfl)
          try simp only [Act.put, List.setIfInBounds_toArray, List.set_cons_zero, List.set_cons_succ]
          refine AnyBut.take (i := 5) (v := ?_) (by rw [List.getElem?_toArray]; rfl) (by kernel_rfl) (by kernel_rfl) (by kernel_rfl) (by kernel_rfl) (fun _ _ _ h => h) (Or.inl ⟨by rfl, ?_⟩) (by assumption) ?_
          rotate_left 1
          · (intro w_ hSw; (try dsimp only at hSw); go_simp; try with_reducible rfl)
          try simp only [Act.put, List.setIfInBounds_toArray, List.set_cons_zero, List.set_cons_succ]
          refine AnyBut.take (i := 6) (v := ?_) (by rw [List.getElem?_toArray]; rfl) (by kernel_rfl) (by kernel_rfl) (by kernel_rfl) (by kernel_rfl) (fun _ _ _ h => h) (Or.inl ⟨by rfl, ?_⟩) (by assumption) ?_
          rotate_left 1
          · (intro w_ hSw; (try dsimp only at hSw); go_simp; try with_reducible rfl)
          try simp only [Act.put, List.setIfInBounds_toArray, List.set_cons_zero, List.set_cons_succ]
          refine AnyBut.take (i := 7) (v := ?_) (by rw [List.getElem?_toArray]; rfl) (by kernel_rfl) (by kernel_rfl) (by kernel_rfl) (by kernel_rfl) (fun _ _ _ h => h) (Or.inl ⟨by rfl, ?_⟩) (by assumption) ?_
          rotate_left 1
          · (intro w_ hSw; (try dsimp only at hSw); go_simp; try with_reducible rfl)
          try simp only [Act.put, List.setIfInBounds_toArray, List.set_cons_zero, List.set_cons_succ]
          refine AnyBut.take (i := 8) (v := ?_) (by rw [List.getElem?_toArray]; rfl) (by kernel_rfl) (by kernel_rfl) (by kernel_rfl) (by kernel_rfl) (fun _ _ _ h => h) (Or.inl ⟨by rfl, ?_⟩) (by assumption) ?_
          rotate_left 1
          · (intro w_ hSw; (try dsimp only at hSw); go_simp; try with_reducible rfl)
          try simp only [Act.put, List.setIfInBounds_toArray, List.set_cons_zero, List.set_cons_succ]
          refine AnyBut.take (i := 9) (v := ?_) (by rw [List.getElem?_toArray]; rfl) (by kernel_rfl) (by kernel_rfl) (by kernel_rfl) (by kernel_rfl) (fun _ _ _ h => h) (Or.inl ⟨by rfl, ?_⟩) (by assumption) ?_
          rotate_left 1
          · (intro w_ hSw; (try dsimp only at hSw); go_simp; try with_reducible rfl)
          try simp only [Act.put, List.setIfInBounds_toArray, List.set_cons_zero, List.set_cons_succ]
          refine AnyBut.take (i := 10) (v := ?_) (by rw [List.getElem?_toArray]; rfl) (by kernel_rfl) (by kernel_rfl) (by kernel_rfl) (by kernel_rfl) (fun _ _ _ h => h) (Or.inl ⟨by rfl, ?_⟩) (by assumption) ?_
          rotate_left 1
          · (intro w_ hSw; (try dsimp only at hSw); go_simp; try with_reducible rfl)
          try simp only [Act.put, List.setIfInBounds_toArray, List.set_cons_zero, List.set_cons_succ]
          refine AnyBut.take (i := 11) (v := ?_) (by rw [List.getElem?_toArray]; rfl) (by kernel_rfl) (by kernel_rfl) (by kernel_rfl) (by kernel_rfl) (fun _ _ _ h => h) (Or.inl ⟨by rfl, ?_⟩) (by assumption) ?_
          rotate_left 1
          · (intro w_ hSw; (try dsimp only at hSw); go_simp; try with_reducible rfl)
          try simp only [Act.put, List.setIfInBounds_toArray, List.set_cons_zero, List.set_cons_succ]
          refine AnyBut.take (i := 12) (v := ?_) (by rw [List.getElem?_toArray]; rfl) (by kernel_rfl) (by kernel_rfl) (by kernel_rfl) (by kernel_rfl) (fun _ _ _ h => h) (Or.inl ⟨by rfl, ?_⟩) (by assumption) ?_
          rotate_left 1
          · (intro w_ hSw; (try dsimp only at hSw); go_simp; try with_reducible rfl)
          try simp only [Act.put, List.setIfInBounds_toArray, List.set_cons_zero, List.set_cons_succ]
          refine AnyBut.take (i := 13) (v := ?_) (by rw [List.getElem?_toArray]; rfl) (by kernel_rfl) (by kernel_rfl) (by kernel_rfl) (by kernel_rfl) (fun _ _ _ h => h) (Or.inl ⟨by rfl, ?_⟩) (by assumption) ?_
          rotate_left 1
          · (intro w_ hSw; (try dsimp only at hSw); go_simp; try with_reducible rfl)
          try simp only [Act.put, List.setIfInBounds_toArray, List.set_cons_zero, List.set_cons_succ]
          refine AnyBut.take (i := 14) (v := ?_) (by rw [List.getElem?_toArray]; rfl) (by kernel_rfl) (by kernel_rfl) (by kernel_rfl) (by kernel_rfl) (fun _ _ _ h => h) (Or.inl ⟨by rfl, ?_⟩) (by assumption) ?_
          rotate_left 1
          · (intro w_ hSw; (try dsimp only at hSw); go_simp; try with_reducible rfl)
          try simp only [Act.put, List.setIfInBounds_toArray, List.set_cons_zero, List.set_cons_succ]
          refine AnyBut.ready (rs := [15]) (by kernel_rfl) (by simp) ?_
          refine ReadyBut.last (by rw [List.getElem?_toArray]; rfl) (fun K hK => ?_)
          go_simp
          refine hK.out _ _ ?_
          clear hK K
          try simp only [Act.put, List.setIfInBounds_toArray, List.set_cons_zero, List.set_cons_succ]
          refine AnyBut.done (by kernel_rfl) ?_ _
          refine NoPanic.normal ?_
          go_wp2_with fail
          go_roundw
          case rel => exact ⟨k + 1, _, by omega, by go_num, HNEW.out, by unfold Hid; rw [List.length_set]; exact hol.out, HNU2.out⟩
          case measure => simp [intOf]; omega
        · have hfull : nums os = turnTo (xorI x) rows (i + 1) := by
            rw [hnu.out, partTo_all (xorI x) (by omega)]
            exact HTS.out
          have HFULL := Lib.hid hfull
          have HG := Lib.hid hg
          clear hfull hg gx hblk hrow hxi
          go_wp2_with fail
          go_roundw
          case rel => exact ⟨i + 1, os, by omega, by go_num, HG.out, hol, HFULL.out⟩
          case measure => simp [intOf]; omega
    · obtain rfl : i = N := by omega
      have hrl : rows.length ≤ i := by rw [HRL.out]; exact Nat.le_refl _
      have hnu2 := hnu.out
      rw [turnTo_all _ hrl] at hnu2
      obtain ⟨_, _, _, e, hr3, _⟩ := OwnR.rd hnr.r.own
      cases e
      have hbel := hnr.r.bel
      have HMA := Lib.hid (merge_of A2 n2 c2 o2 wr rows HU2.out (HR2.out.new hbel) (HK2.out.new hbel) (by omega) (by have := HW2.out; omega))
      have hsh : ∀ r ∈ nums os, r.length ≤ 8 := fun r hr => by
        rw [hnu2] at hr
        obtain ⟨q, hq, rfl⟩ := List.mem_map.1 hr
        rw [List.length_map]
        exact HR8.out q hq
      have hin : ∀ z ∈ (Lin.merge rows).getD [], -9223372036854775808 ≤ z ∧ z ≤ 9223372036854775807 := fun z hz => by
        cases hm : Lin.merge rows with
        | none => rw [hm] at hz; simp at hz
        | some a =>
          rw [hm] at hz
          obtain ⟨r, hr, hzr⟩ := Lin.merge_from hm z hz
          exact HIN.out r hr z hzr
      have HB4 := Lib.hid (HB2.out.trans (hbel.mono HB2.out.size))
      have HRO := Lib.hid hr3
      have HKO := Lib.hid hnr.i.ok
      have HIN4 := Lib.hid hin
      have HSH := Lib.hid hsh
      have HNU := Lib.hid hnu2
      have HLO := Lib.hid hol.out
      clear hr3 hbel hsh hin hnr hnu hnu2 hrl
      go_wp2_with fail
      (with_reducible refine HMA.out.mono ?_)
      rintro e w4 ⟨A4, n4, c4, rfl, hr4, hb4⟩
      have hmb := merge_of A3 i c3 os w4 _ HNU.out (HRO.out.new hb4) (HKO.out.new hb4) (by omega) (weight_short HSH.out (by rw [nums_length, HLO.out]; omega))
      rw [Lin.merge_map (xorI_inj x)] at hmb
      have hok2 : ((Lin.merge rows).map (List.map (xorI x))).isSome = (Lin.merge rows).isSome := by cases Lin.merge rows <;> rfl
      have hgd : ((Lin.merge rows).map (List.map (xorI x))).getD [] = ((Lin.merge rows).getD []).map (xorI x) := by cases Lin.merge rows <;> rfl
      rw [hok2, hgd] at hmb
      have HB5 := Lib.hid (HB4.out.trans (hb4.mono HB4.out.size))
      have HR4 := Lib.hid hr4
      have HMB := Lib.hid hmb
      clear hr4 hb4 hmb hok2 hgd HMA HB4
      generalize (Lin.merge rows).getD [] = al at *
      generalize (Lin.merge rows).isSome = bo at *
      go_wp2_with fail
      (with_reducible refine HMB.out.mono ?_)
      rintro e w5 ⟨A5, n5, c5, rfl, hr5, hb5⟩
      have hra := HR4.out.new hb5
      have hn4 := hra.1
      have hn5 := hr5.1
      have hn45 : n5 = n4 := by rw [← hn4, ← hn5, List.length_map]
      subst hn45
      have hle := hra.le
      have HB6 := Lib.hid (HB5.out.trans (hb5.mono HB5.out.size))
      have HRA := Lib.hid hra
      have HRB := Lib.hid hr5
      clear hra hr5 hb5 HMB HB5
      cases bo
      all_goals
        go_wp2_with fail
        go_loopw [14] (fun j wr => ∃ k : Nat, k ≤ n5 ∧ j = .int .i64 k ∧ ∃ q, wr = w5.drewN q) (fun j _ => n5 - (intOf j).toNat)
        case atStart => exact ⟨0, Nat.zero_le _, rfl, 0, rfl⟩
        case round =>
          obtain ⟨k, hk, rfl, q, rfl⟩ := hrel
          by_cases hltk : k < n5
          · obtain ⟨ba, oa, rfl, _, ga⟩ := HRA.out.at_ hltk
            obtain ⟨bb, ob, rfl, _, gb⟩ := HRB.out.at_ hltk
            have hzr := HIN4.out (al[k]'(by omega)) (List.getElem_mem _)
            have hf : (al.map (xorI x))[k]'(by rw [List.length_map]; omega) = bits BinOp.xor IntKind.i64 (al[k]'(by omega)) x := by rw [List.getElem_map, xorI_in hzr]
            rw [hf] at gb
            generalize al[k]'_ = z at *
            clear hf hzr
            go_wp2_with fail
            go_quiet (fail)
            go_wp2_with fail
            go_roundw
            case rel => exact ⟨k + 1, by omega, by go_num, _, rfl⟩
            case measure => simp [intOf]; omega
          · go_wp2_with fail
            go_ret
            exact ⟨rfl, below_drewN HB6.out _⟩
end Go.Proofs.Ytbfjkjkanckcjaa
