/- LinearAll: the walk. -/
import Derived.Test.YtbfjkjkanckcjaaLMer
import Derived.Test.YtbfjkjkanckcjaaRal
namespace Go.Proofs.Ytbfjkjkanckcjaa
open Go.RowKit Go.Shelf

/-- each row is short -/
theorem rows_short {w : World} {os : List SlI} {m : Nat} {rows : List (List Int)} (hu : nums os = rows) (hok : AllOk w os) (h : ∀ r ∈ rows, r.length ≤ m) : ∀ s ∈ os, s.n ≤ m := fun s hs => by
  have h1 := (hok s hs).1
  rw [← h1]
  exact h _ (by rw [← hu]; exact List.mem_map.2 ⟨s, hs, rfl⟩)
/-- what All leaves, opened -/
def AllRd (w : World) (r : Option (List (List Int))) (e : Ending) (w' : World) : Prop :=
  ∃ A n c os, e = .returned (.tuple #[.slice A n c, .bool r.isSome]) ∧ RdR w' A n c os ∧ AllOk w' os ∧ nums os = r.getD [] ∧ Below w.heap.size w w'
theorem all_of (A : Option Addr) (n c : Nat) (rs : List SlI) (w : World) (rows : List (List Int)) (hu : nums rs = rows) (hR : RdR w A n c rs) (hok : AllOk w rs) (hn : n ≤ 100) (hm : ∀ r ∈ rows, r.length ≤ 100) : Calls Try.prog 22 #[.slice A n c] w (AllRd w (Lin.all rows)) := by
  subst hu
  refine (all_any A n c rs w hR hok hn (rows_short rfl hok hm)).mono ?_
  rintro e w' ⟨v, os, rfl, hn, hr, hi⟩
  obtain ⟨A', n', c', rfl, hrd, _⟩ := OwnR.rd hr.own
  exact ⟨A', n', c', os, rfl, hrd, hi.ok, hn, hr.bel⟩
theorem rall_of (A : Option Addr) (n c : Nat) (rs : List SlI) (w : World) (rows : List (List Int)) (hu : nums rs = rows) (hR : RdR w A n c rs) (hok : AllOk w rs) (hn : n ≤ 100) (hm : ∀ r ∈ rows, r.length ≤ 100) : Calls Try.prog 23 #[.slice A n c] w (AllRd w (Lin.all rows)) := by
  subst hu
  refine (rall_any A n c rs w hR hok hn (rows_short rfl hok hm)).mono ?_
  rintro e w' ⟨v, os, rfl, hn, hr, hi⟩
  obtain ⟨A', n', c', rfl, hrd, _⟩ := OwnR.rd hr.own
  exact ⟨A', n', c', os, rfl, hrd, hi.ok, hn, hr.bel⟩
/-- orders are short -/
theorem all_short {bs os : List (List Int)} (h : Lin.all bs = some os) (hb : bs.length ≤ 100) : os.length ≤ 100 ∧ ∀ o ∈ os, o.length ≤ 101 := by
  have key : ∀ (bs done os : List (List Int)), Neat done → Lin.allGo done bs = some os → Neat os ∧ os.length = done.length + bs.length := by
    intro bs
    induction bs with
    | nil =>
      intro done os hd h
      injection h with h
      rw [← h]
      exact ⟨hd, by simp⟩
    | cons b bs ih =>
      intro done os hd h
      unfold Lin.allGo at h
      split at h
      · rename_i hok
        cases ho : Lin.order done.length b (b.map fun x => done.getD x.toNat []) with
        | none => rw [ho] at h; cases h
        | some o =>
          rw [ho] at h
          obtain ⟨h1, h2⟩ := ih _ _ (hd.snoc hok ho) h
          exact ⟨h1, by rw [h2]; simp; omega⟩
      · cases h
  obtain ⟨h1, h2⟩ := key bs [] os Neat.nil h
  simp only [List.length_nil, Nat.zero_add] at h2
  refine ⟨by omega, fun o ho => ?_⟩
  obtain ⟨i, hi, rfl⟩ := List.getElem_of_mem ho
  have := h1.length i hi
  omega

set_option maxRecDepth 100000 in
set_option maxHeartbeats 4000000 in
theorem all_walk (A : Option Addr) (n c : Nat) (rs : List SlI) (w : World) (hR : RdR w A n c rs) (hok : AllOk w rs) :
    Calls Try.prog 5 #[.slice A n c] w fun e w' => e = .returned (.bool true) ∧ Below w.heap.size w w' := by
  have HR := Lib.hid hR
  have HOK := Lib.hid hok
  clear hR hok
  go_enter Try.func5, Try.ntmps5
  go_wp2_with fail
  (with_reducible refine (shown_any _).mono ?_)
  rintro e w1 ⟨rfl, hb1⟩
  have HB1 := Lib.hid hb1
  have HC1 := Lib.hid (few_any A n c rs w1 (HR.out.new hb1) (HOK.out.new hb1))
  clear hb1
  go_wp2_with fail
  (with_reducible refine HC1.out.mono ?_)
  rintro e w2 ⟨v2, o2, rfl, hn2, hu2⟩
  obtain ⟨A2, n2, c2, rfl, hr2, hk2, hl2, _, hb2⟩ := hn2.rd hu2
  have HB2 := Lib.hid (HB1.out.trans (hb2.mono HB1.out.size))
  have HM2 := Lib.hid (all_of A2 n2 c2 o2 w2 _ hu2 hr2 hk2 (by omega) (fun r hr => by have := cutTo_row hr; omega))
  clear hn2 hu2 hr2 hk2 hb2 HC1 HB1
  go_wp2_with fail
  (with_reducible refine HM2.out.mono ?_)
  rintro e w3 ⟨A3, n3, c3, o3, rfl, hr3, hk3, hu3, hb3⟩
  have HB3 := Lib.hid (HB2.out.trans (hb3.mono HB2.out.size))
  have HR3 := Lib.hid hr3
  have HK3 := Lib.hid hk3
  have hsh : ∀ os, Lin.all (cutTo 6 (nums rs) 20) = some os → os.length ≤ 100 ∧ ∀ o ∈ os, o.length ≤ 101 := fun os h => all_short h (by have := cutTo_length 6 (nums rs) 20; omega)
  have HC3 := Lib.hid (few_any A n c rs w3 (HR.out.new HB3.out) (HOK.out.new HB3.out))
  clear hr3 hk3 hb3 HB2 HM2
  generalize hgr : Lin.all (cutTo 6 (nums rs) 20) = r at *
  have HGR := Lib.hid hgr
  have HU3 := Lib.hid hu3
  have HSH := Lib.hid hsh
  clear hgr hu3 hsh
  go_wp2_with fail
  (with_reducible refine HC3.out.mono ?_)
  rintro e w4 ⟨v4, o4, rfl, hn4, hu4⟩
  obtain ⟨A4, n4, c4, rfl, hr4, hk4, hl4, _, hb4⟩ := hn4.rd hu4
  have HB4 := Lib.hid (HB3.out.trans (hb4.mono HB3.out.size))
  have hm4 := rall_of A4 n4 c4 o4 w4 _ hu4 hr4 hk4 (by omega) (fun r hr => by have := cutTo_row hr; omega)
  rw [HGR.out] at hm4
  have HM4 := Lib.hid hm4
  have HR3 := Lib.hid (HR3.out.new hb4)
  have HK3 := Lib.hid (HK3.out.new hb4)
  clear hn4 hu4 hr4 hk4 hb4 HC3 HB3 hm4
  go_wp2_with fail
  (with_reducible refine HM4.out.mono ?_)
  rintro e w5 ⟨A5, n5, c5, o5, rfl, hr5, hk5, hu5, hb5⟩
  have HB5 := Lib.hid (HB4.out.trans (hb5.mono HB4.out.size))
  have HR3 := Lib.hid (HR3.out.new hb5)
  have HK3 := Lib.hid (HK3.out.new hb5)
  have HR5 := Lib.hid hr5
  have HK5 := Lib.hid hk5
  have HU5 := Lib.hid hu5
  have hl35 : n3 = n5 := by rw [← HR3.out.1, ← hr5.1, ← nums_length, ← nums_length, HU3.out, hu5]
  obtain rfl : n5 = n3 := hl35.symm
  have hn3 : n5 ≤ 100 := by
    rw [← hr5.1, ← nums_length, hu5]
    cases hr : r with
    | none => simp
    | some os => exact (HSH.out os hr).1
  have hshort : ∀ s ∈ o3, s.n ≤ 101 := rows_short HU3.out HK3.out (fun o ho => by
    cases hr : r with
    | none => rw [hr] at ho; simp at ho
    | some os => rw [hr] at ho; exact (HSH.out os hr).2 o ho)
  have HSN := Lib.hid hshort
  clear hr5 hk5 hb5 hu5 hshort HB4 HM4 HR HOK
  go_wp2_with fail
  go_loopw [9] (fun i wr => ∃ k : Nat, k ≤ n5 ∧ i = .int .i64 k ∧ Below w5.heap.size w5 wr) (fun i _ => n5 - (intOf i).toNat)
  case atStart => exact ⟨0, Nat.zero_le _, rfl, Below.refl _ _⟩
  case round =>
    obtain ⟨k, hk, rfl, hbr⟩ := hrel
    by_cases hlt : k < n5
    · have hx3 : k < o3.length := by rw [HR3.out.1]; exact hlt
      have hx5 : k < o5.length := by rw [HR5.out.1]; exact hlt
      obtain ⟨ba, oa, rfl, hba, g3⟩ := HR3.out.at_ hlt
      obtain ⟨bc, oc, rfl, hbc, g5⟩ := HR5.out.at_ hlt
      have hk3 := HK3.out o3[k] (List.getElem_mem hx3)
      have hk5 := HK5.out o5[k] (List.getElem_mem hx5)
      have hs3 := HSN.out o3[k] (List.getElem_mem hx3)
      obtain ⟨_, e3⟩ := getElem_of_nums HU3.out (k := k) hx3
      obtain ⟨_, e5⟩ := getElem_of_nums HU5.out (k := k) hx5
      have hx : o3[k].xs = o5[k].xs := e3.trans e5.symm
      generalize o3[k] = s3 at *
      generalize o5[k] = s5 at *
      obtain ⟨Aa, na, ca, xa⟩ := s3
      obtain ⟨Ac, nc, cc, xc⟩ := s5
      have hx : xa = xc := hx
      subst hx
      have g3 : wr.cell? ⟨ba, oa + k, none⟩ = some (.slice Aa na ca) := (hbr.cell (p := ⟨ba, oa + k, none⟩) hba).trans g3
      have g5 : wr.cell? ⟨bc, oc + k, none⟩ = some (.slice Ac nc cc) := (hbr.cell (p := ⟨bc, oc + k, none⟩) hbc).trans g5
      have KA := Lib.hid (RdI.new (show RdI w5 Aa na ca xa from hk3) hbr)
      have KC := Lib.hid (RdI.new (show RdI w5 Ac nc cc xa from hk5) hbr)
      have hna : na ≤ 101 := hs3
      have hba' : ba < wr.heap.size := Nat.lt_of_lt_of_le hba hbr.size
      have hbc' : bc < wr.heap.size := Nat.lt_of_lt_of_le hbc hbr.size
      have HBR := Lib.hid hbr
      clear hk3 hk5 e3 e5 hs3 hbr
      go_wp2_with fail
      go_region_held3 (fun w' => w'.cell? ⟨ba, oa + k, none⟩ = some (.slice Aa na ca) ∧ w'.cell? ⟨bc, oc + k, none⟩ = some (.slice Ac nc cc))
        (first | exact HKA.out | exact HKB.out _ | go_keep)
        (first
          | (go_at_call 24; refine (wide_any Aa na ca xa _ (by exact KA.out.new (by repeat (first | exact Below.refl _ _ | assumption | refine Below.setCell ?_ (by first | (simp; done) | (simp; omega) | omega) _ | refine below_drewN ?_ _ | refine Below.drew ?_ | refine Below.alloc ?_ (by first | (simp; done) | (simp; omega) | omega) _))) (by omega)).mono ?_; rintro e wa ⟨va, rfl, hva⟩; obtain ⟨A7, n7, c7, rfl, hr7, _⟩ := OwnI.rd hva.own; have hb7 : Below wr.heap.size wr wa := (show Below wr.heap.size wr wr.drew from (by repeat (first | exact Below.refl _ _ | assumption | refine Below.setCell ?_ (by first | (simp; done) | (simp; omega) | omega) _ | refine below_drewN ?_ _ | refine Below.drew ?_ | refine Below.alloc ?_ (by first | (simp; done) | (simp; omega) | omega) _))).trans (hva.bel.mono (by simp)); have h7a : wa.cell? ⟨ba, oa + k, none⟩ = some (.slice Aa na ca) := (hb7.cell (p := ⟨ba, oa + k, none⟩) hba').trans g3; have h7c : wa.cell? ⟨bc, oc + k, none⟩ = some (.slice Ac nc cc) := (hb7.cell (p := ⟨bc, oc + k, none⟩) hbc').trans g5; have HKA := Lib.hid (And.intro h7a h7c); have HKB := Lib.hid (fun q => show (wa.drewN q).cell? ⟨ba, oa + k, none⟩ = some (.slice Aa na ca) ∧ (wa.drewN q).cell? ⟨bc, oc + k, none⟩ = some (.slice Ac nc cc) from And.intro h7a h7c); have HR7 := Lib.hid hr7; have HB7 := Lib.hid hb7; clear hva hr7 hb7 h7a h7c)
          | (go_at_call 18; refine (same_is A7 Ac n7 c7 nc cc xa xa _ true (by exact HR7.out) (by exact KC.out.new HB7.out) (sameI_self _)).mono ?_; rintro e wb ⟨rfl, q, rfl⟩))
      all_goals
        go_wp2_with fail
        go_roundw
        case rel => exact ⟨k + 1, by omega, by go_num, HBR.out.trans ((below_drewN HB7.out _).mono HBR.out.size)⟩
        case measure => simp [intOf]; omega
    · have HBR := Lib.hid hbr
      clear hbr
      go_wp2_with fail
      go_ret
      exact ⟨rfl, HB5.out.trans (HBR.out.mono HB5.out.size)⟩
end Go.Proofs.Ytbfjkjkanckcjaa
