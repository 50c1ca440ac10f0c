/- LinearTwice: the walk. -/
import Derived.Test.YtbfjkjkanckcjaaLMer
import Derived.Test.YtbfjkjkanckcjaaBit
import Derived.Deep.DeepCutAuto
namespace Go.Proofs.Ytbfjkjkanckcjaa
open Go.RowKit Go.Shelf

theorem nums_take (rs : List SlI) (k : Nat) : nums (rs.take k) = (nums rs).take k := by simp [nums, List.map_take]
theorem nums_drop (rs : List SlI) (k : Nat) : nums (rs.drop k) = (nums rs).drop k := by simp [nums, List.map_drop]
theorem merge_more (rows : List (List Int)) (p : Nat) : Lin.merge (rows.take p ++ [[]] ++ rows.drop p) = Lin.merge rows := by
  rw [List.append_assoc, List.singleton_append, Lin.merge_nil, List.take_append_drop]
theorem merge_again_more {rows : List (List Int)} {p : Nat} {r : List Int} (h : r ∈ rows) : Lin.merge (rows.take p ++ [[]] ++ rows.drop p ++ [r]) = Lin.merge rows := by
  rw [Lin.merge_again _ r ?_, merge_more]
  have : r ∈ rows.take p ++ rows.drop p := by rw [List.take_append_drop]; exact h
  rcases List.mem_append.1 this with h | h
  · simp [h]
  · simp [h]
theorem weight_short {rows : List (List Int)} (h : ∀ r ∈ rows, r.length ≤ 8) (hl : rows.length ≤ 900) : Lin.weight rows ≤ 1000000 := by
  have h1 := weight_le 8 rows h
  have h2 := Nat.mul_le_mul_right 8 hl
  omega
theorem allOk_take {w : World} {rs : List SlI} (h : AllOk w rs) (k : Nat) : AllOk w (rs.take k) := fun s hs => h s (List.mem_of_mem_take hs)
theorem allOk_drop {w : World} {rs : List SlI} (h : AllOk w rs) (k : Nat) : AllOk w (rs.drop k) := fun s hs => h s (List.mem_of_mem_drop hs)
theorem allOk_append {w : World} {a b : List SlI} (h : AllOk w a) (k : AllOk w b) : AllOk w (a ++ b) := fun s hs => by
  rcases List.mem_append.1 hs with hs | hs
  · exact h s hs
  · exact k s hs

set_option maxRecDepth 100000 in
set_option maxHeartbeats 8000000 in
theorem twice_walk (A : Option Addr) (n c : Nat) (rs : List SlI) (x y : Int) (w : World) (hR : RdR w A n c rs) (hok : AllOk w rs) :
    Calls Try.prog 9 #[.slice A n c, .int .i64 x, .int .i64 y] w fun e w' => e = .returned (.bool true) ∧ Below w.heap.size w w' := by
  have HR := Lib.hid hR
  have HOK := Lib.hid hok
  clear hR hok
  obtain ⟨a, ha, hya⟩ : ∃ a : Nat, a ≤ 65535 ∧ bits BinOp.and IntKind.i64 y 65535 = (a : Int) := and_small y 65535 (by decide)
  obtain ⟨b, hb, hxb⟩ : ∃ b : Nat, b ≤ 65535 ∧ bits BinOp.and IntKind.i64 x 65535 = (b : Int) := and_small x 65535 (by decide)
  go_enter Try.func9, Try.ntmps9
  go_wp2_with fail
  (with_reducible refine (shown_any _).mono ?_)
  rintro e w1 ⟨rfl, hb1⟩
  have HB1 := Lib.hid hb1
  have HC1 := Lib.hid (cut_any A n c rs w1 (HR.out.new hb1) (HOK.out.new hb1))
  clear hb1
  go_wp2_with fail
  (with_reducible refine HC1.out.mono ?_)
  rintro e w2 ⟨v2, o2, rfl, hn2, hu2⟩
  obtain ⟨A2, n2, c2, rfl, hr2, hk2, hl2, hw2, hb2⟩ := hn2.rd hu2
  obtain ⟨m, hm1, hm2, him⟩ : ∃ m : Nat, m ≤ n2 ∧ m ≤ 7 ∧ (if (7 : Int) < (n2 : Int) then (7 : Int) else (n2 : Int)) = (m : Int) := by
    by_cases h : n2 ≤ 7
    · exact ⟨n2, Nat.le_refl _, h, if_neg (by omega)⟩
    · exact ⟨7, by omega, by omega, if_pos (by omega)⟩
  have hnc2 := hr2.2.1
  have hmc : m ≤ c2 := by omega
  have imc : (m : Int) ≤ (c2 : Int) := by omega
  have hc29 := hr2.2.2.1
  have hrm := hr2.lo hm1
  have hkm := allOk_take hk2 m
  have hsh : ∀ r ∈ nums (o2.take m), r.length ≤ 8 := fun r hr => by
    rw [nums_take, hu2] at hr
    exact cutTo_row (List.mem_of_mem_take hr)
  generalize o2.take m = os at *
  have hlo := hrm.1
  have hms := merge_of A2 m c2 os w2 _ rfl hrm hkm (by omega) (weight_short hsh (by rw [nums_length]; omega))
  have HB2 := Lib.hid (HB1.out.trans (hb2.mono HB1.out.size))
  have HRM := Lib.hid hrm
  have HKM := Lib.hid hkm
  have HSH := Lib.hid hsh
  have HMS := Lib.hid hms
  clear hn2 hu2 hr2 hk2 hw2 hb2 hrm hkm hsh hms HC1 HB1 HR HOK
  go_wp2_with fail
  (with_reducible refine HMS.out.mono ?_)
  rintro e W ⟨A3, n3, c3, rfl, hr3, hb3⟩
  have HB3 := Lib.hid (HB2.out.trans (hb3.mono HB2.out.size))
  have HR3 := Lib.hid hr3
  have HRM := Lib.hid (HRM.out.new hb3)
  have HKM := Lib.hid (HKM.out.new hb3)
  clear hr3 hb3 HB2 HMS him
  generalize hgr : Lin.merge (nums os) = r at *
  have HGR := Lib.hid hgr
  clear hgr
  -- where
  obtain ⟨p, hp, hap⟩ : ∃ p : Nat, p ≤ m ∧ (a : Int) % ((m : Int) + 1) = (p : Int) := ⟨a % (m + 1), by have := Nat.mod_lt a (show 0 < m + 1 by omega); omega, by rw [Int.natCast_emod]; rfl⟩
  have hpc : p ≤ c2 := by omega
  have ipc : (p : Int) ≤ (c2 : Int) := by omega
  have ipm : (p : Int) ≤ (m : Int) := by omega
  have h0 := NewR.empty 25 W
  have HP1 := Lib.hid ((HRM.out.lo hp).new h0.bel)
  have H0 := Lib.hid h0
  clear h0
  have hol : (os.take p).length ≤ 7 := by rw [List.length_take]; omega
  have hod : (os.drop p).length ≤ 7 := by rw [List.length_drop]; omega
  have hlast : ∀ A' w', Below W.heap.size W w' → (p < m → A' = A2.map (·.add (p * 1))) → RdR w' A' (m - p) (c2 - p) (os.drop p) := fun A' w' hb hA => (HRM.out.hi hp hA).new hb
  have HLAST := Lib.hid hlast
  clear hlast
  obtain ⟨A7, hA7⟩ : ∃ A7, (if c2 = p then A2 else Option.map (fun x => x.add p) A2) = A7 := ⟨_, rfl⟩
  have HP7 := Lib.hid (HLAST.out A7)
  have hA7' : p < m → A7 = A2.map (·.add (p * 1)) := fun h => by rw [← hA7, if_neg (by omega), Nat.mul_one]
  have HA7 := Lib.hid hA7'
  clear hA7'
  go_upto_region 6 with (fail)
  rw [hap]
  clear hap
  go_upto_region 8 with (first
    | (at_builtin; refine wpList_appendR _ rfl (.tmp 33) (.tmp 36) rfl (.slice (some ⟨W.heap.size, 0, none⟩) 0 0) [] rfl H0.out.own A2 p c2 (os.take p) rfl HP1.out (by simp only [List.length_nil]; omega) ?_; intro v4 w4 hv4 hg4 ha4; have h4 := H0.out.app hv4 hg4 ha4; have hba : Below w4.heap.size w4 ((w4.alloc (.cells #[] 2)).alloc (.cells #[.slice (some ⟨w4.heap.size, 0, none⟩) 0 0] 25)) := (by repeat (first | exact Below.refl _ _ | assumption | refine Below.setCell ?_ (by first | (simp; done) | (simp; omega) | omega) _ | refine below_drewN ?_ _ | refine Below.drew ?_ | refine Below.alloc ?_ (by first | (simp; done) | (simp; omega) | omega) _)); have H4 := Lib.hid (h4.below hba); have HE4 := Lib.hid (show RdR ((w4.alloc (.cells #[] 2)).alloc (.cells #[.slice (some ⟨w4.heap.size, 0, none⟩) 0 0] 25)) (some ⟨w4.heap.size + 1, 0, none⟩) 1 1 [⟨some ⟨w4.heap.size, 0, none⟩, 0, 0, []⟩] from rowR _ 25 _ 1 [⟨some ⟨w4.heap.size, 0, none⟩, 0, 0, []⟩] _ (by simp) rfl rfl (by omega)); have HZ4 := Lib.hid (show RdI ((w4.alloc (.cells #[] 2)).alloc (.cells #[.slice (some ⟨w4.heap.size, 0, none⟩) 0 0] 25)) (some ⟨w4.heap.size, 0, none⟩) 0 0 [] from RdI.nil_ (by omega)); clear hv4 hg4 ha4 h4 hba)
    | (at_builtin; refine wpList_appendR _ rfl (.tmp 37) (.tmp 39) rfl v4 ([] ++ os.take p) rfl H4.out.own (some ⟨w4.heap.size + 1, 0, none⟩) 1 1 [⟨some ⟨w4.heap.size, 0, none⟩, 0, 0, []⟩] rfl HE4.out (by simp only [List.nil_append]; omega) ?_; intro v5 w5 hv5 hg5 ha5; have h5 := H4.out.app hv5 hg5 ha5; have H5 := Lib.hid h5; clear hv5 hg5 ha5 h5)
    | (at_builtin; refine wpList_appendR _ rfl (.tmp 41) (.tmp 44) rfl v5 ([] ++ os.take p ++ [⟨some ⟨w4.heap.size, 0, none⟩, 0, 0, []⟩]) rfl H5.out.own A7 (m - p) (c2 - p) (os.drop p) rfl (HP7.out _ H5.out.bel HA7.out) (by simp only [List.nil_append, List.length_append, List.length_cons, List.length_nil]; omega) ?_; intro v6 w6 hv6 hg6 ha6; have h6 := H5.out.app hv6 hg6 ha6; have H6 := Lib.hid h6; clear hv6 hg6 ha6 h6))
  clear hA7
  have hZ : ∀ w', Below W.heap.size W w' → AllOk w' ([] ++ os.take p ++ [⟨some ⟨w4.heap.size, 0, none⟩, 0, 0, []⟩] ++ os.drop p) := fun w' hb => by
    have hk6 : AllOk w' os := HKM.out.new hb
    refine allOk_append (allOk_append (by simpa using allOk_take hk6 p) (fun s hs => ?_)) (allOk_drop hk6 p)
    rw [List.mem_singleton] at hs
    subst hs
    exact RdI.nil_ (c := 0) (by omega)
  have hnu : nums ([] ++ os.take p ++ [⟨some ⟨w4.heap.size, 0, none⟩, 0, 0, []⟩] ++ os.drop p) = (nums os).take p ++ [[]] ++ (nums os).drop p := by
    simp [nums, List.map_take, List.map_drop]
  have hml : ([] ++ os.take p ++ [(⟨some ⟨w4.heap.size, 0, none⟩, 0, 0, []⟩ : SlI)] ++ os.drop p).length ≤ 15 := by
    simp only [List.nil_append, List.length_append, List.length_cons, List.length_nil]
    omega
  have hsm : ∀ r ∈ (nums os).take p ++ [[]] ++ (nums os).drop p, r.length ≤ 8 := fun r hr => by
    rcases List.mem_append.1 hr with hr | hr
    · rcases List.mem_append.1 hr with hr | hr
      · exact HSH.out r (List.mem_of_mem_take hr)
      · rw [List.mem_singleton] at hr
        subst hr
        simp
    · exact HSH.out r (List.mem_of_mem_drop hr)
  generalize [] ++ os.take p ++ [(⟨some ⟨w4.heap.size, 0, none⟩, 0, 0, []⟩ : SlI)] ++ os.drop p = more at *
  have HZ := Lib.hid hZ
  have HNU := Lib.hid hnu
  have HSM := Lib.hid hsm
  clear hZ hnu hsm HLAST HP7 HA7 HP1
  by_cases hm0 : 0 < m
  · have hqm : b % m < m := Nat.mod_lt b hm0
    obtain ⟨bb, oo, rfl, hbb, hq0⟩ := HRM.out.at_ hqm
    have hqo : b % m < os.length := by rw [hlo]; exact hqm
    have hq6 := (H6.out.bel.cell (p := ⟨bb, oo + b % m, none⟩) hbb).trans hq0
    have hrow := HKM.out os[b % m] (List.getElem_mem hqo)
    have hmem : os[b % m].xs ∈ nums os := List.mem_map.2 ⟨_, List.getElem_mem hqo, rfl⟩
    have i1 : (0 : Int) ≤ (b : Int) % (m : Int) := by omega
    have i2 : (b : Int) % (m : Int) < (m : Int) := by omega
    generalize os[b % m] = s at *
    obtain ⟨As, ns, cs, xs⟩ := s
    have hq6 : w6.cell? ⟨bb, oo + b % m, none⟩ = some (.slice As ns cs) := hq6
    have hmem : xs ∈ nums os := hmem
    have hb7 : Below w6.heap.size w6 (w6.alloc (.cells #[.slice As ns cs] 25)) := (by repeat (first | exact Below.refl _ _ | assumption | refine Below.setCell ?_ (by first | (simp; done) | (simp; omega) | omega) _ | refine below_drewN ?_ _ | refine Below.drew ?_ | refine Below.alloc ?_ (by first | (simp; done) | (simp; omega) | omega) _))
    have H7 := Lib.hid (H6.out.below hb7)
    have HROW := Lib.hid (show RdI W As ns cs xs from hrow)
    have HMEM := Lib.hid hmem
    clear hq0 hrow hmem hb7
    go_wp2_with (at_builtin; refine wpList_appendR _ rfl (.tmp 49) (.tmp 58) rfl v6 more rfl H7.out.own (some ⟨w6.heap.size, 0, none⟩) 1 1 [⟨As, ns, cs, xs⟩] rfl (one_rdR w6 25 ⟨As, ns, cs, xs⟩) (by omega) ?_; intro v7 w7 hv7 hg7 ha7; have h7 := H7.out.app hv7 hg7 ha7; obtain ⟨A8, n8, c8, rfl, hr8, _⟩ := OwnR.rd h7.own; have HR8 := Lib.hid hr8; have HB8 := Lib.hid h7.bel; have HB67 := Lib.hid (show Below w6.heap.size w6 (w6.alloc (.cells #[.slice As ns cs] 25)) from (by repeat (first | exact Below.refl _ _ | assumption | refine Below.setCell ?_ (by first | (simp; done) | (simp; omega) | omega) _ | refine below_drewN ?_ _ | refine Below.drew ?_ | refine Below.alloc ?_ (by first | (simp; done) | (simp; omega) | omega) _))); have HG8 := Lib.hid hg7; clear hv7 hg7 ha7 h7 hr8)
    have hok8 : AllOk w7 (more ++ [⟨As, ns, cs, xs⟩]) := allOk_append (HZ.out w7 HB8.out) fun s hs => by
      rw [List.mem_singleton] at hs
      subst hs
      exact RdI.new HROW.out HB8.out
    have hnu8 : nums (more ++ [⟨As, ns, cs, xs⟩]) = (nums os).take p ++ [[]] ++ (nums os).drop p ++ [xs] := by rw [nums_append, HNU.out]; rfl
    have hsm8 : ∀ r ∈ nums (more ++ [⟨As, ns, cs, xs⟩]), r.length ≤ 8 := fun r hr => by
      rw [hnu8] at hr
      rcases List.mem_append.1 hr with hr | hr
      · exact HSM.out r hr
      · rw [List.mem_singleton] at hr
        subst hr
        exact HSH.out _ HMEM.out
    have hl8 : (more ++ [(⟨As, ns, cs, xs⟩ : SlI)]).length ≤ 16 := by rw [List.length_append]; simp; omega
    have hn8 : n8 ≤ 16 := by rw [← HR8.out.1]; exact hl8
    have hms := merge_of A8 n8 c8 _ w7 _ hnu8 HR8.out hok8 (by omega) (weight_short hsm8 (by rw [nums_length]; omega))
    rw [merge_again_more HMEM.out, HGR.out] at hms
    have HMS := Lib.hid hms
    have HR38 := Lib.hid (HR3.out.new HB8.out)
    have HB9 := Lib.hid (HB3.out.trans (HB8.out.mono HB3.out.size))
    clear hok8 hnu8 hsm8 hl8 hms
    (with_reducible refine HMS.out.mono ?_)
    rintro e w9 ⟨A9, n9, c9, rfl, hr9, hb9⟩
    have HR9 := Lib.hid hr9
    have HR39 := Lib.hid (HR38.out.new hb9)
    have HB10 := Lib.hid (HB9.out.trans (hb9.mono HB9.out.size))
    clear hr9 hb9 HMS
    go_wp2_with fail
    (with_reducible refine (same_is _ _ _ _ _ _ _ _ _ true HR39.out HR9.out (sameI_self _)).mono ?_)
    rintro e w10 ⟨rfl, q2, rfl⟩
    go_wp2_with fail
    go_ret
    exact ⟨rfl, below_drewN HB10.out _⟩
  · obtain ⟨A8, n8, c8, rfl, hr8, _⟩ := OwnR.rd H6.out.own
    have hn8 : n8 ≤ 15 := by rw [← hr8.1]; exact hml
    have hms := merge_of A8 n8 c8 _ w6 _ HNU.out hr8 (HZ.out w6 H6.out.bel) (by omega) (weight_short (by rw [HNU.out]; exact HSM.out) (by rw [nums_length]; omega))
    rw [merge_more, HGR.out] at hms
    have HMS := Lib.hid hms
    have HR38 := Lib.hid (HR3.out.new H6.out.bel)
    have HB9 := Lib.hid (HB3.out.trans (H6.out.bel.mono HB3.out.size))
    clear hr8 hms
    go_wp2_with fail
    (with_reducible refine HMS.out.mono ?_)
    rintro e w9 ⟨A9, n9, c9, rfl, hr9, hb9⟩
    have HR9 := Lib.hid hr9
    have HR39 := Lib.hid (HR38.out.new hb9)
    have HB10 := Lib.hid (HB9.out.trans (hb9.mono HB9.out.size))
    clear hr9 hb9 HMS
    go_wp2_with fail
    (with_reducible refine (same_is _ _ _ _ _ _ _ _ _ true HR39.out HR9.out (sameI_self _)).mono ?_)
    rintro e w10 ⟨rfl, q2, rfl⟩
    go_wp2_with fail
    go_ret
    exact ⟨rfl, below_drewN HB10.out _⟩
end Go.Proofs.Ytbfjkjkanckcjaa
