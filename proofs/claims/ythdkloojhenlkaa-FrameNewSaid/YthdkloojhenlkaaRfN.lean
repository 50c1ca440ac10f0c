/- The reference's New. -/
import Derived.Test.YthdkloojhenlkaaRfI
import Derived.Test.YthdkloojhenlkaaOrd
import Derived.BigQuiet
import Derived.Deep.QuietTactic
namespace Go.Proofs.Ythdkloojhenlkaa
open Go.RowKit
attribute [local go_sem high] guardV eqV neqV
attribute [local go_sem] V.v

/-- a new frame of the reference, told from w on -/
def MadeR (w : World) (n : Nat) (F : Fr) (v : Value) (wx : World) : Prop :=
  ∃ g bl bb C, v = .pointer (some ⟨g, 0, none⟩) ∧ FrAt 82 86 wx g F (.slice (some ⟨bl, 0, none⟩) n n) (.slice (some ⟨bb, 0, none⟩) n n) C (.slice none 0 0) (.slice none 0 0) ∧
    (∀ i, foot g (.slice (some ⟨bl, 0, none⟩) n n) (.slice (some ⟨bb, 0, none⟩) n n) C (.slice none 0 0) (.slice none 0 0) i → w.heap.size ≤ i) ∧ Below w.heap.size w wx
theorem madeR_of {W wz : World} {n k g bl bb : Nat} {C : Value} {ys : List V} (hg : g = wz.heap.size) (hB : Below W.heap.size W wz) (hl : Blk wz bl 44 (zV n)) (hb : Blk wz bb 4 (zB n)) (hc : OwnV wz C ys)
    (hbl : W.heap.size ≤ bl) (hbb : W.heap.size ≤ bb) (hC : ∀ i, C.ownBlock = some i → W.heap.size ≤ i ∧ i ≠ bl) (hn : n ≤ 1000000) :
    MadeR W n (Fr.start k n ys) (.pointer (some ⟨g, 0, none⟩)) (wz.alloc (.cells #[.int .i64 k, .int .i64 0, .slice (some ⟨bl, 0, none⟩) n n, .slice (some ⟨bb, 0, none⟩) n n, C, .int .i64 0, .int .i64 0, .string ⟨#[]⟩, .slice none 0 0, .slice none 0 0, .int .i64 0, .int .i64 0, .int .i64 0, .string ⟨#[]⟩, .int .i64 (-1)] 82)) := by
  subst hg
  have hs := hB.size
  have hnew : Below wz.heap.size wz (wz.alloc (.cells #[.int .i64 k, .int .i64 0, .slice (some ⟨bl, 0, none⟩) n n, .slice (some ⟨bb, 0, none⟩) n n, C, .int .i64 0, .int .i64 0, .string ⟨#[]⟩, .slice none 0 0, .slice none 0 0, .int .i64 0, .int .i64 0, .int .i64 0, .string ⟨#[]⟩, .int .i64 (-1)] 82)) := (by repeat (first | exact Below.refl _ _ | assumption | refine Below.setCell ?_ (by first | (simp; done) | (simp; omega) | omega) _ | refine below_drewN ?_ _ | refine Below.drew ?_ | refine Below.alloc ?_ (by first | (simp; done) | (simp; omega) | omega) _))
  refine ⟨_, bl, bb, C, rfl, ⟨Blk.new wz 82 _, zV_own (hl.below hnew hl.lt) hn, zB_own (hb.below hnew hb.lt) hn, Own.new hc hnew, OwnV.nil_ _, Own.nil_ _ _ _, ?_, ?_, ?_⟩, ?_, ?_⟩
  · intro i e e'
    simp only [Value.ownBlock, Option.some.injEq] at e
    exact (hC i e').2 e.symm
  · intro i _ e'
    cases e'
  · intro i _ e'
    cases e'
  · intro i hi
    rcases hi with rfl | e | e | e | e | e
    · exact hs
    · simp only [Value.ownBlock, Option.some.injEq] at e
      omega
    · simp only [Value.ownBlock, Option.some.injEq] at e
      omega
    · exact (hC i e).1
    · cases e
    · cases e
  · exact hB.alloc hs _
/-- locals behind j rounds of the reference -/
def rlocTo (LL CC : List ByteArray) (xs : List V) (n j : Nat) : List V := (List.range n).map fun i => if decide (i < j) && !hasS CC (LL.getD i ⟨#[]⟩) then xs.getD i V.zero else V.zero
def Fr.rat (k : Nat) (LL CC : List ByteArray) (xs ys : List V) (n j : Nat) : Fr := ⟨k, 0, rlocTo LL CC xs n j, bndTo LL CC n j, ys, V.zero, [], [], 0, V.zero, -1⟩
def RNewIs (w : World) (F : Fr) (e : Ending) (w' : World) : Prop := ∃ g, e = .returned (.tuple #[.pointer (some ⟨g, 0, none⟩), .bool true]) ∧ IsFr 82 86 w' (Grew (fun _ => False) w w') g F ∧ Below w.heap.size w w'
theorem rlocTo_length (LL CC : List ByteArray) (xs : List V) (n j : Nat) : (rlocTo LL CC xs n j).length = n := by simp [rlocTo]
theorem rlocTo_zero (LL CC : List ByteArray) (xs : List V) (n : Nat) : rlocTo LL CC xs n 0 = List.replicate n V.zero := by
  apply List.ext_getElem <;> simp [rlocTo]
theorem rlocTo_in (LL CC : List ByteArray) (xs : List V) (n j : Nat) (h : hasS CC (LL.getD j ⟨#[]⟩) = true) : rlocTo LL CC xs n j = rlocTo LL CC xs n (j + 1) := by
  unfold rlocTo
  apply List.map_congr_left
  intro i _
  by_cases e : i = j
  · subst e
    simp only [h, Bool.not_true, Bool.and_false]
  · have : decide (i < j) = decide (i < j + 1) := by rw [decide_eq_decide]; omega
    rw [this]
theorem rlocTo_out (LL CC : List ByteArray) (xs : List V) (n j : Nat) (h : hasS CC (LL.getD j ⟨#[]⟩) = false) : (rlocTo LL CC xs n j).set j (xs.getD j V.zero) = rlocTo LL CC xs n (j + 1) := by
  apply List.ext_getElem
  · simp [rlocTo]
  · intro i h1 h2
    rw [List.getElem_set]
    simp only [rlocTo, List.getElem_map, List.getElem_range]
    by_cases e : j = i
    · subst e
      simp only [if_true, h, Bool.not_false, Nat.lt_succ_self, decide_true, Bool.and_self]
    · rw [if_neg e]
      have : decide (i < j) = decide (i < j + 1) := by rw [decide_eq_decide]; omega
      rw [this]
theorem rlocTo_end (LL CC : List ByteArray) (xs : List V) (n : Nat) : rlocTo LL CC xs n xs.length = locTo LL CC xs n xs.length := by
  unfold rlocTo locTo
  apply List.map_congr_left
  intro i _
  by_cases e : i < xs.length
  · cases hasS CC (LL.getD i ⟨#[]⟩) <;> simp [e]
  · have : xs.getD i V.zero = V.zero := by rw [List.getD_eq_getElem?_getD, List.getElem?_eq_none (by omega)]; rfl
    rw [this]
    simp
theorem Blk.grown_ {w w' : World} {row : Option Nat} {t : TypeId} {cs : Array Value} {g : Nat} (h : Blk w g t cs) (hb : w.grownBy w' row) (hg : row ≠ some g) : Blk w' g t cs := h.grown hb (Ne.symm hg)

set_option maxRecDepth 100000 in
set_option maxHeartbeats 1000000 in
/-- a number that is no code's -/
theorem rnew_out (Ap : Option Addr) (np cp : Nat) (k : Int) (A : Option Addr) (m c : Nat) (A' : Option Addr) (m' c' : Nat) (w : World) (hk : k < 0 ∨ (np : Int) ≤ k) :
    Calls Try.prog 17 #[.slice Ap np cp, .int .i64 k, .slice A m c, .slice A' m' c'] w (NoFrame w) := by
  rcases hk with hk | hk
  · have hd : decide (k < 0) = true := by simpa using hk
    go_enter Try.func17, Try.ntmps17
    go_wp2
    go_ret2
    exact ⟨rfl, Below.refl _ _⟩
  · by_cases h0 : k < 0
    · have hd : decide (k < 0) = true := by simpa using h0
      go_enter Try.func17, Try.ntmps17
      go_wp2
      go_ret2
      exact ⟨rfl, Below.refl _ _⟩
    · have hd : decide (k < 0) = false := by simpa using h0
      go_enter Try.func17, Try.ntmps17
      go_wp2
      go_ret2
      exact ⟨rfl, Below.refl _ _⟩

set_option maxRecDepth 100000 in
set_option maxHeartbeats 1000000 in
/-- arguments or cells that do not fit -/
theorem rnew_no (Ap : Option Addr) (np cp k : Nat) (params : Int) (LL CC : List ByteArray) (nf : Nat) (A : Option Addr) (m c : Nat) (A' : Option Addr) (m' c' : Nat) (w : World)
    (hk : k < np) (hC : CodeAt w Ap k params LL CC nf) (hCl : CC.length + nf ≤ 1000000) (hno : ¬ ((m : Int) = params ∧ m ≤ LL.length ∧ m' = CC.length + nf)) :
    Calls Try.prog 17 #[.slice Ap np cp, .int .i64 k, .slice A m c, .slice A' m' c'] w (NoFrame w) := by
  obtain ⟨b, o, s0, k1, k3, b4, AL, nL, cL, AC, nC, cC, AF, cF, A8, n8, c8, A9, n9, c9, A10, n10, c10, rfl, hb, q0, q1, q2, q3, q4, q5, q6, q7, q8, q9, q10, hRL, hRC⟩ := hC
  have hnC : nC + nf ≤ 1000000 := by rw [← hRC.1]; exact hCl
  rw [hRL.1, hRC.1] at hno
  clear hRL hRC hCl
  by_cases h1 : (m : Int) = params
  · subst h1
    have e1 : ((m : Int) != (m : Int)) = false := by simp
    by_cases h2 : m ≤ nL
    · have h3 : m' ≠ nC + nf := fun h => hno ⟨rfl, h2, h⟩
      have e2 : ((m' : Int) != ((nC : Int) + (nf : Int))) = true := by rw [bne_iff_ne]; omega
      have e3 : decide (nL < m) = false := by simpa using h2
      clear hno
      go_enter Try.func17, Try.ntmps17
      go_wp2
      go_ret2
      exact ⟨rfl, (by repeat (first | exact Below.refl _ _ | assumption | refine Below.setCell ?_ (by first | (simp; done) | (simp; omega) | omega) _ | refine below_drewN ?_ _ | refine Below.drew ?_ | refine Below.alloc ?_ (by first | (simp; done) | (simp; omega) | omega) _))⟩
    · have e3 : decide (nL < m) = true := by simpa using h2
      clear hno
      go_enter Try.func17, Try.ntmps17
      go_wp2
      go_ret2
      exact ⟨rfl, (by repeat (first | exact Below.refl _ _ | assumption | refine Below.setCell ?_ (by first | (simp; done) | (simp; omega) | omega) _ | refine below_drewN ?_ _ | refine Below.drew ?_ | refine Below.alloc ?_ (by first | (simp; done) | (simp; omega) | omega) _))⟩
  · have e1 : ((m : Int) != params) = true := by rw [bne_iff_ne]; exact h1
    clear hno
    go_enter Try.func17, Try.ntmps17
    go_wp2
    go_ret2
    exact ⟨rfl, (by repeat (first | exact Below.refl _ _ | assumption | refine Below.setCell ?_ (by first | (simp; done) | (simp; omega) | omega) _ | refine below_drewN ?_ _ | refine Below.drew ?_ | refine Below.alloc ?_ (by first | (simp; done) | (simp; omega) | omega) _))⟩
set_option maxRecDepth 100000 in
set_option maxHeartbeats 4000000 in
theorem rnew_yes (Ap : Option Addr) (np cp k : Nat) (LL CC : List ByteArray) (nf : Nat) (A : Option Addr) (m c : Nat) (xs : List V) (A' : Option Addr) (m' c' : Nat) (ys : List V) (w : World)
    (hk : k < np) (_hnp : np ≤ 9223372036854775807) (hC : CodeAt w Ap k m LL CC nf) (hx : RdV w A m c xs) (hy : RdV w A' m' c' ys) (hm : m ≤ LL.length) (hm' : m' = CC.length + nf) (hL : LL.length ≤ 1000000) (hCl : CC.length + nf ≤ 1000000) :
    Calls Try.prog 17 #[.slice Ap np cp, .int .i64 k, .slice A m c, .slice A' m' c'] w (RNewIs w (Fr.new k LL CC xs ys)) := by
  obtain ⟨b, o, s0, k1, k3, b4, AL, nL, cL, AC, nC, cC, AF, cF, A8, n8, c8, A9, n9, c9, A10, n10, c10, rfl, hb, q0, q1, q2, q3, q4, q5, q6, q7, q8, q9, q10, hRL, hRC⟩ := hC
  have mV := make_V nL (by rw [← hRL.1]; omega)
  have mB := make_B nL (by rw [← hRL.1]; omega)
  have hmL : m ≤ nL := by rw [← hRL.1]; exact hm
  have hmC : m' = nC + nf := by rw [← hRC.1]; exact hm'
  have hnL : nL ≤ 1000000 := by rw [← hRL.1]; exact hL
  have hnC : nC + nf ≤ 1000000 := by rw [← hRC.1]; exact hCl
  have e1 : ((m : Int) != (m : Int)) = false := by simp
  have e2 : ((m' : Int) != ((nC : Int) + (nf : Int))) = false := by rw [bne_eq_false_iff_eq]; omega
  have e3 : decide (nL < m) = false := by simpa using hmL
  have hm2 : m' ≤ 1000000 := by omega
  clear hm hm' hL hCl hmC
  go_enter Try.func17, Try.ntmps17
  go_upto_region 6 with fail
  generalize hW : w.alloc (Obj.cells #[Value.string s0, Value.int IntKind.i64 k1, Value.int IntKind.i64 ↑m, Value.int IntKind.i64 k3, Value.bool b4,
      Value.slice AL nL cL, Value.slice AC nC cC, Value.slice AF nf cF, Value.slice A8 n8 c8, Value.slice A9 n9 c9, Value.slice A10 n10 c10] 31) = W
  have hBW : Below w.heap.size w W := by rw [← hW]; exact (by repeat (first | exact Below.refl _ _ | assumption | refine Below.setCell ?_ (by first | (simp; done) | (simp; omega) | omega) _ | refine below_drewN ?_ _ | refine Below.drew ?_ | refine Below.alloc ?_ (by first | (simp; done) | (simp; omega) | omega) _))
  have hzW : W.heap.size = w.heap.size + 1 := by rw [← hW]; simp
  have hcode : Blk W w.heap.size 31 #[Value.string s0, Value.int IntKind.i64 k1, Value.int IntKind.i64 ↑m, Value.int IntKind.i64 k3, Value.bool b4,
      Value.slice AL nL cL, Value.slice AC nC cC, Value.slice AF nf cF, Value.slice A8 n8 c8, Value.slice A9 n9 c9, Value.slice A10 n10 c10] := by rw [← hW]; exact Blk.new w 31 _
  have hxW := hx.new hBW
  have hyW := hy.new hBW
  have HRL := Lib.hid (hRL.new hBW)
  have HRC := Lib.hid (hRC.new hBW)
  have HZW := Lib.hid hzW
  clear hzW hW q0 q1 q2 q3 q4 q5 q6 q7 q8 q9 q10 hRL hRC hx hy e1 e2 e3
  go_cut [11] (fun s11 wx => MadeR W nL (Fr.start k nL ys) s11 wx)
  case first =>
    have hlt0 := hcode.lt
    have hall : ∀ w', Below W.heap.size W w' → (fun w' => w'.cell? ⟨w.heap.size, 5, none⟩ = some (.slice AL nL cL)) w' := fun w' hb => (hb.cell (p := ⟨w.heap.size, 5, none⟩) hlt0).trans (hcode.cell 5)
    have HALL := Lib.hid hall
    have HYW := Lib.hid hyW
    clear hall hxW hcode HRL HRC HZW hyW
    refine wp_region_noPanic ?_
    refine wp_region_held_drew (S := fun w' => w'.cell? ⟨w.heap.size, 5, none⟩ = some (.slice AL nL cL)) (by kernel_rfl) (HALL.out W (Below.refl _ _)) (fun hHeld => ?_)
    have HB : Below W.heap.size W W.drew := (Below.refl _ _).drew
    generalize W.drew = Wd at HB hHeld ⊢
    refine wpAnyH_take (i := 0) (v := ?_) (by rw [List.getElem?_toArray]; rfl) (by kernel_rfl) (by kernel_rfl) (by kernel_rfl) (fun _ _ _ h => h) (Or.inl ⟨by rfl, ?_⟩) (by assumption) ?_
    rotate_left 1
    · (intro w_ hSw; (try dsimp only at hSw); go_simp; try with_reducible rfl)
    try simp only [Act.put, List.setIfInBounds_toArray, List.set_cons_zero, List.set_cons_succ]
    refine wpAnyH_take (i := 1) (v := ?_) (by rw [List.getElem?_toArray]; rfl) (by kernel_rfl) (by kernel_rfl) (by kernel_rfl) (fun _ _ _ h => h) (Or.inl ⟨by rfl, ?_⟩) (by assumption) ?_
    rotate_left 1
    · (intro w_ hSw; (try dsimp only at hSw); go_simp; try with_reducible rfl)
    try simp only [Act.put, List.setIfInBounds_toArray, List.set_cons_zero, List.set_cons_succ]
    refine wpAnyH_take (i := 2) (v := ?_) (by rw [List.getElem?_toArray]; rfl) (by kernel_rfl) (by kernel_rfl) (by kernel_rfl) (fun _ _ _ h => h) (Or.inl ⟨by rfl, ?_⟩) (by assumption) ?_
    rotate_left 1
    · (intro w_ hSw; (try dsimp only at hSw); go_simp; try with_reducible rfl)
    try simp only [Act.put, List.setIfInBounds_toArray, List.set_cons_zero, List.set_cons_succ]
    refine wpAnyH_take (i := 3) (v := ?_) (by rw [List.getElem?_toArray]; rfl) (by kernel_rfl) (by kernel_rfl) (by kernel_rfl) (fun _ _ _ h => h) (Or.inl ⟨by rfl, ?_⟩) (by assumption) ?_
    rotate_left 1
    · (intro w_ hSw; (try dsimp only at hSw); go_simp; try with_reducible rfl)
    try simp only [Act.put, List.setIfInBounds_toArray, List.set_cons_zero, List.set_cons_succ]
    refine wpAnyH_take (i := 5) (v := ?_) (by rw [List.getElem?_toArray]; rfl) (by kernel_rfl) (by kernel_rfl) (by kernel_rfl) (fun _ _ _ h => h) (Or.inl ⟨by rfl, ?_⟩) (by assumption) ?_
    rotate_left 1
    · (intro w_ hSw; (try dsimp only at hSw); go_simp; try with_reducible rfl)
    try simp only [Act.put, List.setIfInBounds_toArray, List.set_cons_zero, List.set_cons_succ]
    refine wpAnyH_take (i := 6) (v := ?_) (by rw [List.getElem?_toArray]; rfl) (by kernel_rfl) (by kernel_rfl) (by kernel_rfl) (fun _ _ _ h => h) (Or.inl ⟨by rfl, ?_⟩) (by assumption) ?_
    rotate_left 1
    · (intro w_ hSw; (try dsimp only at hSw); go_simp; try with_reducible rfl)
    try simp only [Act.put, List.setIfInBounds_toArray, List.set_cons_zero, List.set_cons_succ]
    refine wpAnyH_take (i := 7) (v := ?_) (by rw [List.getElem?_toArray]; rfl) (by kernel_rfl) (by kernel_rfl) (by kernel_rfl) (fun _ _ _ h => h) (Or.inl ⟨by rfl, ?_⟩) (by assumption) ?_
    rotate_left 1
    · (intro w_ hSw; (try dsimp only at hSw); go_simp; try with_reducible rfl)
    try simp only [Act.put, List.setIfInBounds_toArray, List.set_cons_zero, List.set_cons_succ]
    refine wpAnyH_take (i := 10) (v := ?_) (by rw [List.getElem?_toArray]; rfl) (by kernel_rfl) (by kernel_rfl) (by kernel_rfl) (fun _ _ _ h => h) (Or.inl ⟨by rfl, ?_⟩) (by assumption) ?_
    rotate_left 1
    · (intro w_ hSw; (try dsimp only at hSw); go_simp; try with_reducible rfl)
    try simp only [Act.put, List.setIfInBounds_toArray, List.set_cons_zero, List.set_cons_succ]
    refine wpAnyH_ready (rs := [4, 8, 9]) (by kernel_rfl) (by simp) ?_
    refine AllReadyH.cons (by rw [List.getElem?_toArray]; rfl) (fun K hK => ?_) ?_
    · skip
      go_simp
      refine hK.out _ _ (HALL.out _ (HB.alloc HB.size (.cells (zV nL) 44))) (fun hHeld => ?_)
      clear hK K
      try simp only [Act.put, List.setIfInBounds_toArray, List.set_cons_zero, List.set_cons_succ]
      have Bbl : Blk (Wd.alloc (.cells (zV nL) 44)) Wd.heap.size 44 (zV nL) := Blk.new Wd 44 _
      have HB1 := HB.alloc HB.size (.cells (zV nL) 44)
      have Nbl : W.heap.size ≤ Wd.heap.size := HB.size
      clear HB
      have HB := HB1
      clear HB1
      generalize Wd.heap.size = bl at *
      generalize Wd.alloc (.cells (zV nL) 44) = u1 at *
      refine wpAnyH_ready (rs := [8, 9]) (by kernel_rfl) (by simp) ?_
      refine AllReadyH.cons (by rw [List.getElem?_toArray]; rfl) (fun K hK => ?_) ?_
      · skip
        go_simp
        refine hK.out _ _ (HALL.out _ (HB.alloc HB.size (.cells (zB nL) 4))) (fun hHeld => ?_)
        clear hK K
        try simp only [Act.put, List.setIfInBounds_toArray, List.set_cons_zero, List.set_cons_succ]
        have Bbb : Blk (u1.alloc (.cells (zB nL) 4)) u1.heap.size 4 (zB nL) := Blk.new u1 4 _
        have HB2 := HB.alloc HB.size (.cells (zB nL) 4)
        have Nbb : W.heap.size ≤ u1.heap.size := HB.size
        have ne_bl_bb : bl ≠ u1.heap.size := Nat.ne_of_lt Bbl.lt
        replace Bbl := Bbl.alloc (.cells (zB nL) 4)
        clear HB
        have HB := HB2
        clear HB2
        generalize u1.heap.size = bb at *
        generalize u1.alloc (.cells (zB nL) 4) = u2 at *
        refine wpAnyH_ready (rs := [9]) (by kernel_rfl) (by simp) ?_
        refine AllReadyH.cons (by rw [List.getElem?_toArray]; rfl) (fun K hK => ?_) AllReadyH.nil
        go_simp
        refine hK.out _ _ (HALL.out _ (HB.alloc HB.size (.cells (#[]) 44))) (fun hHeld => ?_)
        clear hK K
        try simp only [Act.put, List.setIfInBounds_toArray, List.set_cons_zero, List.set_cons_succ]
        have Bbe : Blk (u2.alloc (.cells (#[]) 44)) u2.heap.size 44 (#[]) := Blk.new u2 44 _
        have HB3 := HB.alloc HB.size (.cells (#[]) 44)
        have Nbe : W.heap.size ≤ u2.heap.size := HB.size
        have ne_bl_be : bl ≠ u2.heap.size := Nat.ne_of_lt Bbl.lt
        replace Bbl := Bbl.alloc (.cells (#[]) 44)
        have ne_bb_be : bb ≠ u2.heap.size := Nat.ne_of_lt Bbb.lt
        replace Bbb := Bbb.alloc (.cells (#[]) 44)
        clear HB
        have HB := HB3
        clear HB3
        generalize u2.heap.size = be at *
        generalize u2.alloc (.cells (#[]) 44) = u3 at *
        refine wpAnyH_ready (rs := [11]) (by kernel_rfl) (by simp) ?_
        refine AllReadyH.cons (by rw [List.getElem?_toArray]; rfl) (fun K hK => ?_) AllReadyH.nil
        have OE : OwnV u3 (.slice (some ⟨be, 0, none⟩) 0 0) [] := ⟨rfl, .inr ⟨be, 0, #[], rfl, Bbe, Nat.le_refl _, by omega, by simp, rfl⟩⟩
        refine step_appendV _ (by rfl) (.tmp 59) (.tmp 60) rfl (.slice (some ⟨be, 0, none⟩) 0 0) [] rfl OE A' m' c' ys rfl (HYW.out.new HB) (by simp; omega) ?_
        intro v1 u4 OV0 hg1 ha1
        have OV : OwnV u4 v1 ys := by simpa using OV0
        have HBn := HB.grown hg1 HB.size (fun q e => by cases e; exact Nbe)
        have nv_be : ∀ i, v1.ownBlock = some i → W.heap.size ≤ i := by
          intro i e
          rcases ha1 with h | h <;> rw [h] at e
          · cases e; exact Nbe
          · cases e; exact HB.size
        have nv_bl : ∀ i, v1.ownBlock = some i → i ≠ bl := by
          intro i e
          rcases ha1 with h | h <;> rw [h] at e
          · rintro rfl; exact absurd e (fun e => by cases e; exact ne_bl_be rfl)
          · cases e; exact Ne.symm (Nat.ne_of_lt Bbl.lt)
        replace Bbl := Bbl.grown_ hg1 (fun e => by cases e; exact ne_bl_be rfl)
        have nv_bb : ∀ i, v1.ownBlock = some i → i ≠ bb := by
          intro i e
          rcases ha1 with h | h <;> rw [h] at e
          · rintro rfl; exact absurd e (fun e => by cases e; exact ne_bb_be rfl)
          · cases e; exact Ne.symm (Nat.ne_of_lt Bbb.lt)
        replace Bbb := Bbb.grown_ hg1 (fun e => by cases e; exact ne_bb_be rfl)
        clear OV0 hg1 ha1 OE Bbe HB
        have HB := HBn
        clear HBn
        obtain ⟨Ac, nc, cc, rfl, _⟩ := OwnV.rd OV
        refine hK.out _ _ (HALL.out _ HB) (fun hHeld => ?_)
        clear hK K
        try simp only [Act.put, List.setIfInBounds_toArray, List.set_cons_zero, List.set_cons_succ]
        refine wpAnyH_ready (rs := [12]) (by kernel_rfl) (by simp) ?_
        refine AllReadyH.cons (by rw [List.getElem?_toArray]; rfl) (fun K hK => ?_) AllReadyH.nil
        go_simp
        refine hK.out _ _ (HALL.out _ HB) (fun hHeld => ?_)
        clear hK K
        try simp only [Act.put, List.setIfInBounds_toArray, List.set_cons_zero, List.set_cons_succ]
        refine wpAnyH_ready (rs := [13]) (by kernel_rfl) (by simp) ?_
        refine AllReadyH.cons (by rw [List.getElem?_toArray]; rfl) (fun K hK => ?_) AllReadyH.nil
        go_simp
        refine hK.out _ _ (HALL.out _ (HB.alloc HB.size _)) (fun hHeld => ?_)
        clear hK K
        try simp only [Act.put, List.setIfInBounds_toArray, List.set_cons_zero, List.set_cons_succ]
        refine wpAnyH_ready (rs := [14]) (by kernel_rfl) (by simp) ?_
        refine AllReadyH.cons (by rw [List.getElem?_toArray]; rfl) (fun K hK => ?_) AllReadyH.nil
        go_simp
        refine hK.out _ _ hHeld (fun hHeld => ?_)
        clear hK K
        try simp only [Act.put, List.setIfInBounds_toArray, List.set_cons_zero, List.set_cons_succ]
        refine wpAnyH_done (by kernel_rfl) ?_ _
        refine NoPanic.normal ?_
        go_wp2_with fail
        go_meet
        exact madeR_of rfl HB Bbl Bbb OV Nbl Nbb (fun i e => ⟨nv_be i e, nv_bl i e⟩) hnL
      refine AllReadyH.cons (by rw [List.getElem?_toArray]; rfl) (fun K hK => ?_) ?_
      · skip
        go_simp
        refine hK.out _ _ (HALL.out _ (HB.alloc HB.size (.cells (#[]) 44))) (fun hHeld => ?_)
        clear hK K
        try simp only [Act.put, List.setIfInBounds_toArray, List.set_cons_zero, List.set_cons_succ]
        have Bbe : Blk (u1.alloc (.cells (#[]) 44)) u1.heap.size 44 (#[]) := Blk.new u1 44 _
        have HB2 := HB.alloc HB.size (.cells (#[]) 44)
        have Nbe : W.heap.size ≤ u1.heap.size := HB.size
        have ne_bl_be : bl ≠ u1.heap.size := Nat.ne_of_lt Bbl.lt
        replace Bbl := Bbl.alloc (.cells (#[]) 44)
        clear HB
        have HB := HB2
        clear HB2
        generalize u1.heap.size = be at *
        generalize u1.alloc (.cells (#[]) 44) = u2 at *
        refine wpAnyH_ready (rs := [8, 11]) (by kernel_rfl) (by simp) ?_
        refine AllReadyH.cons (by rw [List.getElem?_toArray]; rfl) (fun K hK => ?_) ?_
        · skip
          go_simp
          refine hK.out _ _ (HALL.out _ (HB.alloc HB.size (.cells (zB nL) 4))) (fun hHeld => ?_)
          clear hK K
          try simp only [Act.put, List.setIfInBounds_toArray, List.set_cons_zero, List.set_cons_succ]
          have Bbb : Blk (u2.alloc (.cells (zB nL) 4)) u2.heap.size 4 (zB nL) := Blk.new u2 4 _
          have HB3 := HB.alloc HB.size (.cells (zB nL) 4)
          have Nbb : W.heap.size ≤ u2.heap.size := HB.size
          have ne_bl_bb : bl ≠ u2.heap.size := Nat.ne_of_lt Bbl.lt
          replace Bbl := Bbl.alloc (.cells (zB nL) 4)
          have ne_be_bb : be ≠ u2.heap.size := Nat.ne_of_lt Bbe.lt
          replace Bbe := Bbe.alloc (.cells (zB nL) 4)
          clear HB
          have HB := HB3
          clear HB3
          generalize u2.heap.size = bb at *
          generalize u2.alloc (.cells (zB nL) 4) = u3 at *
          refine wpAnyH_ready (rs := [11]) (by kernel_rfl) (by simp) ?_
          refine AllReadyH.cons (by rw [List.getElem?_toArray]; rfl) (fun K hK => ?_) AllReadyH.nil
          have OE : OwnV u3 (.slice (some ⟨be, 0, none⟩) 0 0) [] := ⟨rfl, .inr ⟨be, 0, #[], rfl, Bbe, Nat.le_refl _, by omega, by simp, rfl⟩⟩
          refine step_appendV _ (by rfl) (.tmp 59) (.tmp 60) rfl (.slice (some ⟨be, 0, none⟩) 0 0) [] rfl OE A' m' c' ys rfl (HYW.out.new HB) (by simp; omega) ?_
          intro v1 u4 OV0 hg1 ha1
          have OV : OwnV u4 v1 ys := by simpa using OV0
          have HBn := HB.grown hg1 HB.size (fun q e => by cases e; exact Nbe)
          have nv_be : ∀ i, v1.ownBlock = some i → W.heap.size ≤ i := by
            intro i e
            rcases ha1 with h | h <;> rw [h] at e
            · cases e; exact Nbe
            · cases e; exact HB.size
          have nv_bl : ∀ i, v1.ownBlock = some i → i ≠ bl := by
            intro i e
            rcases ha1 with h | h <;> rw [h] at e
            · rintro rfl; exact absurd e (fun e => by cases e; exact ne_bl_be rfl)
            · cases e; exact Ne.symm (Nat.ne_of_lt Bbl.lt)
          replace Bbl := Bbl.grown_ hg1 (fun e => by cases e; exact ne_bl_be rfl)
          have nv_bb : ∀ i, v1.ownBlock = some i → i ≠ bb := by
            intro i e
            rcases ha1 with h | h <;> rw [h] at e
            · rintro rfl; exact absurd e (fun e => by cases e; exact ne_be_bb rfl)
            · cases e; exact Ne.symm (Nat.ne_of_lt Bbb.lt)
          replace Bbb := Bbb.grown_ hg1 (fun e => by cases e; exact ne_be_bb rfl)
          clear OV0 hg1 ha1 OE Bbe HB
          have HB := HBn
          clear HBn
          obtain ⟨Ac, nc, cc, rfl, _⟩ := OwnV.rd OV
          refine hK.out _ _ (HALL.out _ HB) (fun hHeld => ?_)
          clear hK K
          try simp only [Act.put, List.setIfInBounds_toArray, List.set_cons_zero, List.set_cons_succ]
          refine wpAnyH_ready (rs := [12]) (by kernel_rfl) (by simp) ?_
          refine AllReadyH.cons (by rw [List.getElem?_toArray]; rfl) (fun K hK => ?_) AllReadyH.nil
          go_simp
          refine hK.out _ _ (HALL.out _ HB) (fun hHeld => ?_)
          clear hK K
          try simp only [Act.put, List.setIfInBounds_toArray, List.set_cons_zero, List.set_cons_succ]
          refine wpAnyH_ready (rs := [13]) (by kernel_rfl) (by simp) ?_
          refine AllReadyH.cons (by rw [List.getElem?_toArray]; rfl) (fun K hK => ?_) AllReadyH.nil
          go_simp
          refine hK.out _ _ (HALL.out _ (HB.alloc HB.size _)) (fun hHeld => ?_)
          clear hK K
          try simp only [Act.put, List.setIfInBounds_toArray, List.set_cons_zero, List.set_cons_succ]
          refine wpAnyH_ready (rs := [14]) (by kernel_rfl) (by simp) ?_
          refine AllReadyH.cons (by rw [List.getElem?_toArray]; rfl) (fun K hK => ?_) AllReadyH.nil
          go_simp
          refine hK.out _ _ hHeld (fun hHeld => ?_)
          clear hK K
          try simp only [Act.put, List.setIfInBounds_toArray, List.set_cons_zero, List.set_cons_succ]
          refine wpAnyH_done (by kernel_rfl) ?_ _
          refine NoPanic.normal ?_
          go_wp2_with fail
          go_meet
          exact madeR_of rfl HB Bbl Bbb OV Nbl Nbb (fun i e => ⟨nv_be i e, nv_bl i e⟩) hnL
        refine AllReadyH.cons (by rw [List.getElem?_toArray]; rfl) (fun K hK => ?_) ?_
        · skip
          have OE : OwnV u2 (.slice (some ⟨be, 0, none⟩) 0 0) [] := ⟨rfl, .inr ⟨be, 0, #[], rfl, Bbe, Nat.le_refl _, by omega, by simp, rfl⟩⟩
          refine step_appendV _ (by rfl) (.tmp 59) (.tmp 60) rfl (.slice (some ⟨be, 0, none⟩) 0 0) [] rfl OE A' m' c' ys rfl (HYW.out.new HB) (by simp; omega) ?_
          intro v1 u3 OV0 hg1 ha1
          have OV : OwnV u3 v1 ys := by simpa using OV0
          have HBn := HB.grown hg1 HB.size (fun q e => by cases e; exact Nbe)
          have nv_be : ∀ i, v1.ownBlock = some i → W.heap.size ≤ i := by
            intro i e
            rcases ha1 with h | h <;> rw [h] at e
            · cases e; exact Nbe
            · cases e; exact HB.size
          have nv_bl : ∀ i, v1.ownBlock = some i → i ≠ bl := by
            intro i e
            rcases ha1 with h | h <;> rw [h] at e
            · rintro rfl; exact absurd e (fun e => by cases e; exact ne_bl_be rfl)
            · cases e; exact Ne.symm (Nat.ne_of_lt Bbl.lt)
          replace Bbl := Bbl.grown_ hg1 (fun e => by cases e; exact ne_bl_be rfl)
          clear OV0 hg1 ha1 OE Bbe HB
          have HB := HBn
          clear HBn
          obtain ⟨Ac, nc, cc, rfl, _⟩ := OwnV.rd OV
          refine hK.out _ _ (HALL.out _ HB) (fun hHeld => ?_)
          clear hK K
          try simp only [Act.put, List.setIfInBounds_toArray, List.set_cons_zero, List.set_cons_succ]
          refine wpAnyH_ready (rs := [8]) (by kernel_rfl) (by simp) ?_
          refine AllReadyH.cons (by rw [List.getElem?_toArray]; rfl) (fun K hK => ?_) AllReadyH.nil
          go_simp
          refine hK.out _ _ (HALL.out _ (HB.alloc HB.size (.cells (zB nL) 4))) (fun hHeld => ?_)
          clear hK K
          try simp only [Act.put, List.setIfInBounds_toArray, List.set_cons_zero, List.set_cons_succ]
          have Bbb : Blk (u3.alloc (.cells (zB nL) 4)) u3.heap.size 4 (zB nL) := Blk.new u3 4 _
          have HB4 := HB.alloc HB.size (.cells (zB nL) 4)
          have Nbb : W.heap.size ≤ u3.heap.size := HB.size
          have ne_bl_bb : bl ≠ u3.heap.size := Nat.ne_of_lt Bbl.lt
          replace Bbl := Bbl.alloc (.cells (zB nL) 4)
          have nv_bb : ∀ i, (Value.slice Ac nc cc).ownBlock = some i → i ≠ u3.heap.size := fun i e => Nat.ne_of_lt (Own.lt OV e)
          replace OV := Own.new OV (w' := u3.alloc (.cells (zB nL) 4)) ((Below.refl _ _).alloc (Nat.le_refl _) _)
          clear HB
          have HB := HB4
          clear HB4
          generalize u3.heap.size = bb at *
          generalize u3.alloc (.cells (zB nL) 4) = u4 at *
          refine wpAnyH_ready (rs := [12]) (by kernel_rfl) (by simp) ?_
          refine AllReadyH.cons (by rw [List.getElem?_toArray]; rfl) (fun K hK => ?_) AllReadyH.nil
          go_simp
          refine hK.out _ _ (HALL.out _ HB) (fun hHeld => ?_)
          clear hK K
          try simp only [Act.put, List.setIfInBounds_toArray, List.set_cons_zero, List.set_cons_succ]
          refine wpAnyH_ready (rs := [13]) (by kernel_rfl) (by simp) ?_
          refine AllReadyH.cons (by rw [List.getElem?_toArray]; rfl) (fun K hK => ?_) AllReadyH.nil
          go_simp
          refine hK.out _ _ (HALL.out _ (HB.alloc HB.size _)) (fun hHeld => ?_)
          clear hK K
          try simp only [Act.put, List.setIfInBounds_toArray, List.set_cons_zero, List.set_cons_succ]
          refine wpAnyH_ready (rs := [14]) (by kernel_rfl) (by simp) ?_
          refine AllReadyH.cons (by rw [List.getElem?_toArray]; rfl) (fun K hK => ?_) AllReadyH.nil
          go_simp
          refine hK.out _ _ hHeld (fun hHeld => ?_)
          clear hK K
          try simp only [Act.put, List.setIfInBounds_toArray, List.set_cons_zero, List.set_cons_succ]
          refine wpAnyH_done (by kernel_rfl) ?_ _
          refine NoPanic.normal ?_
          go_wp2_with fail
          go_meet
          exact madeR_of rfl HB Bbl Bbb OV Nbl Nbb (fun i e => ⟨nv_be i e, nv_bl i e⟩) hnL
        exact AllReadyH.nil
      exact AllReadyH.nil
    refine AllReadyH.cons (by rw [List.getElem?_toArray]; rfl) (fun K hK => ?_) ?_
    · skip
      go_simp
      refine hK.out _ _ (HALL.out _ (HB.alloc HB.size (.cells (zB nL) 4))) (fun hHeld => ?_)
      clear hK K
      try simp only [Act.put, List.setIfInBounds_toArray, List.set_cons_zero, List.set_cons_succ]
      have Bbb : Blk (Wd.alloc (.cells (zB nL) 4)) Wd.heap.size 4 (zB nL) := Blk.new Wd 4 _
      have HB1 := HB.alloc HB.size (.cells (zB nL) 4)
      have Nbb : W.heap.size ≤ Wd.heap.size := HB.size
      clear HB
      have HB := HB1
      clear HB1
      generalize Wd.heap.size = bb at *
      generalize Wd.alloc (.cells (zB nL) 4) = u1 at *
      refine wpAnyH_ready (rs := [4, 9]) (by kernel_rfl) (by simp) ?_
      refine AllReadyH.cons (by rw [List.getElem?_toArray]; rfl) (fun K hK => ?_) ?_
      · skip
        go_simp
        refine hK.out _ _ (HALL.out _ (HB.alloc HB.size (.cells (zV nL) 44))) (fun hHeld => ?_)
        clear hK K
        try simp only [Act.put, List.setIfInBounds_toArray, List.set_cons_zero, List.set_cons_succ]
        have Bbl : Blk (u1.alloc (.cells (zV nL) 44)) u1.heap.size 44 (zV nL) := Blk.new u1 44 _
        have HB2 := HB.alloc HB.size (.cells (zV nL) 44)
        have Nbl : W.heap.size ≤ u1.heap.size := HB.size
        have ne_bb_bl : bb ≠ u1.heap.size := Nat.ne_of_lt Bbb.lt
        replace Bbb := Bbb.alloc (.cells (zV nL) 44)
        clear HB
        have HB := HB2
        clear HB2
        generalize u1.heap.size = bl at *
        generalize u1.alloc (.cells (zV nL) 44) = u2 at *
        refine wpAnyH_ready (rs := [9]) (by kernel_rfl) (by simp) ?_
        refine AllReadyH.cons (by rw [List.getElem?_toArray]; rfl) (fun K hK => ?_) AllReadyH.nil
        go_simp
        refine hK.out _ _ (HALL.out _ (HB.alloc HB.size (.cells (#[]) 44))) (fun hHeld => ?_)
        clear hK K
        try simp only [Act.put, List.setIfInBounds_toArray, List.set_cons_zero, List.set_cons_succ]
        have Bbe : Blk (u2.alloc (.cells (#[]) 44)) u2.heap.size 44 (#[]) := Blk.new u2 44 _
        have HB3 := HB.alloc HB.size (.cells (#[]) 44)
        have Nbe : W.heap.size ≤ u2.heap.size := HB.size
        have ne_bb_be : bb ≠ u2.heap.size := Nat.ne_of_lt Bbb.lt
        replace Bbb := Bbb.alloc (.cells (#[]) 44)
        have ne_bl_be : bl ≠ u2.heap.size := Nat.ne_of_lt Bbl.lt
        replace Bbl := Bbl.alloc (.cells (#[]) 44)
        clear HB
        have HB := HB3
        clear HB3
        generalize u2.heap.size = be at *
        generalize u2.alloc (.cells (#[]) 44) = u3 at *
        refine wpAnyH_ready (rs := [11]) (by kernel_rfl) (by simp) ?_
        refine AllReadyH.cons (by rw [List.getElem?_toArray]; rfl) (fun K hK => ?_) AllReadyH.nil
        have OE : OwnV u3 (.slice (some ⟨be, 0, none⟩) 0 0) [] := ⟨rfl, .inr ⟨be, 0, #[], rfl, Bbe, Nat.le_refl _, by omega, by simp, rfl⟩⟩
        refine step_appendV _ (by rfl) (.tmp 59) (.tmp 60) rfl (.slice (some ⟨be, 0, none⟩) 0 0) [] rfl OE A' m' c' ys rfl (HYW.out.new HB) (by simp; omega) ?_
        intro v1 u4 OV0 hg1 ha1
        have OV : OwnV u4 v1 ys := by simpa using OV0
        have HBn := HB.grown hg1 HB.size (fun q e => by cases e; exact Nbe)
        have nv_be : ∀ i, v1.ownBlock = some i → W.heap.size ≤ i := by
          intro i e
          rcases ha1 with h | h <;> rw [h] at e
          · cases e; exact Nbe
          · cases e; exact HB.size
        have nv_bb : ∀ i, v1.ownBlock = some i → i ≠ bb := by
          intro i e
          rcases ha1 with h | h <;> rw [h] at e
          · rintro rfl; exact absurd e (fun e => by cases e; exact ne_bb_be rfl)
          · cases e; exact Ne.symm (Nat.ne_of_lt Bbb.lt)
        replace Bbb := Bbb.grown_ hg1 (fun e => by cases e; exact ne_bb_be rfl)
        have nv_bl : ∀ i, v1.ownBlock = some i → i ≠ bl := by
          intro i e
          rcases ha1 with h | h <;> rw [h] at e
          · rintro rfl; exact absurd e (fun e => by cases e; exact ne_bl_be rfl)
          · cases e; exact Ne.symm (Nat.ne_of_lt Bbl.lt)
        replace Bbl := Bbl.grown_ hg1 (fun e => by cases e; exact ne_bl_be rfl)
        clear OV0 hg1 ha1 OE Bbe HB
        have HB := HBn
        clear HBn
        obtain ⟨Ac, nc, cc, rfl, _⟩ := OwnV.rd OV
        refine hK.out _ _ (HALL.out _ HB) (fun hHeld => ?_)
        clear hK K
        try simp only [Act.put, List.setIfInBounds_toArray, List.set_cons_zero, List.set_cons_succ]
        refine wpAnyH_ready (rs := [12]) (by kernel_rfl) (by simp) ?_
        refine AllReadyH.cons (by rw [List.getElem?_toArray]; rfl) (fun K hK => ?_) AllReadyH.nil
        go_simp
        refine hK.out _ _ (HALL.out _ HB) (fun hHeld => ?_)
        clear hK K
        try simp only [Act.put, List.setIfInBounds_toArray, List.set_cons_zero, List.set_cons_succ]
        refine wpAnyH_ready (rs := [13]) (by kernel_rfl) (by simp) ?_
        refine AllReadyH.cons (by rw [List.getElem?_toArray]; rfl) (fun K hK => ?_) AllReadyH.nil
        go_simp
        refine hK.out _ _ (HALL.out _ (HB.alloc HB.size _)) (fun hHeld => ?_)
        clear hK K
        try simp only [Act.put, List.setIfInBounds_toArray, List.set_cons_zero, List.set_cons_succ]
        refine wpAnyH_ready (rs := [14]) (by kernel_rfl) (by simp) ?_
        refine AllReadyH.cons (by rw [List.getElem?_toArray]; rfl) (fun K hK => ?_) AllReadyH.nil
        go_simp
        refine hK.out _ _ hHeld (fun hHeld => ?_)
        clear hK K
        try simp only [Act.put, List.setIfInBounds_toArray, List.set_cons_zero, List.set_cons_succ]
        refine wpAnyH_done (by kernel_rfl) ?_ _
        refine NoPanic.normal ?_
        go_wp2_with fail
        go_meet
        exact madeR_of rfl HB Bbl Bbb OV Nbl Nbb (fun i e => ⟨nv_be i e, nv_bl i e⟩) hnL
      refine AllReadyH.cons (by rw [List.getElem?_toArray]; rfl) (fun K hK => ?_) ?_
      · skip
        go_simp
        refine hK.out _ _ (HALL.out _ (HB.alloc HB.size (.cells (#[]) 44))) (fun hHeld => ?_)
        clear hK K
        try simp only [Act.put, List.setIfInBounds_toArray, List.set_cons_zero, List.set_cons_succ]
        have Bbe : Blk (u1.alloc (.cells (#[]) 44)) u1.heap.size 44 (#[]) := Blk.new u1 44 _
        have HB2 := HB.alloc HB.size (.cells (#[]) 44)
        have Nbe : W.heap.size ≤ u1.heap.size := HB.size
        have ne_bb_be : bb ≠ u1.heap.size := Nat.ne_of_lt Bbb.lt
        replace Bbb := Bbb.alloc (.cells (#[]) 44)
        clear HB
        have HB := HB2
        clear HB2
        generalize u1.heap.size = be at *
        generalize u1.alloc (.cells (#[]) 44) = u2 at *
        refine wpAnyH_ready (rs := [4, 11]) (by kernel_rfl) (by simp) ?_
        refine AllReadyH.cons (by rw [List.getElem?_toArray]; rfl) (fun K hK => ?_) ?_
        · skip
          go_simp
          refine hK.out _ _ (HALL.out _ (HB.alloc HB.size (.cells (zV nL) 44))) (fun hHeld => ?_)
          clear hK K
          try simp only [Act.put, List.setIfInBounds_toArray, List.set_cons_zero, List.set_cons_succ]
          have Bbl : Blk (u2.alloc (.cells (zV nL) 44)) u2.heap.size 44 (zV nL) := Blk.new u2 44 _
          have HB3 := HB.alloc HB.size (.cells (zV nL) 44)
          have Nbl : W.heap.size ≤ u2.heap.size := HB.size
          have ne_bb_bl : bb ≠ u2.heap.size := Nat.ne_of_lt Bbb.lt
          replace Bbb := Bbb.alloc (.cells (zV nL) 44)
          have ne_be_bl : be ≠ u2.heap.size := Nat.ne_of_lt Bbe.lt
          replace Bbe := Bbe.alloc (.cells (zV nL) 44)
          clear HB
          have HB := HB3
          clear HB3
          generalize u2.heap.size = bl at *
          generalize u2.alloc (.cells (zV nL) 44) = u3 at *
          refine wpAnyH_ready (rs := [11]) (by kernel_rfl) (by simp) ?_
          refine AllReadyH.cons (by rw [List.getElem?_toArray]; rfl) (fun K hK => ?_) AllReadyH.nil
          have OE : OwnV u3 (.slice (some ⟨be, 0, none⟩) 0 0) [] := ⟨rfl, .inr ⟨be, 0, #[], rfl, Bbe, Nat.le_refl _, by omega, by simp, rfl⟩⟩
          refine step_appendV _ (by rfl) (.tmp 59) (.tmp 60) rfl (.slice (some ⟨be, 0, none⟩) 0 0) [] rfl OE A' m' c' ys rfl (HYW.out.new HB) (by simp; omega) ?_
          intro v1 u4 OV0 hg1 ha1
          have OV : OwnV u4 v1 ys := by simpa using OV0
          have HBn := HB.grown hg1 HB.size (fun q e => by cases e; exact Nbe)
          have nv_be : ∀ i, v1.ownBlock = some i → W.heap.size ≤ i := by
            intro i e
            rcases ha1 with h | h <;> rw [h] at e
            · cases e; exact Nbe
            · cases e; exact HB.size
          have nv_bb : ∀ i, v1.ownBlock = some i → i ≠ bb := by
            intro i e
            rcases ha1 with h | h <;> rw [h] at e
            · rintro rfl; exact absurd e (fun e => by cases e; exact ne_bb_be rfl)
            · cases e; exact Ne.symm (Nat.ne_of_lt Bbb.lt)
          replace Bbb := Bbb.grown_ hg1 (fun e => by cases e; exact ne_bb_be rfl)
          have nv_bl : ∀ i, v1.ownBlock = some i → i ≠ bl := by
            intro i e
            rcases ha1 with h | h <;> rw [h] at e
            · rintro rfl; exact absurd e (fun e => by cases e; exact ne_be_bl rfl)
            · cases e; exact Ne.symm (Nat.ne_of_lt Bbl.lt)
          replace Bbl := Bbl.grown_ hg1 (fun e => by cases e; exact ne_be_bl rfl)
          clear OV0 hg1 ha1 OE Bbe HB
          have HB := HBn
          clear HBn
          obtain ⟨Ac, nc, cc, rfl, _⟩ := OwnV.rd OV
          refine hK.out _ _ (HALL.out _ HB) (fun hHeld => ?_)
          clear hK K
          try simp only [Act.put, List.setIfInBounds_toArray, List.set_cons_zero, List.set_cons_succ]
          refine wpAnyH_ready (rs := [12]) (by kernel_rfl) (by simp) ?_
          refine AllReadyH.cons (by rw [List.getElem?_toArray]; rfl) (fun K hK => ?_) AllReadyH.nil
          go_simp
          refine hK.out _ _ (HALL.out _ HB) (fun hHeld => ?_)
          clear hK K
          try simp only [Act.put, List.setIfInBounds_toArray, List.set_cons_zero, List.set_cons_succ]
          refine wpAnyH_ready (rs := [13]) (by kernel_rfl) (by simp) ?_
          refine AllReadyH.cons (by rw [List.getElem?_toArray]; rfl) (fun K hK => ?_) AllReadyH.nil
          go_simp
          refine hK.out _ _ (HALL.out _ (HB.alloc HB.size _)) (fun hHeld => ?_)
          clear hK K
          try simp only [Act.put, List.setIfInBounds_toArray, List.set_cons_zero, List.set_cons_succ]
          refine wpAnyH_ready (rs := [14]) (by kernel_rfl) (by simp) ?_
          refine AllReadyH.cons (by rw [List.getElem?_toArray]; rfl) (fun K hK => ?_) AllReadyH.nil
          go_simp
          refine hK.out _ _ hHeld (fun hHeld => ?_)
          clear hK K
          try simp only [Act.put, List.setIfInBounds_toArray, List.set_cons_zero, List.set_cons_succ]
          refine wpAnyH_done (by kernel_rfl) ?_ _
          refine NoPanic.normal ?_
          go_wp2_with fail
          go_meet
          exact madeR_of rfl HB Bbl Bbb OV Nbl Nbb (fun i e => ⟨nv_be i e, nv_bl i e⟩) hnL
        refine AllReadyH.cons (by rw [List.getElem?_toArray]; rfl) (fun K hK => ?_) ?_
        · skip
          have OE : OwnV u2 (.slice (some ⟨be, 0, none⟩) 0 0) [] := ⟨rfl, .inr ⟨be, 0, #[], rfl, Bbe, Nat.le_refl _, by omega, by simp, rfl⟩⟩
          refine step_appendV _ (by rfl) (.tmp 59) (.tmp 60) rfl (.slice (some ⟨be, 0, none⟩) 0 0) [] rfl OE A' m' c' ys rfl (HYW.out.new HB) (by simp; omega) ?_
          intro v1 u3 OV0 hg1 ha1
          have OV : OwnV u3 v1 ys := by simpa using OV0
          have HBn := HB.grown hg1 HB.size (fun q e => by cases e; exact Nbe)
          have nv_be : ∀ i, v1.ownBlock = some i → W.heap.size ≤ i := by
            intro i e
            rcases ha1 with h | h <;> rw [h] at e
            · cases e; exact Nbe
            · cases e; exact HB.size
          have nv_bb : ∀ i, v1.ownBlock = some i → i ≠ bb := by
            intro i e
            rcases ha1 with h | h <;> rw [h] at e
            · rintro rfl; exact absurd e (fun e => by cases e; exact ne_bb_be rfl)
            · cases e; exact Ne.symm (Nat.ne_of_lt Bbb.lt)
          replace Bbb := Bbb.grown_ hg1 (fun e => by cases e; exact ne_bb_be rfl)
          clear OV0 hg1 ha1 OE Bbe HB
          have HB := HBn
          clear HBn
          obtain ⟨Ac, nc, cc, rfl, _⟩ := OwnV.rd OV
          refine hK.out _ _ (HALL.out _ HB) (fun hHeld => ?_)
          clear hK K
          try simp only [Act.put, List.setIfInBounds_toArray, List.set_cons_zero, List.set_cons_succ]
          refine wpAnyH_ready (rs := [4]) (by kernel_rfl) (by simp) ?_
          refine AllReadyH.cons (by rw [List.getElem?_toArray]; rfl) (fun K hK => ?_) AllReadyH.nil
          go_simp
          refine hK.out _ _ (HALL.out _ (HB.alloc HB.size (.cells (zV nL) 44))) (fun hHeld => ?_)
          clear hK K
          try simp only [Act.put, List.setIfInBounds_toArray, List.set_cons_zero, List.set_cons_succ]
          have Bbl : Blk (u3.alloc (.cells (zV nL) 44)) u3.heap.size 44 (zV nL) := Blk.new u3 44 _
          have HB4 := HB.alloc HB.size (.cells (zV nL) 44)
          have Nbl : W.heap.size ≤ u3.heap.size := HB.size
          have ne_bb_bl : bb ≠ u3.heap.size := Nat.ne_of_lt Bbb.lt
          replace Bbb := Bbb.alloc (.cells (zV nL) 44)
          have nv_bl : ∀ i, (Value.slice Ac nc cc).ownBlock = some i → i ≠ u3.heap.size := fun i e => Nat.ne_of_lt (Own.lt OV e)
          replace OV := Own.new OV (w' := u3.alloc (.cells (zV nL) 44)) ((Below.refl _ _).alloc (Nat.le_refl _) _)
          clear HB
          have HB := HB4
          clear HB4
          generalize u3.heap.size = bl at *
          generalize u3.alloc (.cells (zV nL) 44) = u4 at *
          refine wpAnyH_ready (rs := [12]) (by kernel_rfl) (by simp) ?_
          refine AllReadyH.cons (by rw [List.getElem?_toArray]; rfl) (fun K hK => ?_) AllReadyH.nil
          go_simp
          refine hK.out _ _ (HALL.out _ HB) (fun hHeld => ?_)
          clear hK K
          try simp only [Act.put, List.setIfInBounds_toArray, List.set_cons_zero, List.set_cons_succ]
          refine wpAnyH_ready (rs := [13]) (by kernel_rfl) (by simp) ?_
          refine AllReadyH.cons (by rw [List.getElem?_toArray]; rfl) (fun K hK => ?_) AllReadyH.nil
          go_simp
          refine hK.out _ _ (HALL.out _ (HB.alloc HB.size _)) (fun hHeld => ?_)
          clear hK K
          try simp only [Act.put, List.setIfInBounds_toArray, List.set_cons_zero, List.set_cons_succ]
          refine wpAnyH_ready (rs := [14]) (by kernel_rfl) (by simp) ?_
          refine AllReadyH.cons (by rw [List.getElem?_toArray]; rfl) (fun K hK => ?_) AllReadyH.nil
          go_simp
          refine hK.out _ _ hHeld (fun hHeld => ?_)
          clear hK K
          try simp only [Act.put, List.setIfInBounds_toArray, List.set_cons_zero, List.set_cons_succ]
          refine wpAnyH_done (by kernel_rfl) ?_ _
          refine NoPanic.normal ?_
          go_wp2_with fail
          go_meet
          exact madeR_of rfl HB Bbl Bbb OV Nbl Nbb (fun i e => ⟨nv_be i e, nv_bl i e⟩) hnL
        exact AllReadyH.nil
      exact AllReadyH.nil
    refine AllReadyH.cons (by rw [List.getElem?_toArray]; rfl) (fun K hK => ?_) ?_
    · skip
      go_simp
      refine hK.out _ _ (HALL.out _ (HB.alloc HB.size (.cells (#[]) 44))) (fun hHeld => ?_)
      clear hK K
      try simp only [Act.put, List.setIfInBounds_toArray, List.set_cons_zero, List.set_cons_succ]
      have Bbe : Blk (Wd.alloc (.cells (#[]) 44)) Wd.heap.size 44 (#[]) := Blk.new Wd 44 _
      have HB1 := HB.alloc HB.size (.cells (#[]) 44)
      have Nbe : W.heap.size ≤ Wd.heap.size := HB.size
      clear HB
      have HB := HB1
      clear HB1
      generalize Wd.heap.size = be at *
      generalize Wd.alloc (.cells (#[]) 44) = u1 at *
      refine wpAnyH_ready (rs := [4, 8, 11]) (by kernel_rfl) (by simp) ?_
      refine AllReadyH.cons (by rw [List.getElem?_toArray]; rfl) (fun K hK => ?_) ?_
      · skip
        go_simp
        refine hK.out _ _ (HALL.out _ (HB.alloc HB.size (.cells (zV nL) 44))) (fun hHeld => ?_)
        clear hK K
        try simp only [Act.put, List.setIfInBounds_toArray, List.set_cons_zero, List.set_cons_succ]
        have Bbl : Blk (u1.alloc (.cells (zV nL) 44)) u1.heap.size 44 (zV nL) := Blk.new u1 44 _
        have HB2 := HB.alloc HB.size (.cells (zV nL) 44)
        have Nbl : W.heap.size ≤ u1.heap.size := HB.size
        have ne_be_bl : be ≠ u1.heap.size := Nat.ne_of_lt Bbe.lt
        replace Bbe := Bbe.alloc (.cells (zV nL) 44)
        clear HB
        have HB := HB2
        clear HB2
        generalize u1.heap.size = bl at *
        generalize u1.alloc (.cells (zV nL) 44) = u2 at *
        refine wpAnyH_ready (rs := [8, 11]) (by kernel_rfl) (by simp) ?_
        refine AllReadyH.cons (by rw [List.getElem?_toArray]; rfl) (fun K hK => ?_) ?_
        · skip
          go_simp
          refine hK.out _ _ (HALL.out _ (HB.alloc HB.size (.cells (zB nL) 4))) (fun hHeld => ?_)
          clear hK K
          try simp only [Act.put, List.setIfInBounds_toArray, List.set_cons_zero, List.set_cons_succ]
          have Bbb : Blk (u2.alloc (.cells (zB nL) 4)) u2.heap.size 4 (zB nL) := Blk.new u2 4 _
          have HB3 := HB.alloc HB.size (.cells (zB nL) 4)
          have Nbb : W.heap.size ≤ u2.heap.size := HB.size
          have ne_be_bb : be ≠ u2.heap.size := Nat.ne_of_lt Bbe.lt
          replace Bbe := Bbe.alloc (.cells (zB nL) 4)
          have ne_bl_bb : bl ≠ u2.heap.size := Nat.ne_of_lt Bbl.lt
          replace Bbl := Bbl.alloc (.cells (zB nL) 4)
          clear HB
          have HB := HB3
          clear HB3
          generalize u2.heap.size = bb at *
          generalize u2.alloc (.cells (zB nL) 4) = u3 at *
          refine wpAnyH_ready (rs := [11]) (by kernel_rfl) (by simp) ?_
          refine AllReadyH.cons (by rw [List.getElem?_toArray]; rfl) (fun K hK => ?_) AllReadyH.nil
          have OE : OwnV u3 (.slice (some ⟨be, 0, none⟩) 0 0) [] := ⟨rfl, .inr ⟨be, 0, #[], rfl, Bbe, Nat.le_refl _, by omega, by simp, rfl⟩⟩
          refine step_appendV _ (by rfl) (.tmp 59) (.tmp 60) rfl (.slice (some ⟨be, 0, none⟩) 0 0) [] rfl OE A' m' c' ys rfl (HYW.out.new HB) (by simp; omega) ?_
          intro v1 u4 OV0 hg1 ha1
          have OV : OwnV u4 v1 ys := by simpa using OV0
          have HBn := HB.grown hg1 HB.size (fun q e => by cases e; exact Nbe)
          have nv_be : ∀ i, v1.ownBlock = some i → W.heap.size ≤ i := by
            intro i e
            rcases ha1 with h | h <;> rw [h] at e
            · cases e; exact Nbe
            · cases e; exact HB.size
          have nv_bl : ∀ i, v1.ownBlock = some i → i ≠ bl := by
            intro i e
            rcases ha1 with h | h <;> rw [h] at e
            · rintro rfl; exact absurd e (fun e => by cases e; exact ne_be_bl rfl)
            · cases e; exact Ne.symm (Nat.ne_of_lt Bbl.lt)
          replace Bbl := Bbl.grown_ hg1 (fun e => by cases e; exact ne_be_bl rfl)
          have nv_bb : ∀ i, v1.ownBlock = some i → i ≠ bb := by
            intro i e
            rcases ha1 with h | h <;> rw [h] at e
            · rintro rfl; exact absurd e (fun e => by cases e; exact ne_be_bb rfl)
            · cases e; exact Ne.symm (Nat.ne_of_lt Bbb.lt)
          replace Bbb := Bbb.grown_ hg1 (fun e => by cases e; exact ne_be_bb rfl)
          clear OV0 hg1 ha1 OE Bbe HB
          have HB := HBn
          clear HBn
          obtain ⟨Ac, nc, cc, rfl, _⟩ := OwnV.rd OV
          refine hK.out _ _ (HALL.out _ HB) (fun hHeld => ?_)
          clear hK K
          try simp only [Act.put, List.setIfInBounds_toArray, List.set_cons_zero, List.set_cons_succ]
          refine wpAnyH_ready (rs := [12]) (by kernel_rfl) (by simp) ?_
          refine AllReadyH.cons (by rw [List.getElem?_toArray]; rfl) (fun K hK => ?_) AllReadyH.nil
          go_simp
          refine hK.out _ _ (HALL.out _ HB) (fun hHeld => ?_)
          clear hK K
          try simp only [Act.put, List.setIfInBounds_toArray, List.set_cons_zero, List.set_cons_succ]
          refine wpAnyH_ready (rs := [13]) (by kernel_rfl) (by simp) ?_
          refine AllReadyH.cons (by rw [List.getElem?_toArray]; rfl) (fun K hK => ?_) AllReadyH.nil
          go_simp
          refine hK.out _ _ (HALL.out _ (HB.alloc HB.size _)) (fun hHeld => ?_)
          clear hK K
          try simp only [Act.put, List.setIfInBounds_toArray, List.set_cons_zero, List.set_cons_succ]
          refine wpAnyH_ready (rs := [14]) (by kernel_rfl) (by simp) ?_
          refine AllReadyH.cons (by rw [List.getElem?_toArray]; rfl) (fun K hK => ?_) AllReadyH.nil
          go_simp
          refine hK.out _ _ hHeld (fun hHeld => ?_)
          clear hK K
          try simp only [Act.put, List.setIfInBounds_toArray, List.set_cons_zero, List.set_cons_succ]
          refine wpAnyH_done (by kernel_rfl) ?_ _
          refine NoPanic.normal ?_
          go_wp2_with fail
          go_meet
          exact madeR_of rfl HB Bbl Bbb OV Nbl Nbb (fun i e => ⟨nv_be i e, nv_bl i e⟩) hnL
        refine AllReadyH.cons (by rw [List.getElem?_toArray]; rfl) (fun K hK => ?_) ?_
        · skip
          have OE : OwnV u2 (.slice (some ⟨be, 0, none⟩) 0 0) [] := ⟨rfl, .inr ⟨be, 0, #[], rfl, Bbe, Nat.le_refl _, by omega, by simp, rfl⟩⟩
          refine step_appendV _ (by rfl) (.tmp 59) (.tmp 60) rfl (.slice (some ⟨be, 0, none⟩) 0 0) [] rfl OE A' m' c' ys rfl (HYW.out.new HB) (by simp; omega) ?_
          intro v1 u3 OV0 hg1 ha1
          have OV : OwnV u3 v1 ys := by simpa using OV0
          have HBn := HB.grown hg1 HB.size (fun q e => by cases e; exact Nbe)
          have nv_be : ∀ i, v1.ownBlock = some i → W.heap.size ≤ i := by
            intro i e
            rcases ha1 with h | h <;> rw [h] at e
            · cases e; exact Nbe
            · cases e; exact HB.size
          have nv_bl : ∀ i, v1.ownBlock = some i → i ≠ bl := by
            intro i e
            rcases ha1 with h | h <;> rw [h] at e
            · rintro rfl; exact absurd e (fun e => by cases e; exact ne_be_bl rfl)
            · cases e; exact Ne.symm (Nat.ne_of_lt Bbl.lt)
          replace Bbl := Bbl.grown_ hg1 (fun e => by cases e; exact ne_be_bl rfl)
          clear OV0 hg1 ha1 OE Bbe HB
          have HB := HBn
          clear HBn
          obtain ⟨Ac, nc, cc, rfl, _⟩ := OwnV.rd OV
          refine hK.out _ _ (HALL.out _ HB) (fun hHeld => ?_)
          clear hK K
          try simp only [Act.put, List.setIfInBounds_toArray, List.set_cons_zero, List.set_cons_succ]
          refine wpAnyH_ready (rs := [8]) (by kernel_rfl) (by simp) ?_
          refine AllReadyH.cons (by rw [List.getElem?_toArray]; rfl) (fun K hK => ?_) AllReadyH.nil
          go_simp
          refine hK.out _ _ (HALL.out _ (HB.alloc HB.size (.cells (zB nL) 4))) (fun hHeld => ?_)
          clear hK K
          try simp only [Act.put, List.setIfInBounds_toArray, List.set_cons_zero, List.set_cons_succ]
          have Bbb : Blk (u3.alloc (.cells (zB nL) 4)) u3.heap.size 4 (zB nL) := Blk.new u3 4 _
          have HB4 := HB.alloc HB.size (.cells (zB nL) 4)
          have Nbb : W.heap.size ≤ u3.heap.size := HB.size
          have ne_bl_bb : bl ≠ u3.heap.size := Nat.ne_of_lt Bbl.lt
          replace Bbl := Bbl.alloc (.cells (zB nL) 4)
          have nv_bb : ∀ i, (Value.slice Ac nc cc).ownBlock = some i → i ≠ u3.heap.size := fun i e => Nat.ne_of_lt (Own.lt OV e)
          replace OV := Own.new OV (w' := u3.alloc (.cells (zB nL) 4)) ((Below.refl _ _).alloc (Nat.le_refl _) _)
          clear HB
          have HB := HB4
          clear HB4
          generalize u3.heap.size = bb at *
          generalize u3.alloc (.cells (zB nL) 4) = u4 at *
          refine wpAnyH_ready (rs := [12]) (by kernel_rfl) (by simp) ?_
          refine AllReadyH.cons (by rw [List.getElem?_toArray]; rfl) (fun K hK => ?_) AllReadyH.nil
          go_simp
          refine hK.out _ _ (HALL.out _ HB) (fun hHeld => ?_)
          clear hK K
          try simp only [Act.put, List.setIfInBounds_toArray, List.set_cons_zero, List.set_cons_succ]
          refine wpAnyH_ready (rs := [13]) (by kernel_rfl) (by simp) ?_
          refine AllReadyH.cons (by rw [List.getElem?_toArray]; rfl) (fun K hK => ?_) AllReadyH.nil
          go_simp
          refine hK.out _ _ (HALL.out _ (HB.alloc HB.size _)) (fun hHeld => ?_)
          clear hK K
          try simp only [Act.put, List.setIfInBounds_toArray, List.set_cons_zero, List.set_cons_succ]
          refine wpAnyH_ready (rs := [14]) (by kernel_rfl) (by simp) ?_
          refine AllReadyH.cons (by rw [List.getElem?_toArray]; rfl) (fun K hK => ?_) AllReadyH.nil
          go_simp
          refine hK.out _ _ hHeld (fun hHeld => ?_)
          clear hK K
          try simp only [Act.put, List.setIfInBounds_toArray, List.set_cons_zero, List.set_cons_succ]
          refine wpAnyH_done (by kernel_rfl) ?_ _
          refine NoPanic.normal ?_
          go_wp2_with fail
          go_meet
          exact madeR_of rfl HB Bbl Bbb OV Nbl Nbb (fun i e => ⟨nv_be i e, nv_bl i e⟩) hnL
        exact AllReadyH.nil
      refine AllReadyH.cons (by rw [List.getElem?_toArray]; rfl) (fun K hK => ?_) ?_
      · skip
        go_simp
        refine hK.out _ _ (HALL.out _ (HB.alloc HB.size (.cells (zB nL) 4))) (fun hHeld => ?_)
        clear hK K
        try simp only [Act.put, List.setIfInBounds_toArray, List.set_cons_zero, List.set_cons_succ]
        have Bbb : Blk (u1.alloc (.cells (zB nL) 4)) u1.heap.size 4 (zB nL) := Blk.new u1 4 _
        have HB2 := HB.alloc HB.size (.cells (zB nL) 4)
        have Nbb : W.heap.size ≤ u1.heap.size := HB.size
        have ne_be_bb : be ≠ u1.heap.size := Nat.ne_of_lt Bbe.lt
        replace Bbe := Bbe.alloc (.cells (zB nL) 4)
        clear HB
        have HB := HB2
        clear HB2
        generalize u1.heap.size = bb at *
        generalize u1.alloc (.cells (zB nL) 4) = u2 at *
        refine wpAnyH_ready (rs := [4, 11]) (by kernel_rfl) (by simp) ?_
        refine AllReadyH.cons (by rw [List.getElem?_toArray]; rfl) (fun K hK => ?_) ?_
        · skip
          go_simp
          refine hK.out _ _ (HALL.out _ (HB.alloc HB.size (.cells (zV nL) 44))) (fun hHeld => ?_)
          clear hK K
          try simp only [Act.put, List.setIfInBounds_toArray, List.set_cons_zero, List.set_cons_succ]
          have Bbl : Blk (u2.alloc (.cells (zV nL) 44)) u2.heap.size 44 (zV nL) := Blk.new u2 44 _
          have HB3 := HB.alloc HB.size (.cells (zV nL) 44)
          have Nbl : W.heap.size ≤ u2.heap.size := HB.size
          have ne_be_bl : be ≠ u2.heap.size := Nat.ne_of_lt Bbe.lt
          replace Bbe := Bbe.alloc (.cells (zV nL) 44)
          have ne_bb_bl : bb ≠ u2.heap.size := Nat.ne_of_lt Bbb.lt
          replace Bbb := Bbb.alloc (.cells (zV nL) 44)
          clear HB
          have HB := HB3
          clear HB3
          generalize u2.heap.size = bl at *
          generalize u2.alloc (.cells (zV nL) 44) = u3 at *
          refine wpAnyH_ready (rs := [11]) (by kernel_rfl) (by simp) ?_
          refine AllReadyH.cons (by rw [List.getElem?_toArray]; rfl) (fun K hK => ?_) AllReadyH.nil
          have OE : OwnV u3 (.slice (some ⟨be, 0, none⟩) 0 0) [] := ⟨rfl, .inr ⟨be, 0, #[], rfl, Bbe, Nat.le_refl _, by omega, by simp, rfl⟩⟩
          refine step_appendV _ (by rfl) (.tmp 59) (.tmp 60) rfl (.slice (some ⟨be, 0, none⟩) 0 0) [] rfl OE A' m' c' ys rfl (HYW.out.new HB) (by simp; omega) ?_
          intro v1 u4 OV0 hg1 ha1
          have OV : OwnV u4 v1 ys := by simpa using OV0
          have HBn := HB.grown hg1 HB.size (fun q e => by cases e; exact Nbe)
          have nv_be : ∀ i, v1.ownBlock = some i → W.heap.size ≤ i := by
            intro i e
            rcases ha1 with h | h <;> rw [h] at e
            · cases e; exact Nbe
            · cases e; exact HB.size
          have nv_bb : ∀ i, v1.ownBlock = some i → i ≠ bb := by
            intro i e
            rcases ha1 with h | h <;> rw [h] at e
            · rintro rfl; exact absurd e (fun e => by cases e; exact ne_be_bb rfl)
            · cases e; exact Ne.symm (Nat.ne_of_lt Bbb.lt)
          replace Bbb := Bbb.grown_ hg1 (fun e => by cases e; exact ne_be_bb rfl)
          have nv_bl : ∀ i, v1.ownBlock = some i → i ≠ bl := by
            intro i e
            rcases ha1 with h | h <;> rw [h] at e
            · rintro rfl; exact absurd e (fun e => by cases e; exact ne_be_bl rfl)
            · cases e; exact Ne.symm (Nat.ne_of_lt Bbl.lt)
          replace Bbl := Bbl.grown_ hg1 (fun e => by cases e; exact ne_be_bl rfl)
          clear OV0 hg1 ha1 OE Bbe HB
          have HB := HBn
          clear HBn
          obtain ⟨Ac, nc, cc, rfl, _⟩ := OwnV.rd OV
          refine hK.out _ _ (HALL.out _ HB) (fun hHeld => ?_)
          clear hK K
          try simp only [Act.put, List.setIfInBounds_toArray, List.set_cons_zero, List.set_cons_succ]
          refine wpAnyH_ready (rs := [12]) (by kernel_rfl) (by simp) ?_
          refine AllReadyH.cons (by rw [List.getElem?_toArray]; rfl) (fun K hK => ?_) AllReadyH.nil
          go_simp
          refine hK.out _ _ (HALL.out _ HB) (fun hHeld => ?_)
          clear hK K
          try simp only [Act.put, List.setIfInBounds_toArray, List.set_cons_zero, List.set_cons_succ]
          refine wpAnyH_ready (rs := [13]) (by kernel_rfl) (by simp) ?_
          refine AllReadyH.cons (by rw [List.getElem?_toArray]; rfl) (fun K hK => ?_) AllReadyH.nil
          go_simp
          refine hK.out _ _ (HALL.out _ (HB.alloc HB.size _)) (fun hHeld => ?_)
          clear hK K
          try simp only [Act.put, List.setIfInBounds_toArray, List.set_cons_zero, List.set_cons_succ]
          refine wpAnyH_ready (rs := [14]) (by kernel_rfl) (by simp) ?_
          refine AllReadyH.cons (by rw [List.getElem?_toArray]; rfl) (fun K hK => ?_) AllReadyH.nil
          go_simp
          refine hK.out _ _ hHeld (fun hHeld => ?_)
          clear hK K
          try simp only [Act.put, List.setIfInBounds_toArray, List.set_cons_zero, List.set_cons_succ]
          refine wpAnyH_done (by kernel_rfl) ?_ _
          refine NoPanic.normal ?_
          go_wp2_with fail
          go_meet
          exact madeR_of rfl HB Bbl Bbb OV Nbl Nbb (fun i e => ⟨nv_be i e, nv_bl i e⟩) hnL
        refine AllReadyH.cons (by rw [List.getElem?_toArray]; rfl) (fun K hK => ?_) ?_
        · skip
          have OE : OwnV u2 (.slice (some ⟨be, 0, none⟩) 0 0) [] := ⟨rfl, .inr ⟨be, 0, #[], rfl, Bbe, Nat.le_refl _, by omega, by simp, rfl⟩⟩
          refine step_appendV _ (by rfl) (.tmp 59) (.tmp 60) rfl (.slice (some ⟨be, 0, none⟩) 0 0) [] rfl OE A' m' c' ys rfl (HYW.out.new HB) (by simp; omega) ?_
          intro v1 u3 OV0 hg1 ha1
          have OV : OwnV u3 v1 ys := by simpa using OV0
          have HBn := HB.grown hg1 HB.size (fun q e => by cases e; exact Nbe)
          have nv_be : ∀ i, v1.ownBlock = some i → W.heap.size ≤ i := by
            intro i e
            rcases ha1 with h | h <;> rw [h] at e
            · cases e; exact Nbe
            · cases e; exact HB.size
          have nv_bb : ∀ i, v1.ownBlock = some i → i ≠ bb := by
            intro i e
            rcases ha1 with h | h <;> rw [h] at e
            · rintro rfl; exact absurd e (fun e => by cases e; exact ne_be_bb rfl)
            · cases e; exact Ne.symm (Nat.ne_of_lt Bbb.lt)
          replace Bbb := Bbb.grown_ hg1 (fun e => by cases e; exact ne_be_bb rfl)
          clear OV0 hg1 ha1 OE Bbe HB
          have HB := HBn
          clear HBn
          obtain ⟨Ac, nc, cc, rfl, _⟩ := OwnV.rd OV
          refine hK.out _ _ (HALL.out _ HB) (fun hHeld => ?_)
          clear hK K
          try simp only [Act.put, List.setIfInBounds_toArray, List.set_cons_zero, List.set_cons_succ]
          refine wpAnyH_ready (rs := [4]) (by kernel_rfl) (by simp) ?_
          refine AllReadyH.cons (by rw [List.getElem?_toArray]; rfl) (fun K hK => ?_) AllReadyH.nil
          go_simp
          refine hK.out _ _ (HALL.out _ (HB.alloc HB.size (.cells (zV nL) 44))) (fun hHeld => ?_)
          clear hK K
          try simp only [Act.put, List.setIfInBounds_toArray, List.set_cons_zero, List.set_cons_succ]
          have Bbl : Blk (u3.alloc (.cells (zV nL) 44)) u3.heap.size 44 (zV nL) := Blk.new u3 44 _
          have HB4 := HB.alloc HB.size (.cells (zV nL) 44)
          have Nbl : W.heap.size ≤ u3.heap.size := HB.size
          have ne_bb_bl : bb ≠ u3.heap.size := Nat.ne_of_lt Bbb.lt
          replace Bbb := Bbb.alloc (.cells (zV nL) 44)
          have nv_bl : ∀ i, (Value.slice Ac nc cc).ownBlock = some i → i ≠ u3.heap.size := fun i e => Nat.ne_of_lt (Own.lt OV e)
          replace OV := Own.new OV (w' := u3.alloc (.cells (zV nL) 44)) ((Below.refl _ _).alloc (Nat.le_refl _) _)
          clear HB
          have HB := HB4
          clear HB4
          generalize u3.heap.size = bl at *
          generalize u3.alloc (.cells (zV nL) 44) = u4 at *
          refine wpAnyH_ready (rs := [12]) (by kernel_rfl) (by simp) ?_
          refine AllReadyH.cons (by rw [List.getElem?_toArray]; rfl) (fun K hK => ?_) AllReadyH.nil
          go_simp
          refine hK.out _ _ (HALL.out _ HB) (fun hHeld => ?_)
          clear hK K
          try simp only [Act.put, List.setIfInBounds_toArray, List.set_cons_zero, List.set_cons_succ]
          refine wpAnyH_ready (rs := [13]) (by kernel_rfl) (by simp) ?_
          refine AllReadyH.cons (by rw [List.getElem?_toArray]; rfl) (fun K hK => ?_) AllReadyH.nil
          go_simp
          refine hK.out _ _ (HALL.out _ (HB.alloc HB.size _)) (fun hHeld => ?_)
          clear hK K
          try simp only [Act.put, List.setIfInBounds_toArray, List.set_cons_zero, List.set_cons_succ]
          refine wpAnyH_ready (rs := [14]) (by kernel_rfl) (by simp) ?_
          refine AllReadyH.cons (by rw [List.getElem?_toArray]; rfl) (fun K hK => ?_) AllReadyH.nil
          go_simp
          refine hK.out _ _ hHeld (fun hHeld => ?_)
          clear hK K
          try simp only [Act.put, List.setIfInBounds_toArray, List.set_cons_zero, List.set_cons_succ]
          refine wpAnyH_done (by kernel_rfl) ?_ _
          refine NoPanic.normal ?_
          go_wp2_with fail
          go_meet
          exact madeR_of rfl HB Bbl Bbb OV Nbl Nbb (fun i e => ⟨nv_be i e, nv_bl i e⟩) hnL
        exact AllReadyH.nil
      refine AllReadyH.cons (by rw [List.getElem?_toArray]; rfl) (fun K hK => ?_) ?_
      · skip
        have OE : OwnV u1 (.slice (some ⟨be, 0, none⟩) 0 0) [] := ⟨rfl, .inr ⟨be, 0, #[], rfl, Bbe, Nat.le_refl _, by omega, by simp, rfl⟩⟩
        refine step_appendV _ (by rfl) (.tmp 59) (.tmp 60) rfl (.slice (some ⟨be, 0, none⟩) 0 0) [] rfl OE A' m' c' ys rfl (HYW.out.new HB) (by simp; omega) ?_
        intro v1 u2 OV0 hg1 ha1
        have OV : OwnV u2 v1 ys := by simpa using OV0
        have HBn := HB.grown hg1 HB.size (fun q e => by cases e; exact Nbe)
        have nv_be : ∀ i, v1.ownBlock = some i → W.heap.size ≤ i := by
          intro i e
          rcases ha1 with h | h <;> rw [h] at e
          · cases e; exact Nbe
          · cases e; exact HB.size
        clear OV0 hg1 ha1 OE Bbe HB
        have HB := HBn
        clear HBn
        obtain ⟨Ac, nc, cc, rfl, _⟩ := OwnV.rd OV
        refine hK.out _ _ (HALL.out _ HB) (fun hHeld => ?_)
        clear hK K
        try simp only [Act.put, List.setIfInBounds_toArray, List.set_cons_zero, List.set_cons_succ]
        refine wpAnyH_ready (rs := [4, 8]) (by kernel_rfl) (by simp) ?_
        refine AllReadyH.cons (by rw [List.getElem?_toArray]; rfl) (fun K hK => ?_) ?_
        · skip
          go_simp
          refine hK.out _ _ (HALL.out _ (HB.alloc HB.size (.cells (zV nL) 44))) (fun hHeld => ?_)
          clear hK K
          try simp only [Act.put, List.setIfInBounds_toArray, List.set_cons_zero, List.set_cons_succ]
          have Bbl : Blk (u2.alloc (.cells (zV nL) 44)) u2.heap.size 44 (zV nL) := Blk.new u2 44 _
          have HB3 := HB.alloc HB.size (.cells (zV nL) 44)
          have Nbl : W.heap.size ≤ u2.heap.size := HB.size
          have nv_bl : ∀ i, (Value.slice Ac nc cc).ownBlock = some i → i ≠ u2.heap.size := fun i e => Nat.ne_of_lt (Own.lt OV e)
          replace OV := Own.new OV (w' := u2.alloc (.cells (zV nL) 44)) ((Below.refl _ _).alloc (Nat.le_refl _) _)
          clear HB
          have HB := HB3
          clear HB3
          generalize u2.heap.size = bl at *
          generalize u2.alloc (.cells (zV nL) 44) = u3 at *
          refine wpAnyH_ready (rs := [8]) (by kernel_rfl) (by simp) ?_
          refine AllReadyH.cons (by rw [List.getElem?_toArray]; rfl) (fun K hK => ?_) AllReadyH.nil
          go_simp
          refine hK.out _ _ (HALL.out _ (HB.alloc HB.size (.cells (zB nL) 4))) (fun hHeld => ?_)
          clear hK K
          try simp only [Act.put, List.setIfInBounds_toArray, List.set_cons_zero, List.set_cons_succ]
          have Bbb : Blk (u3.alloc (.cells (zB nL) 4)) u3.heap.size 4 (zB nL) := Blk.new u3 4 _
          have HB4 := HB.alloc HB.size (.cells (zB nL) 4)
          have Nbb : W.heap.size ≤ u3.heap.size := HB.size
          have ne_bl_bb : bl ≠ u3.heap.size := Nat.ne_of_lt Bbl.lt
          replace Bbl := Bbl.alloc (.cells (zB nL) 4)
          have nv_bb : ∀ i, (Value.slice Ac nc cc).ownBlock = some i → i ≠ u3.heap.size := fun i e => Nat.ne_of_lt (Own.lt OV e)
          replace OV := Own.new OV (w' := u3.alloc (.cells (zB nL) 4)) ((Below.refl _ _).alloc (Nat.le_refl _) _)
          clear HB
          have HB := HB4
          clear HB4
          generalize u3.heap.size = bb at *
          generalize u3.alloc (.cells (zB nL) 4) = u4 at *
          refine wpAnyH_ready (rs := [12]) (by kernel_rfl) (by simp) ?_
          refine AllReadyH.cons (by rw [List.getElem?_toArray]; rfl) (fun K hK => ?_) AllReadyH.nil
          go_simp
          refine hK.out _ _ (HALL.out _ HB) (fun hHeld => ?_)
          clear hK K
          try simp only [Act.put, List.setIfInBounds_toArray, List.set_cons_zero, List.set_cons_succ]
          refine wpAnyH_ready (rs := [13]) (by kernel_rfl) (by simp) ?_
          refine AllReadyH.cons (by rw [List.getElem?_toArray]; rfl) (fun K hK => ?_) AllReadyH.nil
          go_simp
          refine hK.out _ _ (HALL.out _ (HB.alloc HB.size _)) (fun hHeld => ?_)
          clear hK K
          try simp only [Act.put, List.setIfInBounds_toArray, List.set_cons_zero, List.set_cons_succ]
          refine wpAnyH_ready (rs := [14]) (by kernel_rfl) (by simp) ?_
          refine AllReadyH.cons (by rw [List.getElem?_toArray]; rfl) (fun K hK => ?_) AllReadyH.nil
          go_simp
          refine hK.out _ _ hHeld (fun hHeld => ?_)
          clear hK K
          try simp only [Act.put, List.setIfInBounds_toArray, List.set_cons_zero, List.set_cons_succ]
          refine wpAnyH_done (by kernel_rfl) ?_ _
          refine NoPanic.normal ?_
          go_wp2_with fail
          go_meet
          exact madeR_of rfl HB Bbl Bbb OV Nbl Nbb (fun i e => ⟨nv_be i e, nv_bl i e⟩) hnL
        refine AllReadyH.cons (by rw [List.getElem?_toArray]; rfl) (fun K hK => ?_) ?_
        · skip
          go_simp
          refine hK.out _ _ (HALL.out _ (HB.alloc HB.size (.cells (zB nL) 4))) (fun hHeld => ?_)
          clear hK K
          try simp only [Act.put, List.setIfInBounds_toArray, List.set_cons_zero, List.set_cons_succ]
          have Bbb : Blk (u2.alloc (.cells (zB nL) 4)) u2.heap.size 4 (zB nL) := Blk.new u2 4 _
          have HB3 := HB.alloc HB.size (.cells (zB nL) 4)
          have Nbb : W.heap.size ≤ u2.heap.size := HB.size
          have nv_bb : ∀ i, (Value.slice Ac nc cc).ownBlock = some i → i ≠ u2.heap.size := fun i e => Nat.ne_of_lt (Own.lt OV e)
          replace OV := Own.new OV (w' := u2.alloc (.cells (zB nL) 4)) ((Below.refl _ _).alloc (Nat.le_refl _) _)
          clear HB
          have HB := HB3
          clear HB3
          generalize u2.heap.size = bb at *
          generalize u2.alloc (.cells (zB nL) 4) = u3 at *
          refine wpAnyH_ready (rs := [4]) (by kernel_rfl) (by simp) ?_
          refine AllReadyH.cons (by rw [List.getElem?_toArray]; rfl) (fun K hK => ?_) AllReadyH.nil
          go_simp
          refine hK.out _ _ (HALL.out _ (HB.alloc HB.size (.cells (zV nL) 44))) (fun hHeld => ?_)
          clear hK K
          try simp only [Act.put, List.setIfInBounds_toArray, List.set_cons_zero, List.set_cons_succ]
          have Bbl : Blk (u3.alloc (.cells (zV nL) 44)) u3.heap.size 44 (zV nL) := Blk.new u3 44 _
          have HB4 := HB.alloc HB.size (.cells (zV nL) 44)
          have Nbl : W.heap.size ≤ u3.heap.size := HB.size
          have ne_bb_bl : bb ≠ u3.heap.size := Nat.ne_of_lt Bbb.lt
          replace Bbb := Bbb.alloc (.cells (zV nL) 44)
          have nv_bl : ∀ i, (Value.slice Ac nc cc).ownBlock = some i → i ≠ u3.heap.size := fun i e => Nat.ne_of_lt (Own.lt OV e)
          replace OV := Own.new OV (w' := u3.alloc (.cells (zV nL) 44)) ((Below.refl _ _).alloc (Nat.le_refl _) _)
          clear HB
          have HB := HB4
          clear HB4
          generalize u3.heap.size = bl at *
          generalize u3.alloc (.cells (zV nL) 44) = u4 at *
          refine wpAnyH_ready (rs := [12]) (by kernel_rfl) (by simp) ?_
          refine AllReadyH.cons (by rw [List.getElem?_toArray]; rfl) (fun K hK => ?_) AllReadyH.nil
          go_simp
          refine hK.out _ _ (HALL.out _ HB) (fun hHeld => ?_)
          clear hK K
          try simp only [Act.put, List.setIfInBounds_toArray, List.set_cons_zero, List.set_cons_succ]
          refine wpAnyH_ready (rs := [13]) (by kernel_rfl) (by simp) ?_
          refine AllReadyH.cons (by rw [List.getElem?_toArray]; rfl) (fun K hK => ?_) AllReadyH.nil
          go_simp
          refine hK.out _ _ (HALL.out _ (HB.alloc HB.size _)) (fun hHeld => ?_)
          clear hK K
          try simp only [Act.put, List.setIfInBounds_toArray, List.set_cons_zero, List.set_cons_succ]
          refine wpAnyH_ready (rs := [14]) (by kernel_rfl) (by simp) ?_
          refine AllReadyH.cons (by rw [List.getElem?_toArray]; rfl) (fun K hK => ?_) AllReadyH.nil
          go_simp
          refine hK.out _ _ hHeld (fun hHeld => ?_)
          clear hK K
          try simp only [Act.put, List.setIfInBounds_toArray, List.set_cons_zero, List.set_cons_succ]
          refine wpAnyH_done (by kernel_rfl) ?_ _
          refine NoPanic.normal ?_
          go_wp2_with fail
          go_meet
          exact madeR_of rfl HB Bbl Bbb OV Nbl Nbb (fun i e => ⟨nv_be i e, nv_bl i e⟩) hnL
        exact AllReadyH.nil
      exact AllReadyH.nil
    exact AllReadyH.nil
  case rest =>
    obtain ⟨g, bl, bb, C, rfl, hF, hft, hBs⟩ := hcut
    have HFT := Lib.hid hft
    clear hft mV mB
    have hlW : ∀ i, foot g (.slice (some ⟨bl, 0, none⟩) nL nL) (.slice (some ⟨bb, 0, none⟩) nL nL) C (.slice none 0 0) (.slice none 0 0) i → W.heap.size ≤ i := HFT.out
    have hFs : FrAt 82 86 wc g (Fr.rat k LL CC xs ys nL 0) (.slice (some ⟨bl, 0, none⟩) nL nL) (.slice (some ⟨bb, 0, none⟩) nL nL) C (.slice none 0 0) (.slice none 0 0) := by
      unfold Fr.rat
      rw [rlocTo_zero, bndTo_zero]
      exact hF
    clear hF
    go_wp2_with fail
    go_loopw [12] (fun i wr => ∃ j : Nat, j ≤ m ∧ i = .int .i64 j ∧ FrAt 82 86 wr g (Fr.rat k LL CC xs ys nL j) (.slice (some ⟨bl, 0, none⟩) nL nL) (.slice (some ⟨bb, 0, none⟩) nL nL) C (.slice none 0 0) (.slice none 0 0) ∧ Below W.heap.size W wr) (fun i _ => m - (intOf i).toNat)
    case atStart => exact ⟨0, Nat.zero_le _, rfl, hFs, hBs⟩
    case round =>
      obtain ⟨j, hj, rfl, hFr, hBr⟩ := hrel
      clear hFs hBs
      by_cases hlt : j < m
      · have hjL : j < nL := by omega
        have hjl : j < nL := hjL
        obtain ⟨bL, oL, rfl, hbL, hsL⟩ := HRL.out.at_ hjL
        have hsR := (hBr.cell (p := ⟨bL, oL + j, none⟩) hbL).trans hsL
        obtain ⟨sj, hsj⟩ : ∃ s, LL.getD j ⟨#[]⟩ = s := ⟨_, rfl⟩
        have eL : LL[j]'(by rw [HRL.out.1]; exact hjL) = sj := by rw [← hsj, List.getD_eq_getElem?_getD, List.getElem?_eq_getElem]; rfl
        rw [eL] at hsR
        have HSJ := Lib.hid hsj
        have hcodeR := hcode.below hBr hcode.lt
        have d5 : wr.cell? ⟨w.heap.size, 5, none⟩ = some (.slice (some ⟨bL, oL, none⟩) nL cL) := hcodeR.cell 5
        have d6 : wr.cell? ⟨w.heap.size, 6, none⟩ = some (.slice AC nC cC) := hcodeR.cell 6
        have c2 : wr.cell? ⟨g, 2, none⟩ = some (.slice (some ⟨bl, 0, none⟩) nL nL) := hFr.blk.cell 2
        have c3 : wr.cell? ⟨g, 3, none⟩ = some (.slice (some ⟨bb, 0, none⟩) nL nL) := hFr.blk.cell 3
        obtain ⟨_, e, hbl, l0, l1, l2, lz⟩ := hFr.l.at_ (i := j) (by rw [show (Fr.rat k LL CC xs ys nL j).locals = rlocTo LL CC xs nL j from rfl, rlocTo_length]; exact hjL)
        cases e
        obtain ⟨_, e, hbb, b0, bz⟩ := hFr.b.at_ (i := j) (by rw [show (Fr.rat k LL CC xs ys nL j).bound = bndTo LL CC nL j from rfl, bndTo_length]; exact hjL)
        cases e
        have hne : bl ≠ bb := fun e => own_own_ne hFr.l hFr.b (by decide) (b := bl) rfl (by rw [e]; rfl)
        have hgb : g ≠ bb := fun e => own_blk_ne hFr.b hFr.blk (by decide) (by rw [e]; rfl)
        have hgl : g ≠ bl := fun e => own_blk_ne hFr.l hFr.blk (by decide) (by rw [e]; rfl)
        have hgl' : bl ≠ g := Ne.symm hgl
        have hne' : bb ≠ bl := Ne.symm hne
        have hRCr := HRC.out.new (hBr.mono (Nat.le_refl _))
        obtain ⟨bA, oA, rfl, hbA, a0, a1, a2⟩ := (hxW.new hBr).at_ hlt
        have hxj : xs.getD j V.zero = xs[j]'(by rw [hxW.1]; exact hlt) := by rw [List.getD_eq_getElem?_getD, List.getElem?_eq_getElem]; rfl
        have i0 : (0 : Int) ≤ (j : Int) := by omega
        have i1 : (j : Int) < (nL : Int) := by omega
        have HFr := Lib.hid hFr
        have HXJ := Lib.hid hxj
        clear hFr hsL hsj eL hcodeR hxj
        generalize (Fr.rat k LL CC xs ys nL j).locals[j]'_ = lv at l0 l1 l2
        generalize (Fr.rat k LL CC xs ys nL j).bound[j]'_ = bv at b0
        generalize xs[j]'_ = xj at *
        go_wp2_with fail
        go_quiet ((go_at_call 38; exact Calls.quiet_of_same (in_any AC nC cC CC sj _ (by exact hRCr.new (below_drewN (Below.refl _ _) _)))))
        have hBq := below_drewN hBr nq
        cases hbv : hasS CC sj
        · have HBV := Lib.hid hbv
          clear hbv
          go_wp2_with fail
          go_region
          all_goals
            go_wp2
            go_roundw
            case rel =>
              have hb1 := store_local (by decide) (by decide) HFr.out (i := j) (by rw [show (Fr.rat k LL CC xs ys nL j).locals = rlocTo LL CC xs nL j from rfl, rlocTo_length]; exact hjL) xj
              have hb2 := store_bound (by decide) (by decide) hb1 (i := j) (by rw [show ({ Fr.rat k LL CC xs ys nL j with locals := (Fr.rat k LL CC xs ys nL j).locals.set j xj } : Fr).bound = bndTo LL CC nL j from rfl, bndTo_length]; exact hjL) true
              have e1 : bndTo LL CC nL (j + 1) = (bndTo LL CC nL j).set j true := by rw [← bndTo_step, HSJ.out, HBV.out]; rfl
              have e2 : rlocTo LL CC xs nL (j + 1) = (rlocTo LL CC xs nL j).set j xj := by rw [← rlocTo_out LL CC xs nL j (by rw [HSJ.out]; exact HBV.out), HXJ.out]
              have hl := hlW bl (.inr (.inl rfl))
              refine ⟨j + 1, by omega, by go_num, ?_, below_drewN (((((hBr.setCell (p := ⟨bl, j * 3, none⟩) hl _).setCell (p := ⟨bl, j * 3 + 1, none⟩) hl _).setCell (p := ⟨bl, j * 3 + 2, none⟩) hl _).setCell (p := ⟨bb, j, none⟩) (hlW bb (.inr (.inr (.inl rfl)))) _)) _⟩
              unfold Fr.rat
              rw [e1, e2]
              exact hb2.keep fun _ _ => rfl
            case measure => simp [intOf]; omega
        · have HBV := Lib.hid hbv
          clear hbv
          go_wp2
          go_roundw
          case rel =>
            have e1 : bndTo LL CC nL (j + 1) = bndTo LL CC nL j := by
              rw [← bndTo_step, HSJ.out, HBV.out]
              apply List.ext_getElem
              · simp
              · intro i h1 h2
                rw [List.getElem_set]
                split
                · rename_i h
                  subst h
                  simp [bndTo]
                · rfl
            have e2 : rlocTo LL CC xs nL (j + 1) = rlocTo LL CC xs nL j := (rlocTo_in LL CC xs nL j (by rw [HSJ.out]; exact HBV.out)).symm
            refine ⟨j + 1, by omega, by go_num, ?_, hBq⟩
            unfold Fr.rat
            rw [e1, e2]
            exact HFr.out.keep fun _ _ => rfl
          case measure => simp [intOf]; omega
      · have hjm : j = m := by omega
        have HJM := Lib.hid hjm
        clear hjm
        have HFr := Lib.hid hFr
        clear hFr
        go_wp2
        go_ret2
        have hx1 := hxW.1
        have hzw := HZW.out
        have hBf : Below w.heap.size w wr := hBW.trans (hBr.mono (by omega))
        refine ⟨g, rfl, ⟨_, _, C, _, _, ?_, fun i hi => .inr ⟨by have := hlW i hi; omega, HFr.out.lt hi⟩, fun i hi => ?_⟩, hBf⟩
        · have e : Fr.new k LL CC xs ys = Fr.rat k LL CC xs ys nL j := by
            unfold Fr.new Fr.at_ Fr.rat
            rw [HRL.out.1, HJM.out, ← hx1, rlocTo_end]
          rw [e]
          exact HFr.out
        · rcases hi with h | ⟨_, h⟩
          · exact h.elim
          · exact h
end Go.Proofs.Ythdkloojhenlkaa
