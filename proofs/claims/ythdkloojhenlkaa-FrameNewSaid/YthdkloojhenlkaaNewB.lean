/- New: a frame of a code. -/
import Derived.Test.YthdkloojhenlkaaNewA
import Derived.Laws.MakeOwn
import Derived.Laws.OwnMore
import Derived.Deep.RegionWith
import Derived.Deep.DeepCutAuto
import Derived.Deep.RegionHeld3
namespace Go.Proofs.Ythdkloojhenlkaa
open Go.RowKit
attribute [local go_sem high] guardV eqV neqV
attribute [local go_sem] V.v

/-- code number k of the program at A: its params, locals, cells, and how many free names it has -/
def CodeAt (w : World) (A : Option Addr) (k : Nat) (params : Int) (L C : List ByteArray) (nf : Nat) : Prop :=
  ∃ b o s0 k1 k3 b4 AL nL cL AC nC cC AF cF A8 n8 c8 A9 n9 c9 A10 n10 c10, A = some ⟨b, o, none⟩ ∧ b < w.heap.size ∧
    w.cell? ⟨b, o + k * 11, none⟩ = some (.string s0) ∧ w.cell? ⟨b, o + k * 11 + 1, none⟩ = some (.int .i64 k1) ∧ w.cell? ⟨b, o + k * 11 + 2, none⟩ = some (.int .i64 params) ∧
    w.cell? ⟨b, o + k * 11 + 3, none⟩ = some (.int .i64 k3) ∧ w.cell? ⟨b, o + k * 11 + 4, none⟩ = some (.bool b4) ∧ w.cell? ⟨b, o + k * 11 + 5, none⟩ = some (.slice AL nL cL) ∧
    w.cell? ⟨b, o + k * 11 + 6, none⟩ = some (.slice AC nC cC) ∧ w.cell? ⟨b, o + k * 11 + 7, none⟩ = some (.slice AF nf cF) ∧ w.cell? ⟨b, o + k * 11 + 8, none⟩ = some (.slice A8 n8 c8) ∧
    w.cell? ⟨b, o + k * 11 + 9, none⟩ = some (.slice A9 n9 c9) ∧ w.cell? ⟨b, o + k * 11 + 10, none⟩ = some (.slice A10 n10 c10) ∧ RdS w AL nL cL L ∧ RdS w AC nC cC C

def zV (n : Nat) : Array Value := (vcs (List.replicate n V.zero)).toArray
def zB (n : Nat) : Array Value := (bcs (List.replicate n false)).toArray
theorem made_V (n : Nat) : madeCells (Value.agg #[.int .i64 0, .int .i64 0, .string ⟨#[]⟩]).cells (n * 3) = zV n := by
  unfold zV
  apply Array.toList_inj.1
  induction n with
  | zero => simp [madeCells, vcs]
  | succ n ih =>
    rw [List.replicate_succ', vcs_append, vcs_one]
    simp only [madeCells, Array.toList_map, Array.toList_range] at ih ⊢
    have e : (n + 1) * 3 = n * 3 + 1 + 1 + 1 := by omega
    rw [e, List.range_succ, List.range_succ, List.range_succ, List.map_append, List.map_append, List.map_append, ih]
    have e0 : n * 3 % 3 = 0 := by omega
    have e1 : (n * 3 + 1) % 3 = 1 := by omega
    have e2 : (n * 3 + 1 + 1) % 3 = 2 := by omega
    simp [Value.cells, e0, e1, e2, V.zero]
theorem made_B (n : Nat) : madeCells #[Value.bool false] n = zB n := by
  unfold zB
  apply Array.toList_inj.1
  rw [toList_madeCells_one]
  simp [bcs]
theorem info_B : (Try.prog.info? 4).map (fun i => (i.zero, i.size, i.bytes)) = some (some (.bool false), 1, 1) := by kernel_rfl

theorem run_make_rowN {P : Program} (t e : TypeId) (i : TypeInfo) (z : Value) (ht : P.underlying t = some (.slice e)) (hi : P.info? e = some i) (hz : i.zero = some z)
    (kl kc : IntKind) (n c : Nat) (hnc : n ≤ c) (hbytes : i.bytes * c ≤ 281474976710656) (h63 : c ≤ 9223372036854775807) (w : World) :
    (Instr.makeSlice t (.int kl (n : Int)) (.int kc (c : Int))).run P w = .ok (.slice (some ⟨w.heap.size, 0, none⟩) n c) (w.alloc (.cells (madeCells z.cells (c * i.size)) e)) := by
  have hb : (i.bytes : Int) * (c : Int) ≤ 281474976710656 := by
    have h : ((i.bytes * c : Nat) : Int) ≤ 281474976710656 := by omega
    rwa [Int.natCast_mul] at h
  have hr := run_make (P := P) w t e i z ht hi hz kl kc n c (by omega) (by omega) hb (by omega)
  simp only [Int.toNat_natCast] at hr
  exact hr
theorem make_V (n : Nat) (hn : n ≤ 4398046511104) (w : World) : (Instr.makeSlice 24 (.int .i64 (n : Int)) (.int .i64 (n : Int))).run Try.prog w = .ok (.slice (some ⟨w.heap.size, 0, none⟩) n n) (w.alloc (.cells (zV n) 44)) := by
  obtain ⟨i0, hi, hz0, hz1, hz2⟩ := info_parts info_V
  have := run_make_rowN (P := Try.prog) 24 44 i0 _ Try.underlying24 hi hz0 .i64 .i64 n n (Nat.le_refl _) (by rw [hz2]; omega) (by omega) w
  rw [hz1, made_V] at this
  exact this
theorem make_B (n : Nat) (hn : n ≤ 4398046511104) (w : World) : (Instr.makeSlice 50 (.int .i64 (n : Int)) (.int .i64 (n : Int))).run Try.prog w = .ok (.slice (some ⟨w.heap.size, 0, none⟩) n n) (w.alloc (.cells (zB n) 4)) := by
  obtain ⟨i0, hi, hz0, hz1, hz2⟩ := info_parts info_B
  have := run_make_rowN (P := Try.prog) 50 4 i0 _ Try.underlying50 hi hz0 .i64 .i64 n n (Nat.le_refl _) (by rw [hz2]; omega) (by omega) w
  rw [hz1, Nat.mul_one] at this
  rw [this, ← made_B]
  rfl

/-- a new frame, told from w on -/
def Made (w : World) (n : Nat) (F : Fr) (v : Value) (wx : World) : Prop :=
  ∃ g bl bb C, v = .pointer (some ⟨g, 0, none⟩) ∧ FrAt 53 85 wx g F (.slice (some ⟨bl, 0, none⟩) n n) (.slice (some ⟨bb, 0, none⟩) n n) C (.slice none 0 0) (.slice none 0 0) ∧
    (∀ i, foot g (.slice (some ⟨bl, 0, none⟩) n n) (.slice (some ⟨bb, 0, none⟩) n n) C (.slice none 0 0) (.slice none 0 0) i → w.heap.size ≤ i) ∧ Below w.heap.size w wx

def Fr.start (k : Nat) (n : Nat) (ys : List V) : Fr := ⟨k, 0, List.replicate n V.zero, List.replicate n false, ys, V.zero, [], [], 0, V.zero, -1⟩

/-- locals and marks behind j rounds -/
def locTo (LL CC : List ByteArray) (xs : List V) (n j : Nat) : List V := (List.range n).map fun i => if decide (i < j) && hasS CC (LL.getD i ⟨#[]⟩) then V.zero else xs.getD i V.zero
def bndTo (LL CC : List ByteArray) (n j : Nat) : List Bool := (List.range n).map fun i => decide (i < j) && !hasS CC (LL.getD i ⟨#[]⟩)
def Fr.at_ (k : Nat) (LL CC : List ByteArray) (xs ys : List V) (n j : Nat) : Fr := ⟨k, 0, locTo LL CC xs n j, bndTo LL CC n j, ys, V.zero, [], [], 0, V.zero, -1⟩
/-- the frame that a code begins with -/
def Fr.new (k : Nat) (LL CC : List ByteArray) (xs ys : List V) : Fr := Fr.at_ k LL CC xs ys LL.length xs.length
def NewIs (w : World) (F : Fr) (e : Ending) (w' : World) : Prop := ∃ g, e = .returned (.tuple #[.pointer (some ⟨g, 0, none⟩), .bool true]) ∧ IsFr 53 85 w' (Grew (fun _ => False) w w') g F ∧ Below w.heap.size w w'
theorem locTo_length (LL CC : List ByteArray) (xs : List V) (n j : Nat) : (locTo LL CC xs n j).length = n := by simp [locTo]
theorem bndTo_length (LL CC : List ByteArray) (n j : Nat) : (bndTo LL CC n j).length = n := by simp [bndTo]
theorem locTo_zero (LL CC : List ByteArray) (xs : List V) (n : Nat) (h : xs.length ≤ n) : locTo LL CC xs n 0 = xs ++ (List.replicate n V.zero).drop xs.length := by
  apply List.ext_getElem
  · simp [locTo]; omega
  · intro i h1 h2
    simp [locTo]
    by_cases hi : i < xs.length
    · rw [List.getElem_append_left hi, List.getElem?_eq_getElem hi]
      rfl
    · rw [List.getElem_append_right (by omega), List.getElem?_eq_none (by omega)]
      simp
theorem bndTo_zero (LL CC : List ByteArray) (n : Nat) : bndTo LL CC n 0 = List.replicate n false := by
  apply List.ext_getElem
  · simp [bndTo]
  · intro i h1 h2
    simp [bndTo]
theorem locTo_in (LL CC : List ByteArray) (xs : List V) (n j : Nat) (h : hasS CC (LL.getD j ⟨#[]⟩) = true) : (locTo LL CC xs n j).set j V.zero = locTo LL CC xs n (j + 1) := by
  apply List.ext_getElem
  · simp [locTo]
  · intro i h1 h2
    rw [List.getElem_set]
    simp only [locTo, List.getElem_map, List.getElem_range]
    by_cases hi : j = i
    · subst hi
      simp only [if_true, h, Nat.lt_succ_self, decide_true, Bool.and_self]
    · rw [if_neg hi]
      have : decide (i < j) = decide (i < j + 1) := by rw [decide_eq_decide]; omega
      rw [this]
theorem locTo_out (LL CC : List ByteArray) (xs : List V) (n j : Nat) (h : hasS CC (LL.getD j ⟨#[]⟩) = false) : locTo LL CC xs n j = locTo LL CC xs n (j + 1) := by
  apply List.ext_getElem
  · simp [locTo]
  · intro i h1 h2
    simp only [locTo, List.getElem_map, List.getElem_range]
    by_cases hi : j = i
    · subst hi
      simp only [h, Bool.and_false]
    · have : decide (i < j) = decide (i < j + 1) := by rw [decide_eq_decide]; omega
      rw [this]
theorem bndTo_step (LL CC : List ByteArray) (n j : Nat) : (bndTo LL CC n j).set j (!hasS CC (LL.getD j ⟨#[]⟩)) = bndTo LL CC n (j + 1) := by
  apply List.ext_getElem
  · simp [bndTo]
  · intro i h1 h2
    rw [List.getElem_set]
    simp only [bndTo, List.getElem_map, List.getElem_range]
    by_cases hi : j = i
    · subst hi
      simp
    · rw [if_neg hi]
      have : decide (i < j) = decide (i < j + 1) := by rw [decide_eq_decide]; omega
      rw [this]

theorem Blk.drew {w : World} {t : TypeId} {cs : Array Value} {g : Nat} (h : Blk w g t cs) : Blk w.drew g t cs := h
theorem Blk.newAt {w : World} {t : TypeId} {cs : Array Value} {g : Nat} (h : g = w.heap.size) : Blk (w.alloc (.cells cs t)) g t cs := by rw [h]; exact Blk.new w t cs
theorem zV_own {w : World} {b n : Nat} (h : Blk w b 44 (zV n)) (hn : n ≤ 1000000) : OwnV w (.slice (some ⟨b, 0, none⟩) n n) (List.replicate n V.zero) :=
  ⟨vcs_length _, .inr ⟨b, n, zV n, by rw [List.length_replicate], h, by rw [List.length_replicate]; omega, by omega, by simp [zV, vcs_length], by rw [← vcs_length]; simp [zV]⟩⟩
theorem zB_own {w : World} {b n : Nat} (h : Blk w b 4 (zB n)) (hn : n ≤ 1000000) : OwnB w (.slice (some ⟨b, 0, none⟩) n n) (List.replicate n false) :=
  ⟨bcs_length _, .inr ⟨b, n, zB n, by rw [List.length_replicate], h, by rw [List.length_replicate]; omega, by omega, by simp [zB, bcs_length], by rw [← bcs_length]; simp [zB]⟩⟩
theorem made_of {W wz : World} {n k g bl bb : Nat} {C : Value} {ys : List V} (hg : g = wz.heap.size) (hB : Below W.heap.size W wz) (hl : Blk wz bl 44 (zV n)) (hb : Blk wz bb 4 (zB n)) (hc : OwnV wz C ys)
    (hbl : W.heap.size ≤ bl) (hbb : W.heap.size ≤ bb) (hC : ∀ i, C.ownBlock = some i → W.heap.size ≤ i ∧ i ≠ bl) (hn : n ≤ 1000000) :
    Made W n (Fr.start k n ys) (.pointer (some ⟨g, 0, none⟩)) (wz.alloc (.cells #[.int .i64 k, .int .i64 0, .slice (some ⟨bl, 0, none⟩) n n, .slice (some ⟨bb, 0, none⟩) n n, C, .int .i64 0, .int .i64 0, .string ⟨#[]⟩, .slice none 0 0, .slice none 0 0, .int .i64 0, .int .i64 0, .int .i64 0, .string ⟨#[]⟩, .int .i64 (-1)] 53)) := by
  subst hg
  have hs := hB.size
  have hnew : Below wz.heap.size wz (wz.alloc (.cells #[.int .i64 k, .int .i64 0, .slice (some ⟨bl, 0, none⟩) n n, .slice (some ⟨bb, 0, none⟩) n n, C, .int .i64 0, .int .i64 0, .string ⟨#[]⟩, .slice none 0 0, .slice none 0 0, .int .i64 0, .int .i64 0, .int .i64 0, .string ⟨#[]⟩, .int .i64 (-1)] 53)) := (by repeat (first | exact Below.refl _ _ | assumption | refine Below.setCell ?_ (by first | (simp; done) | (simp; omega) | omega) _ | refine below_drewN ?_ _ | refine Below.drew ?_ | refine Below.alloc ?_ (by first | (simp; done) | (simp; omega) | omega) _))
  refine ⟨_, bl, bb, C, rfl, ⟨Blk.new wz 53 _, zV_own (hl.below hnew hl.lt) hn, zB_own (hb.below hnew hb.lt) hn, Own.new hc hnew, OwnV.nil_ _, Own.nil_ _ _ _, ?_, ?_, ?_⟩, ?_, ?_⟩
  · intro i e e'
    simp only [Value.ownBlock, Option.some.injEq] at e
    exact (hC i e').2 e.symm
  · intro i _ e'
    cases e'
  · intro i _ e'
    cases e'
  · intro i hi
    rcases hi with rfl | e | e | e | e | e
    · exact hs
    · simp only [Value.ownBlock, Option.some.injEq] at e
      omega
    · simp only [Value.ownBlock, Option.some.injEq] at e
      omega
    · exact (hC i e).1
    · cases e
    · cases e
  · exact hB.alloc hs _

set_option maxRecDepth 100000 in
set_option maxHeartbeats 1000000 in
theorem new_yes (Ap : Option Addr) (np cp k : Nat) (LL CC : List ByteArray) (nf : Nat) (A : Option Addr) (m c : Nat) (xs : List V) (A' : Option Addr) (m' c' : Nat) (ys : List V) (w : World)
    (hk : k < np) (_hnp : np ≤ 9223372036854775807) (hC : CodeAt w Ap k m LL CC nf) (hx : RdV w A m c xs) (hy : RdV w A' m' c' ys) (hm : m ≤ LL.length) (hm' : m' = CC.length + nf) (hL : LL.length ≤ 1000000) (hCl : CC.length + nf ≤ 1000000) :
    Calls Try.prog 16 #[.slice Ap np cp, .int .i64 k, .slice A m c, .slice A' m' c'] w (NewIs w (Fr.new k LL CC xs ys)) := by
  obtain ⟨b, o, s0, k1, k3, b4, AL, nL, cL, AC, nC, cC, AF, cF, A8, n8, c8, A9, n9, c9, A10, n10, c10, rfl, hb, q0, q1, q2, q3, q4, q5, q6, q7, q8, q9, q10, hRL, hRC⟩ := hC
  have mV := make_V nL (by rw [← hRL.1]; omega)
  have mB := make_B nL (by rw [← hRL.1]; omega)
  have hmL : m ≤ nL := by rw [← hRL.1]; exact hm
  have hmC : m' = nC + nf := by rw [← hRC.1]; exact hm'
  have hnL : nL ≤ 1000000 := by rw [← hRL.1]; exact hL
  have hnC : nC + nf ≤ 1000000 := by rw [← hRC.1]; exact hCl
  have e1 : ((m : Int) != (m : Int)) = false := by simp
  have e2 : ((m' : Int) != ((nC : Int) + (nf : Int))) = false := by rw [bne_eq_false_iff_eq]; omega
  have hm2 : m' ≤ 1000000 := by omega
  clear hm hm' hL hCl hmC
  go_enter Try.func16, Try.ntmps16
  go_upto_region 7 with fail
  generalize hW : w.alloc (Obj.cells #[Value.string s0, Value.int IntKind.i64 k1, Value.int IntKind.i64 ↑m, Value.int IntKind.i64 k3, Value.bool b4,
      Value.slice AL nL cL, Value.slice AC nC cC, Value.slice AF nf cF, Value.slice A8 n8 c8, Value.slice A9 n9 c9, Value.slice A10 n10 c10] 31) = W
  have hBW : Below w.heap.size w W := by rw [← hW]; exact (by repeat (first | exact Below.refl _ _ | assumption | refine Below.setCell ?_ (by first | (simp; done) | (simp; omega) | omega) _ | refine below_drewN ?_ _ | refine Below.drew ?_ | refine Below.alloc ?_ (by first | (simp; done) | (simp; omega) | omega) _))
  have hzW : W.heap.size = w.heap.size + 1 := by rw [← hW]; simp
  have hcode : Blk W w.heap.size 31 #[Value.string s0, Value.int IntKind.i64 k1, Value.int IntKind.i64 ↑m, Value.int IntKind.i64 k3, Value.bool b4,
      Value.slice AL nL cL, Value.slice AC nC cC, Value.slice AF nf cF, Value.slice A8 n8 c8, Value.slice A9 n9 c9, Value.slice A10 n10 c10] := by rw [← hW]; exact Blk.new w 31 _
  have hxW := hx.new hBW
  have hyW := hy.new hBW
  have HRL := Lib.hid (hRL.new hBW)
  have HRC := Lib.hid (hRC.new hBW)
  have HZW := Lib.hid hzW
  clear hzW hW q0 q1 q2 q3 q4 q5 q6 q7 q8 q9 q10 hRL hRC hx hy
  go_cut [12] (fun s12 wx => Made W nL (Fr.start k nL ys) s12 wx)
  case first =>
    clear hxW hcode HRL HRC HZW
    go_region_with (go_at_call 36; refine (clone_any A' m' c' ys _ (by exact hyW.new (by repeat (first | exact Below.refl _ _ | assumption | refine Below.setCell ?_ (by first | (simp; done) | (simp; omega) | omega) _ | refine below_drewN ?_ _ | refine Below.drew ?_ | refine Below.alloc ?_ (by first | (simp; done) | (simp; omega) | omega) _))) (by omega)).mono ?_; rintro e w1 ⟨v, rfl, hv, hvn, hb⟩; obtain ⟨Ac, nc, cc, rfl, _⟩ := hv.rd; have HV := Lib.hid hv; have HVN := Lib.hid hvn; have HB := Lib.hid hb; clear hv hvn hb)
    all_goals
      go_wp2_with fail
      go_meet
      have hs1 := HB.out.size
      simp at hs1
      have hB1 : Below W.heap.size W w1 := Below.trans (by exact (by repeat (first | exact Below.refl _ _ | assumption | refine Below.setCell ?_ (by first | (simp; done) | (simp; omega) | omega) _ | refine below_drewN ?_ _ | refine Below.drew ?_ | refine Below.alloc ?_ (by first | (simp; done) | (simp; omega) | omega) _))) (HB.out.mono (by simp; try omega))
      refine made_of (by simp) ?_ ?_ ?_ ?_ (by omega) (by omega) (fun i hi => ?_) hnL
      · first | exact hB1 | (refine hB1.alloc ?_ _; omega) | (refine (hB1.alloc ?_ _).alloc ?_ _ <;> (first | rfl | (simp; done) | (simp; omega) | omega))
      · first
          | (refine (Blk.newAt ?_).drew.below HB.out ?_ <;> (first | rfl | (simp; done) | (simp; omega) | omega))
          | (refine ((Blk.newAt ?_).alloc _).drew.below HB.out ?_ <;> (first | rfl | (simp; done) | (simp; omega) | omega))
          | (refine ((Blk.newAt ?_).drew.below HB.out ?_).alloc _ <;> (first | rfl | (simp; done) | (simp; omega) | omega))
          | (refine Blk.newAt ?_ <;> (first | rfl | (simp; done) | (simp; omega) | omega))
          | (refine (Blk.newAt ?_).alloc _ <;> (first | rfl | (simp; done) | (simp; omega) | omega))
      · first
          | (refine (Blk.newAt ?_).drew.below HB.out ?_ <;> (first | rfl | (simp; done) | (simp; omega) | omega))
          | (refine ((Blk.newAt ?_).alloc _).drew.below HB.out ?_ <;> (first | rfl | (simp; done) | (simp; omega) | omega))
          | (refine ((Blk.newAt ?_).drew.below HB.out ?_).alloc _ <;> (first | rfl | (simp; done) | (simp; omega) | omega))
          | (refine Blk.newAt ?_ <;> (first | rfl | (simp; done) | (simp; omega) | omega))
          | (refine (Blk.newAt ?_).alloc _ <;> (first | rfl | (simp; done) | (simp; omega) | omega))
      · first | exact HV.out | exact Own.new HV.out (by repeat (first | exact Below.refl _ _ | assumption | refine Below.setCell ?_ (by first | (simp; done) | (simp; omega) | omega) _ | refine below_drewN ?_ _ | refine Below.drew ?_ | refine Below.alloc ?_ (by first | (simp; done) | (simp; omega) | omega) _))
      · have h1 := HVN.out i hi
        have h2 := Own.lt HV.out hi
        simp at h1
        omega
  case rest =>
    obtain ⟨g, bl, bb, C, rfl, hF, hft, hBc⟩ := hcut
    have HFT := Lib.hid hft
    clear hft mV mB
    have c2 : wc.cell? ⟨g, 2, none⟩ = some (.slice (some ⟨bl, 0, none⟩) nL nL) := hF.blk.cell 2
    obtain ⟨i0, hi0, _, hz1, _⟩ := info_parts info_V
    have hown := hF.l
    simp only [OwnV, Fr.start, List.length_replicate] at hown
    have hxc : Rd wc A m c 3 (vcs xs) := (hxW.new hBc).2
    go_wp2_with (with_reducible refine wpList_copy_Own _ rfl (.tmp 64) (.tmp 65) 24 rfl 44 i0 3 Try.underlying24 hi0 hz1 bl nL nL _ rfl hown A m c (vcs xs) rfl hxc (vcs_oneCell xs) hmL ?_; intro w2 hown2 hg2; have HO2 := Lib.hid hown2; have HG2 := Lib.hid hg2; clear hown2 hg2)
    have hlW : ∀ i, foot g (.slice (some ⟨bl, 0, none⟩) nL nL) (.slice (some ⟨bb, 0, none⟩) nL nL) C (.slice none 0 0) (.slice none 0 0) i → W.heap.size ≤ i := HFT.out
    have hFs : FrAt 53 85 w2 g (Fr.at_ k LL CC xs ys nL 0) (.slice (some ⟨bl, 0, none⟩) nL nL) (.slice (some ⟨bb, 0, none⟩) nL nL) C (.slice none 0 0) (.slice none 0 0) := by
      have hx1 := hxW.1
      have e0 : locTo LL CC xs nL 0 = xs ++ (List.replicate nL V.zero).drop xs.length := locTo_zero LL CC xs nL (by omega)
      have ho : OwnV w2 (.slice (some ⟨bl, 0, none⟩) nL nL) (locTo LL CC xs nL 0) := by
        have := HO2.out
        rw [← hx1, vcs_drop, ← vcs_append, ← e0] at this
        unfold OwnV
        rw [locTo_length]
        exact this
      have := set_locals (by decide) (by decide) hF ho HG2.out
      unfold Fr.at_
      rw [bndTo_zero]
      exact this
    have hBs : Below W.heap.size W w2 := hBc.grown HG2.out hBc.size (fun q e => by cases e; exact hlW _ (.inr (.inl rfl)))
    clear hF hBc hown hxc c2
    go_loopw [69] (fun i wr => ∃ j : Nat, j ≤ m ∧ i = .int .i64 j ∧ FrAt 53 85 wr g (Fr.at_ k LL CC xs ys nL j) (.slice (some ⟨bl, 0, none⟩) nL nL) (.slice (some ⟨bb, 0, none⟩) nL nL) C (.slice none 0 0) (.slice none 0 0) ∧ Below W.heap.size W wr) (fun i _ => m - (intOf i).toNat)
    case atStart => exact ⟨0, Nat.zero_le _, rfl, hFs, hBs⟩
    case round =>
      obtain ⟨j, hj, rfl, hFr, hBr⟩ := hrel
      clear hFs hBs HO2 HG2 hz1 hi0
      by_cases hlt : j < m
      · have hjL : j < nL := by omega
        obtain ⟨bL, oL, rfl, hbL, hsL⟩ := HRL.out.at_ hjL
        have hsR := (hBr.cell (p := ⟨bL, oL + j, none⟩) hbL).trans hsL
        obtain ⟨sj, hsj⟩ : ∃ s, LL.getD j ⟨#[]⟩ = s := ⟨_, rfl⟩
        have eL : LL[j]'(by rw [HRL.out.1]; exact hjL) = sj := by rw [← hsj, List.getD_eq_getElem?_getD, List.getElem?_eq_getElem]; rfl
        rw [eL] at hsR
        have HSJ := Lib.hid hsj
        have hcodeR := hcode.below hBr hcode.lt
        have d5 : wr.cell? ⟨w.heap.size, 5, none⟩ = some (.slice (some ⟨bL, oL, none⟩) nL cL) := hcodeR.cell 5
        have d6 : wr.cell? ⟨w.heap.size, 6, none⟩ = some (.slice AC nC cC) := hcodeR.cell 6
        have c2 : wr.cell? ⟨g, 2, none⟩ = some (.slice (some ⟨bl, 0, none⟩) nL nL) := hFr.blk.cell 2
        have c3 : wr.cell? ⟨g, 3, none⟩ = some (.slice (some ⟨bb, 0, none⟩) nL nL) := hFr.blk.cell 3
        obtain ⟨_, e, hbl, l0, l1, l2, lz⟩ := hFr.l.at_ (i := j) (by rw [show (Fr.at_ k LL CC xs ys nL j).locals = locTo LL CC xs nL j from rfl, locTo_length]; exact hjL)
        cases e
        obtain ⟨_, e, hbb, b0, bz⟩ := hFr.b.at_ (i := j) (by rw [show (Fr.at_ k LL CC xs ys nL j).bound = bndTo LL CC nL j from rfl, bndTo_length]; exact hjL)
        cases e
        have hne : bl ≠ bb := fun e => own_own_ne hFr.l hFr.b (by decide) (b := bl) rfl (by rw [e]; rfl)
        have hgb : g ≠ bb := fun e => own_blk_ne hFr.b hFr.blk (by decide) (by rw [e]; rfl)
        have hgl : g ≠ bl := fun e => own_blk_ne hFr.l hFr.blk (by decide) (by rw [e]; rfl)
        have hwb : w.heap.size ≠ bb := fun e => by have := hlW bb (.inr (.inr (.inl rfl))); have := HZW.out; omega
        have hLb : bL ≠ bb := fun e => by have := hlW bb (.inr (.inr (.inl rfl))); omega
        have hRCr := HRC.out.new (hBr.mono (Nat.le_refl _))
        have i0 : (0 : Int) ≤ (j : Int) := by omega
        have i1 : (j : Int) < (nL : Int) := by omega
        have HFr := Lib.hid hFr
        clear hFr hsL hsj eL hcodeR
        generalize (Fr.at_ k LL CC xs ys nL j).locals[j]'_ = lv at l0 l1 l2
        generalize (Fr.at_ k LL CC xs ys nL j).bound[j]'_ = bv at b0
        have HK := Lib.hid (fun u => (⟨(World.cell?_setCell_other wr ⟨bb, j, none⟩ ⟨g, 3, none⟩ u (fun e => hgb (by injection e with e; exact e.symm))).trans c3, (World.cell?_setCell_other wr ⟨bb, j, none⟩ ⟨w.heap.size, 5, none⟩ u (fun e => hwb (by injection e with e; exact e.symm))).trans d5, (World.cell?_setCell_other wr ⟨bb, j, none⟩ ⟨w.heap.size, 6, none⟩ u (fun e => hwb (by injection e with e; exact e.symm))).trans d6, (World.cell?_setCell_other wr ⟨bb, j, none⟩ ⟨bL, oL + j, none⟩ u (fun e => hLb (by injection e with e; exact e.symm))).trans hsR⟩ :
          (wr.setCell ⟨bb, j, none⟩ u).drew.cell? ⟨g, 3, none⟩ = some (.slice (some ⟨bb, 0, none⟩) nL nL) ∧ (wr.setCell ⟨bb, j, none⟩ u).drew.cell? ⟨w.heap.size, 5, none⟩ = some (.slice (some ⟨bL, oL, none⟩) nL cL) ∧ (wr.setCell ⟨bb, j, none⟩ u).drew.cell? ⟨w.heap.size, 6, none⟩ = some (.slice AC nC cC) ∧ (wr.setCell ⟨bb, j, none⟩ u).drew.cell? ⟨bL, oL + j, none⟩ = some (.string sj)))
        go_wp2
        go_region_held3 (fun w' => w'.cell? ⟨g, 3, none⟩ = some (.slice (some ⟨bb, 0, none⟩) nL nL) ∧ w'.cell? ⟨w.heap.size, 5, none⟩ = some (.slice (some ⟨bL, oL, none⟩) nL cL) ∧ w'.cell? ⟨w.heap.size, 6, none⟩ = some (.slice AC nC cC) ∧ w'.cell? ⟨bL, oL + j, none⟩ = some (.string sj)) (first | exact HK.out _ | go_keep)
          ((go_at_call 37; refine (contains_any AC nC cC CC sj _ ?_).mono ?_; (exact hRCr); rintro e w' ⟨rfl, rfl⟩))
        cases hbv : hasS CC sj
        · have HBV := Lib.hid hbv
          clear hbv
          go_wp2
          go_roundw
          case rel =>
            have hb1 := store_bound (by decide) (by decide) HFr.out (i := j) (by rw [show (Fr.at_ k LL CC xs ys nL j).bound = bndTo LL CC nL j from rfl, bndTo_length]; exact hjL) true
            have e1 : bndTo LL CC nL (j + 1) = (bndTo LL CC nL j).set j true := by rw [← bndTo_step, HSJ.out, HBV.out]; rfl
            have e2 : locTo LL CC xs nL (j + 1) = locTo LL CC xs nL j := (locTo_out LL CC xs nL j (by rw [HSJ.out]; exact HBV.out)).symm
            refine ⟨j + 1, by omega, by go_num, ?_, (hBr.setCell (p := ⟨bb, j, none⟩) (hlW bb (.inr (.inr (.inl rfl)))) _).drew⟩
            unfold Fr.at_
            rw [e1, e2]
            exact hb1.keep fun _ _ => rfl
          case measure => simp [intOf]; omega
        · have HBV := Lib.hid hbv
          clear hbv
          go_wp2
          go_roundw
          case rel =>
            have hb1 := store_bound (by decide) (by decide) HFr.out (i := j) (by rw [show (Fr.at_ k LL CC xs ys nL j).bound = bndTo LL CC nL j from rfl, bndTo_length]; exact hjL) false
            have hb2 := store_local (by decide) (by decide) hb1 (i := j) (by rw [show ({ Fr.at_ k LL CC xs ys nL j with bound := (Fr.at_ k LL CC xs ys nL j).bound.set j false } : Fr).locals = locTo LL CC xs nL j from rfl, locTo_length]; exact hjL) V.zero
            have e1 : bndTo LL CC nL (j + 1) = (bndTo LL CC nL j).set j false := by rw [← bndTo_step, HSJ.out, HBV.out]; rfl
            have e2 : locTo LL CC xs nL (j + 1) = (locTo LL CC xs nL j).set j V.zero := (locTo_in LL CC xs nL j (by rw [HSJ.out]; exact HBV.out)).symm
            have hl := hlW bl (.inr (.inl rfl))
            refine ⟨j + 1, by omega, by go_num, ?_, ((((hBr.setCell (p := ⟨bb, j, none⟩) (hlW bb (.inr (.inr (.inl rfl)))) _).setCell (p := ⟨bl, j * 3, none⟩) hl _).setCell (p := ⟨bl, j * 3 + 1, none⟩) hl _).setCell (p := ⟨bl, j * 3 + 2, none⟩) hl _).drew⟩
            unfold Fr.at_
            rw [e1, e2]
            exact hb2.keep fun _ _ => rfl
          case measure => simp [intOf]; omega
      · have hjm : j = m := by omega
        have HJM := Lib.hid hjm
        clear hjm
        have HFr := Lib.hid hFr
        clear hFr
        go_wp2
        go_ret2
        have hx1 := hxW.1
        have hzw := HZW.out
        have hBf : Below w.heap.size w wr := hBW.trans (hBr.mono (by omega))
        refine ⟨g, rfl, ⟨_, _, C, _, _, ?_, fun i hi => .inr ⟨by have := hlW i hi; omega, HFr.out.lt hi⟩, fun i hi => ?_⟩, hBf⟩
        · unfold Fr.new
          rw [hx1, HRL.out.1, ← HJM.out]
          exact HFr.out
        · rcases hi with h | ⟨_, h⟩
          · exact h.elim
          · exact h
end Go.Proofs.Ythdkloojhenlkaa
