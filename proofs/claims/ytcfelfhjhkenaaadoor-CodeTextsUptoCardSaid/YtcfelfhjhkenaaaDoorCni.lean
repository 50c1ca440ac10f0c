/- in.constant. -/
import Derived.Test.YtcfelfhjhkenaaaDoorLsi
namespace Go.Proofs.YtcfelfhjhkenaaaDoor
open Go.RowKit
attribute [local go_sem] Oper.semAt_some

def valV (v : ValD) : Value := .agg #[.int .i64 v.k, .int .i64 v.n, .string v.s]
def ValV (_ : World) (v : ValD) (u : Value) : Prop := u = valV v
theorem conv_bytes (w : World) (s : ByteArray) : ∃ w' c, (convert 9 30 (.string s)).run Tryd.prog w = .ok (.slice (some ⟨w.heap.size, 0, none⟩) s.size c) w' ∧ Below w.heap.size w w' ∧ w.heap.size < w'.heap.size ∧ ∀ j (h : j < s.size), w'.cell? ⟨w.heap.size, j, none⟩ = some (.int .u8 s[j].toNat) := by
  refine ⟨_, _, run_bytes_of_string (P := Tryd.prog) w 9 30 5 s und9 Tryd.underlying30 und5, ?_, ?_, fun j h => ?_⟩
  · exact ((Below.refl _ _).drew).alloc (by simp) _
  · simp
  · have := Joins.cell_alloc_mark_at w.drew (bytesRow s (grownCap w s.size 0 5)) 5 ((bytesRow s (grownCap w s.size 0 5)).size, (bytesRow s (grownCap w s.size 0 5)).size + 1) w.heap.size j (by simp)
    rw [this]
    unfold bytesRow
    rw [Array.getElem?_append_left (by simpa using h)]
    simp [h]
    rfl
theorem mod_setRow {w : World} {g : Nat} (cs : Array Value) : Mod (fun i => i = g) w (w.setRow g cs) :=
  ⟨rfl, rfl, rfl, by simp, fun i _ hne => setRow_other w g i cs hne⟩
/-- a block is stored whole -/
theorem wpList_storeBlk {P : Program} (w : World) {ops : Array Oper} {rest : List Oper} {o : Oper} {a : Act} {Q : Exit → Act → World → Prop} (hg : o.guard = none) (T : TypeId) (p v : Operand) (ho : o.op = .store T p v)
    (b : Nat) (t : TypeId) (cs0 cs : Array Value) (hB : Blk w b t cs0) (hsz : (sizeOf T).run P w = .ok cs.size w) (hn : cs.size = cs0.size) (h1 : ∀ u ∈ cs.toList, u.oneCell' = true)
    (hp : a.eval p = .pointer (some ⟨b, 0, none⟩)) (hv : a.eval v = .agg cs)
    (h : ∀ w', Blk w' b t cs → Mod (fun i => i = b) w w' → wpList P ops Q rest (a.put o.dst undef) w') :
    wpList P ops Q (o :: rest) a w := by
  refine wpList_plain hg fun K' hK' => ?_
  have hrun := run_storeCells_at P b 0 t cs.toList 0 cs0 w hB (by simp; omega) h1
  have hcs : (Value.agg cs).cells = cs := rfl
  have hb : Blk (w.setRow b (cs0.toList.take (0 + 0) ++ cs.toList ++ cs0.toList.drop (0 + 0 + cs.toList.length)).toArray) b t cs := by
    have := setRow_heap w b cs0 (cs0.toList.take (0 + 0) ++ cs.toList ++ cs0.toList.drop (0 + 0 + cs.toList.length)).toArray t (0, 0) hB
    rw [show (cs0.toList.take (0 + 0) ++ cs.toList ++ cs0.toList.drop (0 + 0 + cs.toList.length)).toArray = cs by
      rw [List.drop_of_length_le (by simp; omega)]; simp] at this ⊢
    exact this
  unfold Oper.wp
  simp [execOp, ho, hp, hv, Instr.storeAt, Instr.sureAddr, storeVar, hsz, hcs, Result.andThen]
  simp at hrun hb
  rw [hrun]
  exact hK' _ _ (h _ hb (mod_setRow _))

theorem or_shift (N : Int) (b : UInt8) : bits BinOp.or .i64 (wrap64 (N * 256)) (b.toNat : Int) = shiftI N b := by
  have hb := b.toNat_lt
  obtain ⟨M, hM⟩ : ∃ M : Nat, M = (BitVec.ofInt 64 (wrap64 (N * 256))).toNat := ⟨_, rfl⟩
  have h2 : (BitVec.ofInt 64 (b.toNat : Int)).toNat = b.toNat := by rw [BitVec.ofInt_natCast, BitVec.toNat_ofNat]; exact Nat.mod_eq_of_lt (by omega)
  have h3 : (BitVec.ofInt 64 (wrap64 (N * 256)) ||| BitVec.ofInt 64 (b.toNat : Int)).toNat = M ||| b.toNat := by rw [BitVec.toNat_or, h2, hM]
  have hMi : (M : Int) = (N * 256) % 18446744073709551616 := by
    rw [hM, BitVec.toNat_ofInt]
    unfold wrap64
    have e : ((2 ^ 64 : Nat) : Int) = 18446744073709551616 := by decide
    rw [e]
    omega
  obtain ⟨c, hc⟩ : ∃ c, M = c * 2 ^ 8 := ⟨M / 256, by omega⟩
  have h4 : M ||| b.toNat = b.toNat + M := by rw [Nat.or_comm, hc, or_low (s := 8) (by omega)]
  show IntKind.i64.wrap ((BitVec.ofInt 64 (wrap64 (N * 256)) ||| BitVec.ofInt 64 (b.toNat : Int)).toNat : Int) = _
  rw [h3, h4, shiftI_eq, IntKind.wrap_i64, IntKind.wrap_i64]
  omega
set_option maxRecDepth 100000 in
set_option maxHeartbeats 1000000 in
theorem const_in {w : World} {x : Nat} {l : List UInt8} (h : Blk w x 70 #[.string (bstr l)]) :
    Calls Tryd.prog 61 #[.pointer (some ⟨x, 0, none⟩)] w (Took w x ValV (valP l)) := by
  have hlt := h.lt
  have hb0 : Below w.heap.size w (w.alloc (.cells #[.int .i64 0, .int .i64 0, .string ⟨#[]⟩] 77)) := (by repeat (first | exact Below.refl _ _ | assumption | refine Below.setCell ?_ (by first | (simp; done) | (simp; omega) | omega) _ | refine below_drewN ?_ _ | refine Below.drew ?_ | refine Below.alloc ?_ (by first | (simp; done) | (simp; omega) | omega) _))
  have HB0 := Lib.hid (h.new' hb0)
  have HR0 := Lib.hid (Blk.new w 77 #[.int .i64 0, .int .i64 0, .string ⟨#[]⟩])
  have HM0 := Lib.hid (Mod.new (S := fun i => i = x) hb0)
  clear h hb0
  go_enter Tryd.func61, Tryd.ntmps61
  go_wp2_with fail
  generalize w.alloc (.cells #[.int .i64 0, .int .i64 0, .string ⟨#[]⟩] 77) = W1 at *
  refine (among_any HB0.out 0 3).mono ?_
  rintro e w2 ht
  cases hx : amongP 0 3 l with
  | error y =>
    obtain ⟨rfl, hm⟩ := ht.err' hx
    have hr : valP l = .error y := bindP_error hx
    exact ⟨rfl, mod_trans HM0.out hm, by rw [hr]⟩
  | ok v =>
    obtain ⟨k, r⟩ := v
    obtain ⟨v, rfl, rfl, hB, hm⟩ := ht.ok' hx
    obtain ⟨⟨-, hk3⟩, -⟩ := (among_good 0 3).inv _ _ _ hx
    have hP := bindP_ok (f := fun k : UInt8 =>
      if k = 1 then bindP (amongP 0 1) fun b => okP (⟨1, b.toNat, ⟨#[]⟩⟩ : ValD)
      else if k = 2 then bindP (takeP 8) fun t => okP ⟨2, t.foldl shiftI 0, ⟨#[]⟩⟩
      else if k = 3 then bindP textP fun s => okP ⟨3, 0, s⟩
      else okP ⟨0, 0, ⟨#[]⟩⟩) hx
    change valP l = _ at hP
    have hR := HR0.out.mod hm (by omega)
    have hm' := mod_trans HM0.out hm
    have hb1 : Below w2.heap.size w2 (w2.alloc (.cells #[.int .i64 k.toNat, .int .i64 0, .string ⟨#[]⟩] 77)) := (by repeat (first | exact Below.refl _ _ | assumption | refine Below.setCell ?_ (by first | (simp; done) | (simp; omega) | omega) _ | refine below_drewN ?_ _ | refine Below.drew ?_ | refine Below.alloc ?_ (by first | (simp; done) | (simp; omega) | omega) _))
    have HB1 := Lib.hid (hB.new' hb1)
    have HR1 := Lib.hid (hR.new' hb1)
    have HV1 := Lib.hid (Blk.new w2 77 #[.int .i64 k.toNat, .int .i64 0, .string ⟨#[]⟩])
    have HM1 := Lib.hid (mod_trans hm' (Mod.new hb1))
    have hw2 := hm'.size
    have hrl := hR.lt
    clear ht hB hm hm' hx hR HR0 HB0 HM0
    rcases (show k.toNat = 0 ∨ k.toNat = 1 ∨ k.toNat = 2 ∨ k.toNat = 3 by omega) with hk | hk | hk | hk
    · obtain rfl : k = 0 := UInt8.toNat_inj.1 hk
      replace hP : valP l = .ok (⟨0, 0, ⟨#[]⟩⟩, r) := hP
      have HP := Lib.hid hP
      clear hP hk hk3
      simp only [show (0 : UInt8).toNat = 0 from rfl] at *
      have hsz : ∀ w : World, (sizeOf 77).run Tryd.prog w = .ok 3 w := fun w => by kernel_rfl
      have HSZ := Lib.hid hsz
      clear hsz
      go_wp2_with (with_reducible refine wpList_storeBlk _ rfl 77 (.tmp 2) (.tmp 41) rfl w.heap.size 77 _ #[.int .i64 0, .int .i64 0, .string ⟨#[]⟩] HR1.out (HSZ.out _) rfl (by simp [Value.oneCell']) rfl rfl ?_; intro w3 hb3 hm3)
      have c0 := hb3.cell 0
      have c1 := hb3.cell 1
      have c2 := hb3.cell 2
      simp only [List.getElem?_toArray, List.getElem?_cons_zero, List.getElem?_cons_succ] at c0 c1 c2
      have hx3 := HB1.out.mod hm3 (by omega)
      have hM3 : Mod (fun i => i = x) w w3 := HM1.out.trans hm3 fun i hi e => by omega
      refine bodyPost_ret (v := valV ⟨0, 0, ⟨#[]⟩⟩) (by simp [results, Tryd.results61, go_sem, c0, c1, c2, valV]) rfl ⟨hM3, ?_⟩
      rw [HP.out]
      exact ⟨⟨_, rfl, rfl⟩, hx3⟩
    · obtain rfl : k = 1 := UInt8.toNat_inj.1 hk
      change valP l = bindP (amongP 0 1) (fun b => okP (⟨1, b.toNat, ⟨#[]⟩⟩ : ValD)) r at hP
      have HP := Lib.hid hP
      have hsz : ∀ w : World, (sizeOf 77).run Tryd.prog w = .ok 3 w := fun w => by kernel_rfl
      have HSZ := Lib.hid hsz
      clear hsz hP hk hk3
      simp only [show (1 : UInt8).toNat = 1 from rfl] at HV1 ⊢
      have hk1 : ((1 : Nat) : Int) = 1 := rfl
      go_wp2_with fail
      simp only [show (1 : UInt8).toNat = 1 from rfl, hk1] at HV1 HB1 HR1 HM1 ⊢
      generalize w2.alloc (.cells #[.int .i64 1, .int .i64 0, .string ⟨#[]⟩] 77) = W2 at *
      have hrv : w.heap.size < w2.heap.size := hrl
      generalize w2.heap.size = vb at *
      refine (among_any HB1.out 0 1).mono ?_
      rintro e w4 ht
      cases hx : amongP 0 1 r with
      | error y =>
        obtain ⟨rfl, hm⟩ := ht.err' hx
        have hr : valP l = .error y := by rw [HP.out, bindP_error hx]
        exact ⟨rfl, mod_trans HM1.out hm, by rw [hr]⟩
      | ok v =>
      obtain ⟨b, q⟩ := v
      obtain ⟨v, rfl, rfl, hB, hm⟩ := ht.ok' hx
      obtain ⟨⟨-, hb1⟩, -⟩ := (among_good 0 1).inv _ _ _ hx
      have hq : valP l = .ok (⟨1, b.toNat, ⟨#[]⟩⟩, q) := by rw [HP.out, bindP_ok hx]; rfl
      have hV := HV1.out.mod hm (by omega)
      have hR := HR1.out.mod hm (by omega)
      have v0 := hV.cell 0
      have v1 := hV.cell 1
      have v2 := hV.cell 2
      have vf := hV.frozen 1
      have vl := hV.lt
      simp only [List.getElem?_toArray, List.getElem?_cons_zero, List.getElem?_cons_succ] at v0 v1 v2
      have HQ := Lib.hid hq
      have HB5 := Lib.hid (hB.far (p := ⟨vb, 1, none⟩) (by show x ≠ vb; omega) (.int .i64 b.toNat))
      have HR5 := Lib.hid (hR.far (p := ⟨vb, 1, none⟩) (by show w.heap.size ≠ vb; omega) (.int .i64 b.toNat))
      have HM5 := Lib.hid ((mod_trans HM1.out hm).setCell (p := ⟨vb, 1, none⟩) (fun h => by have h : vb < w.heap.size := h; omega) (.int .i64 b.toNat))
      clear ht hx hq hB hV hR hm HB1 HR1 HV1 HM1
      go_wp2_with (with_reducible refine wpList_storeBlk _ rfl 77 (.tmp 2) (.tmp 41) rfl w.heap.size 77 _ #[.int .i64 1, .int .i64 b.toNat, .string ⟨#[]⟩] HR5.out (HSZ.out _) rfl (by simp [Value.oneCell']) rfl rfl ?_; intro w3 hb3 hm3)
      have c0 := hb3.cell 0
      have c1 := hb3.cell 1
      have c2 := hb3.cell 2
      simp only [List.getElem?_toArray, List.getElem?_cons_zero, List.getElem?_cons_succ] at c0 c1 c2
      have hx3 := HB5.out.mod hm3 (by omega)
      have hM3 : Mod (fun i => i = x) w w3 := HM5.out.trans hm3 fun i hi e => by omega
      refine bodyPost_ret (v := valV ⟨1, b.toNat, ⟨#[]⟩⟩) (by simp [results, Tryd.results61, go_sem, c0, c1, c2, valV]) rfl ⟨hM3, ?_⟩
      rw [HQ.out]
      exact ⟨⟨_, rfl, rfl⟩, hx3⟩
    · obtain rfl : k = 2 := UInt8.toNat_inj.1 hk
      change valP l = bindP (takeP 8) (fun t => okP (⟨2, t.foldl shiftI 0, ⟨#[]⟩⟩ : ValD)) r at hP
      have HP := Lib.hid hP
      have hsz : ∀ w : World, (sizeOf 77).run Tryd.prog w = .ok 3 w := fun w => by kernel_rfl
      have HSZ := Lib.hid hsz
      clear hsz hP hk hk3
      simp only [show (2 : UInt8).toNat = 2 from rfl] at HV1 ⊢
      have hk1 : ((2 : Nat) : Int) = 2 := rfl
      go_wp2_with fail
      simp only [show (2 : UInt8).toNat = 2 from rfl, hk1] at HV1 HB1 HR1 HM1 ⊢
      generalize w2.alloc (.cells #[.int .i64 2, .int .i64 0, .string ⟨#[]⟩] 77) = W2 at *
      have hrv : w.heap.size < w2.heap.size := hrl
      generalize w2.heap.size = vb at *
      refine (take_any HB1.out 8).mono ?_
      rintro e w4 ht
      cases hx : takeP 8 r with
      | error y =>
        obtain ⟨rfl, hm⟩ := ht.err' hx
        have hr : valP l = .error y := by rw [HP.out, bindP_error hx]
        exact ⟨rfl, mod_trans HM1.out hm, by rw [hr]⟩
      | ok v =>
      obtain ⟨t, q⟩ := v
      obtain ⟨v, rfl, rfl, hB, hm⟩ := ht.ok' hx
      obtain ⟨h8, -⟩ := (take_good 8).inv _ _ _ hx
      have h8 : t.length = 8 := h8
      have hq : valP l = .ok (⟨2, t.foldl shiftI 0, ⟨#[]⟩⟩, q) := by rw [HP.out, bindP_ok hx]; rfl
      have hV := HV1.out.mod hm (by omega)
      have hR := HR1.out.mod hm (by omega)
      have hvl := hV.lt
      obtain ⟨wc, cc, hrun, hbel, hwc, hcells⟩ := conv_bytes w4 (bstr t)
      rw [bstr_size, h8] at hrun
      have hct : ∀ m (b : UInt8), t[m]? = some b → wc.cell? ⟨w4.heap.size, m, none⟩ = some (.int .u8 b.toNat) := fun m b hb => by
        obtain ⟨h1, h2⟩ := List.getElem?_eq_some_iff.1 hb
        rw [hcells m (by rw [bstr_size]; exact h1), ← h2]
        rfl
      have hM2 := mod_trans HM1.out (mod_trans hm (Mod.new hbel))
      have HQ := Lib.hid hq
      have HB5 := Lib.hid (hB.new' hbel)
      have HR5 := Lib.hid (hR.new' hbel)
      have HV5 := Lib.hid (hV.new' hbel)
      have HM5 := Lib.hid hM2
      have HC5 := Lib.hid hct
      have H8 := Lib.hid h8
      clear ht hx hq hB hV hR hm HB1 HR1 HV1 HM1 hcells hct hbel hM2 h8
      go_wp2_with fail
      clear hrun
      generalize w4.heap.size = bb at *
      go_loopw [24] (fun i wr => ∃ j : Nat, j ≤ 8 ∧ i = .int .i64 j ∧ Blk wr vb 77 #[.int .i64 2, .int .i64 ((t.take j).foldl shiftI 0), .string ⟨#[]⟩] ∧ Blk wr w.heap.size 77 #[.int .i64 0, .int .i64 0, .string ⟨#[]⟩] ∧ Blk wr x 70 #[.string (bstr q)] ∧
        Mod (fun i => i = x) w wr ∧ (∀ m (b : UInt8), t[m]? = some b → wr.cell? ⟨bb, m, none⟩ = some (.int .u8 b.toNat)) ∧ bb < wr.heap.size) (fun i _ => 8 - (intOf i).toNat)
      case atStart => exact ⟨0, by omega, rfl, HV5.out, HR5.out, HB5.out, HM5.out, HC5.out, hwc⟩
      case round =>
        clear HV5 HR5 HB5 HM5 HC5 hwc
        obtain ⟨j, hj, rfl, hV, hR, hB, hM, hC, hbw⟩ := hrel
        by_cases hlt : j < 8
        · obtain ⟨b, hb⟩ : ∃ b, t[j]? = some b := ⟨_, List.getElem?_eq_getElem (by rw [H8.out]; exact hlt)⟩
          have e0 := hC j b hb
          have htk := (take_snoc hb).1
          have hst := or_shift ((t.take j).foldl shiftI 0) b
          have hfs : (t.take (j + 1)).foldl shiftI 0 = shiftI ((t.take j).foldl shiftI 0) b := by rw [htk, List.foldl_append]; rfl
          rw [← hfs] at hst
          obtain ⟨N2, hN2⟩ : ∃ N2, N2 = (t.take (j + 1)).foldl shiftI 0 := ⟨_, rfl⟩
          rw [← hN2] at hst
          have HN := Lib.hid hN2
          clear hfs htk hN2
          generalize (t.take j).foldl shiftI 0 = N1 at hst hV
          have v1 := hV.cell 1
          have vf := hV.frozen 1
          have vl := hV.lt
          simp only [List.getElem?_toArray, List.getElem?_cons_zero, List.getElem?_cons_succ] at v1
          have hb8 := b.toNat_lt
          have HV := Lib.hid (hV.set_ 1 (.int .i64 N2))
          have HR := Lib.hid (hR.far (p := ⟨vb, 1, none⟩) (by show w.heap.size ≠ vb; omega) (.int .i64 N2))
          have HB := Lib.hid (hB.far (p := ⟨vb, 1, none⟩) (by show x ≠ vb; omega) (.int .i64 N2))
          have HM := Lib.hid (hM.setCell (p := ⟨vb, 1, none⟩) (fun h => by have h : vb < w.heap.size := h; omega) (.int .i64 N2))
          have HC := Lib.hid (fun m (c : UInt8) (h : t[m]? = some c) => show (wr.setCell ⟨vb, 1, none⟩ (.int .i64 N2)).cell? ⟨bb, m, none⟩ = some (.int .u8 c.toNat) from (World.cell?_of_block (Below.heap_setCell wr ⟨vb, 1, none⟩ (.int .i64 N2) bb (by show bb ≠ vb; omega))).trans (hC m c h))
          clear hV hR hB hM hC hb
          go_wp2
          go_roundw
          case rel => exact ⟨j + 1, by omega, by go_num, by rw [← HN.out]; exact HV.out, HR.out, HB.out, HM.out, HC.out, by simpa using hbw⟩
          case measure => simp [intOf]; omega
        · obtain rfl : j = 8 := by omega
          have ht8 : t.take 8 = t := List.take_of_length_le (by rw [H8.out]; exact Nat.le_refl _)
          rw [ht8] at hV
          obtain ⟨N1, hN1⟩ : ∃ N1, N1 = t.foldl shiftI 0 := ⟨_, rfl⟩
          rw [← hN1] at hV
          have HN := Lib.hid hN1
          have v0 := hV.cell 0
          have v1 := hV.cell 1
          have v2 := hV.cell 2
          have vl := hV.lt
          simp only [List.getElem?_toArray, List.getElem?_cons_zero, List.getElem?_cons_succ] at v0 v1 v2
          have HB5 := Lib.hid hB
          have HR5 := Lib.hid hR
          have HM5 := Lib.hid hM
          clear hB hR hM hV hC ht8 hN1
          go_wp2_with (with_reducible refine wpList_storeBlk _ rfl 77 (.tmp 2) (.tmp 41) rfl w.heap.size 77 _ #[.int .i64 2, .int .i64 N1, .string ⟨#[]⟩] HR5.out (HSZ.out _) rfl (by simp [Value.oneCell']) rfl rfl ?_; intro w3 hb3 hm3)
          have c0 := hb3.cell 0
          have c1 := hb3.cell 1
          have c2 := hb3.cell 2
          simp only [List.getElem?_toArray, List.getElem?_cons_zero, List.getElem?_cons_succ] at c0 c1 c2
          have hx3 := HB5.out.mod hm3 (by omega)
          have hM3 : Mod (fun i => i = x) w w3 := HM5.out.trans hm3 fun i hi e => by omega
          refine bodyPost_ret (v := valV ⟨2, N1, ⟨#[]⟩⟩) (by simp [results, Tryd.results61, go_sem, c0, c1, c2, valV]) rfl ⟨hM3, ?_⟩
          rw [HQ.out]
          exact ⟨⟨_, rfl, by rw [HN.out]; rfl⟩, hx3⟩
    · obtain rfl : k = 3 := UInt8.toNat_inj.1 hk
      change valP l = bindP textP (fun s => okP (⟨3, 0, s⟩ : ValD)) r at hP
      have HP := Lib.hid hP
      have hsz : ∀ w : World, (sizeOf 77).run Tryd.prog w = .ok 3 w := fun w => by kernel_rfl
      have HSZ := Lib.hid hsz
      clear hsz hP hk hk3
      simp only [show (3 : UInt8).toNat = 3 from rfl] at HV1 ⊢
      have hk1 : ((3 : Nat) : Int) = 3 := rfl
      go_wp2_with fail
      simp only [show (3 : UInt8).toNat = 3 from rfl, hk1] at HV1 HB1 HR1 HM1 ⊢
      generalize w2.alloc (.cells #[.int .i64 3, .int .i64 0, .string ⟨#[]⟩] 77) = W2 at *
      have hrv : w.heap.size < w2.heap.size := hrl
      generalize w2.heap.size = vb at *
      refine (text_in HB1.out).mono ?_
      rintro e w4 ht
      cases hx : textP r with
      | error y =>
        obtain ⟨rfl, hm⟩ := ht.err' hx
        have hr : valP l = .error y := by rw [HP.out, bindP_error hx]
        exact ⟨rfl, mod_trans HM1.out hm, by rw [hr]⟩
      | ok v =>
      obtain ⟨s, q⟩ := v
      obtain ⟨v, rfl, rfl, hB, hm⟩ := ht.ok' hx
      have hq : valP l = .ok (⟨3, 0, s⟩, q) := by rw [HP.out, bindP_ok hx]; rfl
      have hV := HV1.out.mod hm (by omega)
      have hR := HR1.out.mod hm (by omega)
      have v0 := hV.cell 0
      have v1 := hV.cell 1
      have v2 := hV.cell 2
      have vf := hV.frozen 2
      have vl := hV.lt
      simp only [List.getElem?_toArray, List.getElem?_cons_zero, List.getElem?_cons_succ] at v0 v1 v2
      have HQ := Lib.hid hq
      have HB5 := Lib.hid (hB.far (p := ⟨vb, 2, none⟩) (by show x ≠ vb; omega) (.string s))
      have HR5 := Lib.hid (hR.far (p := ⟨vb, 2, none⟩) (by show w.heap.size ≠ vb; omega) (.string s))
      have HM5 := Lib.hid ((mod_trans HM1.out hm).setCell (p := ⟨vb, 2, none⟩) (fun h => by have h : vb < w.heap.size := h; omega) (.string s))
      clear ht hx hq hB hV hR hm HB1 HR1 HV1 HM1
      go_wp2_with (with_reducible refine wpList_storeBlk _ rfl 77 (.tmp 2) (.tmp 41) rfl w.heap.size 77 _ #[.int .i64 3, .int .i64 0, .string s] HR5.out (HSZ.out _) rfl (by simp [Value.oneCell']) rfl rfl ?_; intro w3 hb3 hm3)
      have c0 := hb3.cell 0
      have c1 := hb3.cell 1
      have c2 := hb3.cell 2
      simp only [List.getElem?_toArray, List.getElem?_cons_zero, List.getElem?_cons_succ] at c0 c1 c2
      have hx3 := HB5.out.mod hm3 (by omega)
      have hM3 : Mod (fun i => i = x) w w3 := HM5.out.trans hm3 fun i hi e => by omega
      refine bodyPost_ret (v := valV ⟨3, 0, s⟩) (by simp [results, Tryd.results61, go_sem, c0, c1, c2, valV]) rfl ⟨hM3, ?_⟩
      rw [HQ.out]
      exact ⟨⟨_, rfl, rfl⟩, hx3⟩
end Go.Proofs.YtcfelfhjhkenaaaDoor
