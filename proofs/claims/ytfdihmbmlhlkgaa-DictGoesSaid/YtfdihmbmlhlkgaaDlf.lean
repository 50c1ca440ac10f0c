/- DeleteFunc on a dict's rows. -/
import Derived.Test.YtfdihmbmlhlkgaaPck
namespace Go.Proofs.Ytfdihmbmlhlkgaa
open Go.RowKit
attribute [local go_sem high] guardV eqV neqV
attribute [local go_sem] V.v

theorem clear_rows {w : World} {b c i : Nat} {rs : List Row} (h : Own w 73 7 (.slice (some ⟨b, 0, none⟩) rs.length c) rs.length (rcs rs)) (hi : i ≤ rs.length) (vs : List Value) (hv : i * 7 + vs.length ≤ rs.length * 7) (hone : ∀ u ∈ vs, u.oneCell' = true) :
    ∃ w', (storeCells ⟨b, i * 7, none⟩ vs 0).run Try.prog w = .ok () w' ∧ Own w' 73 7 (.slice (some ⟨b, 0, none⟩) i c) (rs.take i).length (rcs (rs.take i)) ∧ Mod (· = b) w w' := by
  obtain ⟨hle, ⟨e, _⟩ | ⟨b', c', cur, e, hb, h1, h2, h3, h4⟩⟩ := h
  · cases e
  · simp only [Value.slice.injEq, Option.some.injEq, Addr.mk.injEq, and_true, true_and] at e
    obtain ⟨rfl, rfl⟩ := e
    have hst := run_storeCells_at Try.prog b (i * 7) 73 vs 0 cur w hb (by omega) hone
    have hl : (rs.take i).length = i := by rw [List.length_take]; omega
    refine ⟨_, hst, ⟨rcs_length _, .inr ⟨b, c, _, by rw [hl], setRow_heap w b cur _ 73 (0, 0) hb, by omega, h2, ?_, ?_⟩⟩, mod_setRow _⟩
    · simp; omega
    · have hcl : cur.toList.length = cur.size := rfl
      rw [hl, Nat.add_zero, ← rcs_take, ← h4]
      simp only [List.append_assoc]
      rw [List.take_append_of_le_length (by rw [List.length_take]; omega), List.take_take, List.take_take]
      congr 1
      omega
theorem zero73 (w : World) : (zeroValue 73).run Try.prog w = .ok (.agg #[.int .i64 0, .int .i64 0, .string ⟨#[]⟩, .int .i64 0, .int .i64 0, .string ⟨#[]⟩, .bool false]) w := by kernel_rfl
def z7 : Array Value := #[.int .i64 0, .int .i64 0, .string ⟨#[]⟩, .int .i64 0, .int .i64 0, .string ⟨#[]⟩, .bool false]
theorem zeros_one (n : Nat) : ∀ u ∈ (Builtin.zeroCells z7 n).toList, u.oneCell' = true := by
  intro u hu
  simp only [Builtin.zeroCells] at hu
  simp at hu
  obtain ⟨j, _, e⟩ := hu
  have hlt : j % z7.size < z7.size := Nat.mod_lt _ (by decide)
  rw [getElem!_pos z7 _ hlt] at e
  subst e
  exact Array.all_eq_true.1 (show z7.all (·.oneCell') = true by simp [z7, Value.oneCell']) _ hlt
theorem wpList_clear (w : World) {ops : Array Oper} {rest : List Oper} {o : Oper} {a : Act} {Q : Exit → Act → World → Prop} (hg : o.guard = none) (x : Operand) (ho : o.op = .call { callee := .builtin .clear, args := #[x], argTypes := #[69] })
    (b i n c c' : Nat) (rs : List Row) (hown : Own w 73 7 (.slice (some ⟨b, 0, none⟩) rs.length c) rs.length (rcs rs)) (hi : i < rs.length) (hn : n = rs.length - i)
    (hx : a.eval x = .slice (some ⟨b, i * 7, none⟩) n c')
    (h : ∀ w', Own w' 73 7 (.slice (some ⟨b, 0, none⟩) i c) (rs.take i).length (rcs (rs.take i)) → Mod (· = b) w w' → wpList Try.prog ops Q rest (a.put o.dst (.tuple #[])) w') :
    wpList Try.prog ops Q (o :: rest) a w := by
  refine wpList_plain hg fun K' hK' => ?_
  obtain ⟨d, rfl⟩ : ∃ d, n = d + 1 := ⟨n - 1, by omega⟩
  obtain ⟨w', hrun, r1, r2⟩ := clear_rows hown (Nat.le_of_lt hi) (Builtin.zeroCells z7 (d + 1)).toList (by rw [Array.length_toList, size_zeroCells]; simp [z7]; omega) (zeros_one _)
  have hcs : (Value.agg #[.int .i64 0, .int .i64 0, .string ⟨#[]⟩, .int .i64 0, .int .i64 0, .string ⟨#[]⟩, .bool false]).cells = z7 := rfl
  unfold Oper.wp
  simp [execOp, ho, resolve, invoke, builtin, hx, Builtin.clear_, run_underlying Try.underlying69, hcs, hrun, Result.andThen]
  exact hK' _ _ (h w' r1 r2)
theorem live_take_succ {rs : List Row} {j : Nat} {r : Row} (h : rs[j]? = some r) : live (rs.take (j + 1)) = live (rs.take j) ++ live [r] := by
  obtain ⟨hl, rfl⟩ := List.getElem?_eq_some_iff.1 h
  rw [List.take_succ_eq_append_getElem hl, live_append]
theorem live_all {rs : List Row} (h : ∀ r ∈ rs, Option.isNone r = false) : (live rs).map some = rs := by
  induction rs with
  | nil => rfl
  | cons r rs ih =>
    cases r with
    | none => exact absurd (h none (by simp)) (by simp)
    | some p => rw [live_some, List.map_cons, ih fun r hr => h r (by simp [hr])]
/-- how far the rows are packed: those ahead of j at the front, those from j on as they were -/
structure Half (rs rs2 : List Row) (i j : Nat) : Prop where
  len : rs2.length = rs.length
  front : rs2.take i = (live (rs.take j)).map some
  count : i = (live (rs.take j)).length
  back : rs2.drop j = rs.drop j
  lt : i < j
  le : j ≤ rs.length
theorem Half.start {rs : List Row} {k : Nat} (hk : rs[k]? = some none) (h : ∀ r ∈ rs.take k, Option.isNone r = false) : Half rs rs k (k + 1) := by
  have hl := (List.getElem?_eq_some_iff.1 hk).1
  have e : live (rs.take (k + 1)) = live (rs.take k) := by rw [live_take_succ hk]; simp [live]
  have hc := live_all h
  refine ⟨rfl, by rw [e, hc], ?_, rfl, by omega, by omega⟩
  rw [e]
  have := congrArg List.length hc
  rw [List.length_map, List.length_take] at this
  omega
theorem Half.row {rs rs2 : List Row} {i j : Nat} (h : Half rs rs2 i j) : rs2[j]? = rs[j]? := by
  have := congrArg (·[0]?) h.back
  simpa [List.getElem?_drop] using this
theorem Half.skip {rs rs2 : List Row} {i j : Nat} (h : Half rs rs2 i j) (hj : rs[j]? = some none) : Half rs rs2 i (j + 1) := by
  have hl := (List.getElem?_eq_some_iff.1 hj).1
  have e : live (rs.take (j + 1)) = live (rs.take j) := by rw [live_take_succ hj]; simp [live]
  refine ⟨h.len, by rw [e]; exact h.front, by rw [e]; exact h.count, ?_, by have := h.lt; omega, by omega⟩
  have := congrArg (List.drop 1) h.back
  simpa [List.drop_drop] using this
theorem Half.keep {rs rs2 : List Row} {i j : Nat} {p : V × V} (h : Half rs rs2 i j) (hj : rs[j]? = some (some p)) : Half rs (rs2.set i (some p)) (i + 1) (j + 1) := by
  have hl := (List.getElem?_eq_some_iff.1 hj).1
  have hlt := h.lt
  have hlen := h.len
  have e : live (rs.take (j + 1)) = live (rs.take j) ++ [p] := by rw [live_take_succ hj]; simp [live]
  refine ⟨by rw [List.length_set]; exact h.len, ?_, ?_, ?_, by omega, by omega⟩
  · rw [e, List.map_append, ← h.front, List.take_succ_eq_append_getElem (by rw [List.length_set]; omega), List.take_set_of_le (Nat.le_refl _)]
    simp
  · rw [e, List.length_append, ← h.count]; rfl
  · have := congrArg (List.drop 1) h.back
    rw [List.drop_set_of_lt (by omega)]
    simpa [List.drop_drop] using this
theorem Half.done {rs rs2 : List Row} {i j : Nat} (h : Half rs rs2 i j) (hj : j = rs.length) : rs2.take i = (live rs).map some := by
  subst hj
  have := h.front
  rwa [List.take_length] at this

set_option maxRecDepth 100000 in
set_option maxHeartbeats 1000000 in
theorem delf_any (b c : Nat) (rs : List Row) (w : World) (h : Own w 73 7 (.slice (some ⟨b, 0, none⟩) rs.length c) rs.length (rcs rs)) (hn : rs.length ≤ 100000) :
    Calls Try.prog 40 #[.slice (some ⟨b, 0, none⟩) rs.length c, .func (.func 41) #[] #[]] w fun e w' => ∃ n rs', e = .returned (.slice (some ⟨b, 0, none⟩) n c) ∧ rs' = (live rs).map some ∧ n = rs'.length ∧ Own w' 73 7 (.slice (some ⟨b, 0, none⟩) n c) rs'.length (rcs rs') ∧ Mod (· = b) w w' := by
  have hb := h.lt (b := b) rfl
  have hc : rs.length ≤ c ∧ c ≤ 9223372036854775807 := by
    rcases h.2 with ⟨e, _⟩ | ⟨b', c', cur, e, _, h1, h2, _⟩
    · cases e
    · simp only [Value.slice.injEq, true_and] at e
      obtain ⟨_, rfl⟩ := e
      exact ⟨h1, h2⟩
  have HH := Lib.hid h
  clear h
  by_cases hall : ∀ r ∈ rs, Option.isNone r = false
  · have HA := Lib.hid hall
    clear hall
    go_enter Try.func40, Try.ntmps40
    go_wp2_with (go_at_call 42; refine (index_any b c rs _ (by exact HH.out.new (by repeat (first | exact Below.refl _ _ | assumption | refine Below.setCell ?_ (by first | (simp; done) | (simp; omega) | omega) _ | refine below_drewN ?_ _ | refine Below.drew ?_ | refine Below.alloc ?_ (by first | (simp; done) | (simp; omega) | omega) _))) hn).mono ?_; rintro e w1 ⟨z, rfl, hz, hb1⟩; have HB1 := Lib.hid hb1; clear hb1; obtain rfl : z = -1 := hz.elim (fun h => h.1) (fun ⟨k, _, hk, _⟩ => absurd (HA.out none (List.mem_of_getElem? hk)) (by simp)); clear hz)
    go_ret
    have e := live_all HA.out
    exact ⟨rs.length, _, rfl, rfl, by rw [e], by rw [e]; exact HH.out.new HB1.out, Mod.new HB1.out⟩
  · have HA := Lib.hid hall
    clear hall
    go_enter Try.func40, Try.ntmps40
    go_wp2_with (go_at_call 42; refine (index_any b c rs _ (by exact HH.out.new (by repeat (first | exact Below.refl _ _ | assumption | refine Below.setCell ?_ (by first | (simp; done) | (simp; omega) | omega) _ | refine below_drewN ?_ _ | refine Below.drew ?_ | refine Below.alloc ?_ (by first | (simp; done) | (simp; omega) | omega) _))) hn).mono ?_; rintro e w1 ⟨z, rfl, hz, hb1⟩; have HB1 := Lib.hid hb1; clear hb1; obtain ⟨k, rfl, hk, hfr⟩ := hz.resolve_left (fun h => HA.out h.2); have hkl := (List.getElem?_eq_some_iff.1 hk).1; have HST := Lib.hid (Half.start hk hfr); have hkm : ((k : Int) == -1) = false := (by rw [beq_eq_false_iff_ne]; omega); clear hz hk hfr)
    go_loopw [5, 6] (fun v5 v6 wr => ∃ (i j : Nat) (rs2 : List Row), v5 = .int .i64 i ∧ v6 = .int .i64 j ∧ Half rs rs2 i j ∧ Own wr 73 7 (.slice (some ⟨b, 0, none⟩) rs.length c) rs2.length (rcs rs2) ∧ Mod (· = b) w wr) (fun _ v6 _ => rs.length - (intOf v6).toNat)
    case atStart => exact ⟨k, k + 1, rs, rfl, by go_num, HST.out, HH.out.new HB1.out, Mod.new HB1.out⟩
    case round =>
      obtain ⟨i, j, rs2, rfl, rfl, hh, ho, hmod⟩ := hrel
      have hle := hh.le
      have hij := hh.lt
      have hlen := hh.len
      have HHF := Lib.hid hh
      have HO := Lib.hid ho
      have HM := Lib.hid hmod
      have hbr : b < wr.heap.size := Nat.lt_of_lt_of_le hb hmod.size
      clear hh ho hmod
      by_cases hlt : j < rs.length
      · obtain ⟨r, hr⟩ : ∃ r, rs[j]? = some r := ⟨rs[j], List.getElem?_eq_getElem _⟩
        have hr2 := HHF.out.row.trans hr
        have HO2 : Hid (Own wr 73 7 (.slice (some ⟨b, 0, none⟩) rs2.length c) rs2.length (rcs rs2)) := by
          have := HO.out
          rw [← hlen] at this
          exact this
        obtain ⟨_, hcc⟩ := HO2.out.at_ hr2
        cases r with
        | none =>
          have z0 := hcc 0 (.int .i64 0) rfl
          have z1 := hcc 1 (.int .i64 0) rfl
          have z2 := hcc 2 (.string ⟨#[]⟩) rfl
          have z3 := hcc 3 (.int .i64 0) rfl
          have z4 := hcc 4 (.int .i64 0) rfl
          have z5 := hcc 5 (.string ⟨#[]⟩) rfl
          have z6 := hcc 6 (.bool true) rfl
          simp only [Nat.add_zero] at z0
          have HG : ∀ W, Hid (Calls Try.prog 41 #[.agg #[.int .i64 0, .int .i64 0, .string ⟨#[]⟩, .int .i64 0, .int .i64 0, .string ⟨#[]⟩, .bool true]] W fun e w' => e = .returned (.bool true) ∧ Below W.heap.size W w') := fun W => gone_any none W
          have HR := Lib.hid hr
          clear hcc hr hr2 HO
          go_wp2_with (go_at_call 41; refine (HG _).out.mono ?_; rintro e w' ⟨rfl, hb2⟩; have HB2 := Lib.hid hb2; clear hb2)
          go_roundw
          case rel => exact ⟨i, j + 1, rs2, rfl, by go_num, HHF.out.skip HR.out, by rw [← hlen]; exact HO2.out.new ((show Below wr.heap.size wr (wr.alloc _) from (by repeat (first | exact Below.refl _ _ | assumption | refine Below.setCell ?_ (by first | (simp; done) | (simp; omega) | omega) _ | refine below_drewN ?_ _ | refine Below.drew ?_ | refine Below.alloc ?_ (by first | (simp; done) | (simp; omega) | omega) _))).trans (HB2.out.mono (by simp))), HM.out.trans (Mod.new (S := (· = b)) ((show Below wr.heap.size wr (wr.alloc _) from (by repeat (first | exact Below.refl _ _ | assumption | refine Below.setCell ?_ (by first | (simp; done) | (simp; omega) | omega) _ | refine below_drewN ?_ _ | refine Below.drew ?_ | refine Below.alloc ?_ (by first | (simp; done) | (simp; omega) | omega) _))).trans (HB2.out.mono (by simp)))) (fun _ _ e => e)⟩
          case measure => simp [intOf]; omega
        | some p =>
          obtain ⟨⟨k1, n1, s1⟩, ⟨k2, n2, s2⟩⟩ := p
          have z0 := hcc 0 (.int .i64 k1) rfl
          have z1 := hcc 1 (.int .i64 n1) rfl
          have z2 := hcc 2 (.string s1) rfl
          have z3 := hcc 3 (.int .i64 k2) rfl
          have z4 := hcc 4 (.int .i64 n2) rfl
          have z5 := hcc 5 (.string s2) rfl
          have z6 := hcc 6 (.bool false) rfl
          simp only [Nat.add_zero] at z0
          have HG : ∀ W, Hid (Calls Try.prog 41 #[.agg #[.int .i64 k1, .int .i64 n1, .string s1, .int .i64 k2, .int .i64 n2, .string s2, .bool false]] W fun e w' => e = .returned (.bool false) ∧ Below W.heap.size W w') := fun W => gone_any (some (⟨k1, n1, s1⟩, ⟨k2, n2, s2⟩)) W
          have HR := Lib.hid hr
          clear hcc hr hr2 HO
          go_wp2_with (first
            | (go_at_call 41; refine (HG _).out.mono ?_; rintro e w' ⟨rfl, hb2⟩; have x0 : w'.cell? ⟨wr.heap.size, 0, none⟩ = some (.int .i64 k1) := (hb2.cell (p := ⟨wr.heap.size, 0, none⟩) (by simp)).trans ((Blk.new wr 73 #[.int .i64 k1, .int .i64 n1, .string s1, .int .i64 k2, .int .i64 n2, .string s2, .bool false]).cell 0); have x1 : w'.cell? ⟨wr.heap.size, 1, none⟩ = some (.int .i64 n1) := (hb2.cell (p := ⟨wr.heap.size, 1, none⟩) (by simp)).trans ((Blk.new wr 73 #[.int .i64 k1, .int .i64 n1, .string s1, .int .i64 k2, .int .i64 n2, .string s2, .bool false]).cell 1); have x2 : w'.cell? ⟨wr.heap.size, 2, none⟩ = some (.string s1) := (hb2.cell (p := ⟨wr.heap.size, 2, none⟩) (by simp)).trans ((Blk.new wr 73 #[.int .i64 k1, .int .i64 n1, .string s1, .int .i64 k2, .int .i64 n2, .string s2, .bool false]).cell 2); have x3 : w'.cell? ⟨wr.heap.size, 3, none⟩ = some (.int .i64 k2) := (hb2.cell (p := ⟨wr.heap.size, 3, none⟩) (by simp)).trans ((Blk.new wr 73 #[.int .i64 k1, .int .i64 n1, .string s1, .int .i64 k2, .int .i64 n2, .string s2, .bool false]).cell 3); have x4 : w'.cell? ⟨wr.heap.size, 4, none⟩ = some (.int .i64 n2) := (hb2.cell (p := ⟨wr.heap.size, 4, none⟩) (by simp)).trans ((Blk.new wr 73 #[.int .i64 k1, .int .i64 n1, .string s1, .int .i64 k2, .int .i64 n2, .string s2, .bool false]).cell 4); have x5 : w'.cell? ⟨wr.heap.size, 5, none⟩ = some (.string s2) := (hb2.cell (p := ⟨wr.heap.size, 5, none⟩) (by simp)).trans ((Blk.new wr 73 #[.int .i64 k1, .int .i64 n1, .string s1, .int .i64 k2, .int .i64 n2, .string s2, .bool false]).cell 5); have x6 : w'.cell? ⟨wr.heap.size, 6, none⟩ = some (.bool false) := (hb2.cell (p := ⟨wr.heap.size, 6, none⟩) (by simp)).trans ((Blk.new wr 73 #[.int .i64 k1, .int .i64 n1, .string s1, .int .i64 k2, .int .i64 n2, .string s2, .bool false]).cell 6); have HB2 := Lib.hid ((show Below wr.heap.size wr (wr.alloc _) from (by repeat (first | exact Below.refl _ _ | assumption | refine Below.setCell ?_ (by first | (simp; done) | (simp; omega) | omega) _ | refine below_drewN ?_ _ | refine Below.drew ?_ | refine Below.alloc ?_ (by first | (simp; done) | (simp; omega) | omega) _))).trans (hb2.mono (by simp))); clear hb2)
            | (refine wpList_storeRow _ rfl (.tmp 33) (.tmp 32) rfl b i _ c rs2 (HO2.out.new HB2.out) (by omega) (some (⟨k1, n1, s1⟩, ⟨k2, n2, s2⟩)) _ rfl rfl rfl ?_; intro w3 own3 mod3; have HO3 := Lib.hid own3; have HM3 := Lib.hid mod3; clear own3 mod3))
          go_roundw
          case rel => exact ⟨i + 1, j + 1, rs2.set i (some (⟨k1, n1, s1⟩, ⟨k2, n2, s2⟩)), by go_num, by go_num, HHF.out.keep HR.out, by rw [← hlen]; exact HO3.out, HM.out.trans (Mod.trans (S := (· = b)) (Mod.new HB2.out) HM3.out (fun _ _ e => e)) (fun _ _ e => e)⟩
          case measure => simp [intOf]; omega
      · have HO2 : Hid (Own wr 73 7 (.slice (some ⟨b, 0, none⟩) rs2.length c) rs2.length (rcs rs2)) := by
          have := HO.out
          rw [← hlen] at this
          exact this
        have hc1 := hc.1
        have hc2 := hc.2
        clear HO
        go_wp2_with (refine wpList_clear _ rfl (.tmp 38) rfl b i (rs.length - i) c _ rs2 HO2.out (by omega) (by omega) rfl ?_; intro w2 own2 mod2)
        go_ret
        have hd := HHF.out.done (by omega)
        rw [hd] at own2
        have hl : i = ((live rs).map some).length := by
          rw [← hd, List.length_take]; omega
        exact ⟨i, _, rfl, rfl, hl, own2, HM.out.trans mod2 (fun _ _ e => e)⟩
end Go.Proofs.Ytfdihmbmlhlkgaa
