/- Steps at a map's delete and store; Del. -/
import Derived.Test.YtfdihmbmlhlkgaaGet
import Derived.Deep.RegionHeld3
namespace Go.Proofs.Ytfdihmbmlhlkgaa
open Go.RowKit
attribute [local go_sem high] guardV eqV neqV
attribute [local go_sem] V.v

section
variable {ops : Array Oper} {o : Oper} {a : Act} {K : Act → World → Prop} {Q : Exit → Act → World → Prop} {E : Prop}
theorem step_delete (w : World) (hg : o.guard = none) (m xo : Operand) (ho : o.op = .call { callee := .builtin .delete, args := #[m, xo], argTypes := #[68, 24] })
    (b : Nat) (f : V → Option Nat) (s : Nat) (hm : a.eval m = .map (some b)) (hown : MapAt w b f s) (k n : Int) (t : ByteArray) (hx : (V.mk k n t).Ok) (hv : a.eval xo = .agg #[.int .i64 k, .int .i64 n, .string t])
    (h : ∀ w', MapAt w' b (upd f ⟨k, n, t⟩ none) (if (f ⟨k, n, t⟩).isSome then s - 1 else s) → Mod (· = b) w w' → K (a.put o.dst (.tuple #[])) w') :
    if Region.wanted o (yielded ops a.tmps) = true then Oper.wp Try.prog o a w K Q else E := by
  have hw : Region.wanted o (yielded ops a.tmps) = true := by simp [Region.wanted, hg]
  rw [if_pos hw]
  obtain ⟨w', hrun, r1, r2⟩ := hown.drop hx o.type
  simp only [V.v] at hrun
  unfold Oper.wp
  simp [execOp, ho, resolve, invoke, builtin, hm, hv, hrun, Result.andThen]
  exact h w' r1 r2
theorem step_mapUpdate (w : World) (hg : o.guard = none) (m xo vo : Operand) (ho : o.op = .mapUpdate 68 m xo vo)
    (b : Nat) (f : V → Option Nat) (s : Nat) (hm : a.eval m = .map (some b)) (hown : MapAt w b f s) (k n : Int) (t : ByteArray) (hx : (V.mk k n t).Ok) (hv : a.eval xo = .agg #[.int .i64 k, .int .i64 n, .string t])
    (i : Nat) (hi : i ≤ 9223372036854775807) (hs : s < maxLen) (hvi : a.eval vo = .int .i64 i)
    (h : ∀ w', MapAt w' b (upd f ⟨k, n, t⟩ (some i)) (if (f ⟨k, n, t⟩).isSome then s else s + 1) → Mod (· = b) w w' → K (a.put o.dst undef) w') :
    if Region.wanted o (yielded ops a.tmps) = true then Oper.wp Try.prog o a w K Q else E := by
  have hw : Region.wanted o (yielded ops a.tmps) = true := by simp [Region.wanted, hg]
  rw [if_pos hw]
  obtain ⟨w', hrun, r1, r2⟩ := hown.store hx hi hs
  simp only [V.v] at hrun
  unfold Oper.wp
  simp [execOp, ho, hm, hv, hvi, hrun, Result.andThen]
  exact h w' r1 r2
end

theorem Own.frozen {w : World} {t : TypeId} {sz n m c b : Nat} {cs : List Value} (h : Own w t sz (.slice (some ⟨b, 0, none⟩) m c) n cs) (j : Nat) : w.frozen? ⟨b, j, none⟩ = false := by
  rcases h.2 with ⟨e, _⟩ | ⟨b', c', cur, e, hb, _⟩
  · cases e
  · simp only [Value.slice.injEq, Option.some.injEq, Addr.mk.injEq] at e
    obtain ⟨⟨rfl, _⟩, _⟩ := e
    simp [World.frozen?, hb]
theorem rcs_set (rs : List Row) (i : Nat) (hi : i < rs.length) (r : Row) (u0 u1 u2 u3 u4 u5 u6 : Value) (hu : r.cs = [u0, u1, u2, u3, u4, u5, u6]) :
    ((((((((rcs rs).set (i * 7) u0).set (i * 7 + 1) u1).set (i * 7 + 2) u2).set (i * 7 + 3) u3).set (i * 7 + 4) u4).set (i * 7 + 5) u5).set (i * 7 + 6) u6) = rcs (rs.set i r) := by
  induction rs generalizing i with
  | nil => simp at hi
  | cons y ys ih =>
    have hy : ∃ a0 a1 a2 a3 a4 a5 a6, Row.cs y = [a0, a1, a2, a3, a4, a5, a6] := by cases y <;> exact ⟨_, _, _, _, _, _, _, rfl⟩
    obtain ⟨a0, a1, a2, a3, a4, a5, a6, hy⟩ := hy
    cases i with
    | zero => simp [rcs_cons, hy, hu]
    | succ i =>
      have := ih i (by simpa using hi)
      have e : (i + 1) * 7 = i * 7 + 1 + 1 + 1 + 1 + 1 + 1 + 1 := by omega
      rw [List.set_cons_succ, rcs_cons, rcs_cons, hy, e, ← this]
      simp
theorem rcs_drop (rs : List Row) (k : Nat) : (rcs rs).drop (k * 7) = rcs (rs.drop k) := by
  induction rs generalizing k with
  | nil => simp [rcs]
  | cons x xs ih =>
    cases k with
    | zero => simp
    | succ k =>
      rw [rcs_cons, List.drop_succ_cons, List.drop_append, Row.cs_length, List.drop_of_length_le (by rw [Row.cs_length]; omega), List.nil_append, ← ih k]
      congr 1; omega
theorem mod_setRow {w : World} {g : Nat} (cs : Array Value) : Mod (· = g) w (w.setRow g cs) :=
  ⟨rfl, rfl, rfl, by simp, fun i _ hne => setRow_other w g i cs hne⟩
theorem store_row {w : World} {b m c i : Nat} {rs : List Row} (h : Own w 73 7 (.slice (some ⟨b, 0, none⟩) m c) rs.length (rcs rs)) (hi : i < rs.length) (r : Row) :
    ∃ w', (storeCells ⟨b, i * 7, none⟩ r.cs 0).run Try.prog w = .ok () w' ∧ Own w' 73 7 (.slice (some ⟨b, 0, none⟩) m c) (rs.set i r).length (rcs (rs.set i r)) ∧ Mod (· = b) w w' := by
  obtain ⟨hle, ⟨e, _⟩ | ⟨b', c', cur, e, hb, h1, h2, h3, h4⟩⟩ := h
  · cases e
  · simp only [Value.slice.injEq, Option.some.injEq, Addr.mk.injEq, and_true] at e
    obtain ⟨rfl, rfl, rfl⟩ := e
    have hone : ∀ u ∈ r.cs, u.oneCell' = true := fun u hu => rcs_oneCell [r] u (by rw [rcs_cons, rcs_nil, List.append_nil]; exact hu)
    have hst := run_storeCells_at Try.prog b (i * 7) 73 r.cs 0 cur w hb (by rw [Row.cs_length]; omega) hone
    refine ⟨_, hst, ?_, ?_⟩
    · have hl := rcs_length rs
      refine ⟨rcs_length _, .inr ⟨b, c, _, by rw [List.length_set], setRow_heap w b cur _ 73 (0, 0) hb, by rw [List.length_set]; exact h1, h2, ?_, ?_⟩⟩
      · simp [Row.cs_length]; omega
      · rw [List.length_set, Row.cs_length]
        have hcl : cur.toList.length = cur.size := rfl
        have e1 : cur.toList.take (i * 7) = rcs (rs.take i) := by
          rw [← rcs_take, ← h4, List.take_take]; congr 1; omega
        have e2 : (cur.toList.drop (i * 7 + 7)).take (rs.length * 7 - (i * 7 + 7)) = rcs (rs.drop (i + 1)) := by
          rw [← rcs_drop, ← h4, List.drop_take]
          congr 2 <;> omega
        rw [Nat.add_zero, e1, set_split hi, rcs_append, rcs_cons, ← e2]
        have hlt : (rcs (rs.take i)).length = i * 7 := by rw [rcs_length, List.length_take]; congr 1; omega
        rw [List.take_append, List.take_of_length_le (by rw [List.length_append, hlt, Row.cs_length]; omega), List.length_append, hlt, Row.cs_length, List.append_assoc]
    · exact mod_setRow _
theorem wpList_storeRow (w : World) {ops : Array Oper} {rest : List Oper} {o : Oper} {a : Act} {Q : Exit → Act → World → Prop} (hg : o.guard = none) (p v : Operand) (ho : o.op = .store 73 p v)
    (b i m c : Nat) (rs : List Row) (hown : Own w 73 7 (.slice (some ⟨b, 0, none⟩) m c) rs.length (rcs rs)) (hi : i < rs.length) (r : Row) (cs : Array Value) (hc : cs = r.cs.toArray)
    (hp : a.eval p = .pointer (some ⟨b, i * 7, none⟩)) (hv : a.eval v = .agg cs)
    (h : ∀ w', Own w' 73 7 (.slice (some ⟨b, 0, none⟩) m c) (rs.set i r).length (rcs (rs.set i r)) → Mod (· = b) w w' → wpList Try.prog ops Q rest (a.put o.dst undef) w') :
    wpList Try.prog ops Q (o :: rest) a w := by
  refine wpList_plain hg fun K' hK' => ?_
  subst hc
  obtain ⟨w', hrun, r1, r2⟩ := store_row hown hi r
  have hsz : (sizeOf 73).run Try.prog w = .ok 7 w := by kernel_rfl
  have hcs : (Value.agg r.cs.toArray).cells = r.cs.toArray := rfl
  unfold Oper.wp
  simp [execOp, ho, hp, hv, Instr.storeAt, Instr.sureAddr, storeVar, hsz, hcs, Row.cs_length, hrun, Result.andThen]
  exact hK' _ _ (h w' r1 r2)
theorem DictAt.ne_gb {w : World} {g B b m c : Nat} {rs : List Row} {f : V → Option Nat} {L : List (V × V)} (h : DictAt w g B (.slice (some ⟨b, 0, none⟩) m c) rs f L) : ¬ g = b := by
  rintro rfl
  have h1 := h.blk
  unfold Blk at h1
  rcases h.own.2 with ⟨e, _⟩ | ⟨b', c', cur, e, hb, _⟩
  · cases e
  · simp only [Value.slice.injEq, Option.some.injEq, Addr.mk.injEq, and_true] at e
    obtain ⟨rfl, _⟩ := e
    rw [h1] at hb
    cases hb
theorem DictAt.ne_Bb {w : World} {g B b m c : Nat} {rs : List Row} {f : V → Option Nat} {L : List (V × V)} (h : DictAt w g B (.slice (some ⟨b, 0, none⟩) m c) rs f L) : ¬ B = b := by
  rintro rfl
  obtain ⟨D, ⟨es, clock, h1, _⟩, _⟩ := h.map
  rcases h.own.2 with ⟨e, _⟩ | ⟨b', c', cur, e, hb, _⟩
  · cases e
  · simp only [Value.slice.injEq, Option.some.injEq, Addr.mk.injEq, and_true] at e
    obtain ⟨rfl, _⟩ := e
    rw [h1] at hb
    cases hb
theorem DictAt.ne_gB {w : World} {g B : Nat} {v : Value} {rs : List Row} {f : V → Option Nat} {L : List (V × V)} (h : DictAt w g B v rs f L) : ¬ g = B := by
  rintro rfl
  obtain ⟨D, ⟨es, clock, h1, _⟩, _⟩ := h.map
  have h2 := h.blk
  unfold Blk at h2
  rw [h1] at h2
  cases h2
theorem delL_of_none {L : List (V × V)} {k : V} (h : findL L k = none) : delL L k = L := by
  unfold findL at h
  rw [Option.map_eq_none_iff, List.find?_eq_none] at h
  unfold delL
  exact List.filter_eq_self.2 fun p hp => by simpa using h p hp

theorem delL_length {f : V → Option Nat} {rs : List Row} (h : KeysAt f rs) {k : V} {i : Nat} (hf : f k = some i) : (delL (live rs) k).length + 1 = (live rs).length := by
  obtain ⟨x, hx⟩ := (h k i).1 hf
  rw [← live_del h hf, set_split (List.getElem?_eq_some_iff.1 hx).1]
  conv => rhs; rw [split_at hx]
  rw [live_append, live_none, live_append, live_some]
  simp
  omega
set_option maxRecDepth 100000 in
set_option maxHeartbeats 400000 in
theorem del_any {w : World} {S : Nat → Prop} {g : Nat} {L : List (V × V)} (h : IsDict w S g L) (x : V) (hx : x.Ok) :
    Calls Try.prog 18 #[.pointer (some ⟨g, 0, none⟩), .agg #[.int .i64 x.k, .int .i64 x.n, .string x.s]] w fun e w' => e = .returned (.bool (findL L x).isSome) ∧ IsDict w' S g (delL L x) ∧ Mod S w w' := by
  obtain ⟨B, v, rs, f, h, hS1, hS2, hS3, hS4⟩ := h
  have hb := h.blk.lt
  have c0 := h.blk.cell 0
  have c1 := h.blk.cell 1
  simp only [List.getElem?_toArray, List.getElem?_cons_zero, List.getElem?_cons_succ] at c0 c1
  obtain ⟨k, n, s⟩ := x
  have HX := Lib.hid hx
  cases e : f ⟨k, n, s⟩ with
  | none =>
    have hl : ∀ o1 q, (Instr.lookup 68 (.map (some B)) (.agg #[.int .i64 k, .int .i64 n, .string s]) true).run Try.prog ((w.alloc o1).drewN q) = .ok (.tuple #[.int .i64 0, .bool false]) ((w.alloc o1).drewN q) := fun o1 q => by
      have := (h.map.new (w' := (w.alloc o1).drewN q) (by repeat (first | exact Below.refl _ _ | assumption | refine Below.setCell ?_ (by first | (simp; done) | (simp; omega) | omega) _ | refine below_drewN ?_ _ | refine Below.drew ?_ | refine Below.alloc ?_ (by first | (simp; done) | (simp; omega) | omega) _))).look hx
      rw [e] at this
      exact this
    have HF := Lib.hid (h.keys.no e)
    rw [h.live] at HF
    have HH := Lib.hid (show IsDict w S g L from ⟨B, v, rs, f, h, hS1, hS2, hS3, hS4⟩)
    clear h e hx hS1 hS2 hS3 hS4
    go_enter Try.func18, Try.ntmps18
    go_wp2_with fail
    go_quiet (fail)
    go_wp2
    go_ret
    refine ⟨?_, ?_, Mod.new (by repeat (first | exact Below.refl _ _ | assumption | refine Below.setCell ?_ (by first | (simp; done) | (simp; omega) | omega) _ | refine below_drewN ?_ _ | refine Below.drew ?_ | refine Below.alloc ?_ (by first | (simp; done) | (simp; omega) | omega) _))⟩
    · rw [HF.out]; rfl
    · rw [delL_of_none HF.out]; exact HH.out.new (by repeat (first | exact Below.refl _ _ | assumption | refine Below.setCell ?_ (by first | (simp; done) | (simp; omega) | omega) _ | refine below_drewN ?_ _ | refine Below.drew ?_ | refine Below.alloc ?_ (by first | (simp; done) | (simp; omega) | omega) _))
  | some i =>
    obtain ⟨⟨k', n', s'⟩, hr⟩ := (h.keys _ _).1 e
    obtain ⟨b, m, c, rfl, him, hm, hb1, hc⟩ := h.at_ hr
    have hn := h.rows
    have hl : ∀ o1 q, (Instr.lookup 68 (.map (some B)) (.agg #[.int .i64 k, .int .i64 n, .string s]) true).run Try.prog ((w.alloc o1).drewN q) = .ok (.tuple #[.int .i64 i, .bool true]) ((w.alloc o1).drewN q) := fun o1 q => by
      have := (h.map.new (w' := (w.alloc o1).drewN q) (by repeat (first | exact Below.refl _ _ | assumption | refine Below.setCell ?_ (by first | (simp; done) | (simp; omega) | omega) _ | refine below_drewN ?_ _ | refine Below.drew ?_ | refine Below.alloc ?_ (by first | (simp; done) | (simp; omega) | omega) _))).look hx
      rw [e] at this
      exact this
    have HF := Lib.hid (h.keys.find hr)
    rw [h.live] at HF
    have HH := Lib.hid h
    have E := Lib.hid e
    have HS := Lib.hid (And.intro hS1 (And.intro hS2 (And.intro (hS3 b rfl) hS4)))
    clear h e hc hr hx hS1 hS2 hS3 hS4
    go_enter Try.func18, Try.ntmps18
    go_wp2_with fail
    go_quiet (fail)
    go_wp2_with (refine wpList_storeRow _ rfl (.tmp 23) (.tmp 22) rfl b i _ c rs (HH.out.own.new (by repeat (first | exact Below.refl _ _ | assumption | refine Below.setCell ?_ (by first | (simp; done) | (simp; omega) | omega) _ | refine below_drewN ?_ _ | refine Below.drew ?_ | refine Below.alloc ?_ (by first | (simp; done) | (simp; omega) | omega) _))) (by omega) none _ rfl rfl rfl ?_; intro w3 own3 mod3)
    have hgb : ¬ g = b := HH.out.ne_gb
    have hBb : ¬ B = b := HH.out.ne_Bb
    have hwb : ¬ w.heap.size = b := by omega
    have m3 : Mod (· = b) w w3 := Mod.trans (S := (· = b)) (Mod.new (by repeat (first | exact Below.refl _ _ | assumption | refine Below.setCell ?_ (by first | (simp; done) | (simp; omega) | omega) _ | refine below_drewN ?_ _ | refine Below.drew ?_ | refine Below.alloc ?_ (by first | (simp; done) | (simp; omega) | omega) _))) mod3 (fun _ _ h => h)
    have HM3 := Lib.hid m3
    have hg3 : g < w3.heap.size := Nat.lt_of_lt_of_le hb m3.size
    have hw3 : w.heap.size < w3.heap.size := Nat.lt_of_lt_of_le (by simp) mod3.size
    have HGB := Lib.hid HH.out.ne_gB
    have HWB : Hid (¬ w.heap.size = B) := by have := HH.out.map.lt; show ¬ w.heap.size = B; omega
    have cg := (m3.cell (p := ⟨g, 0, none⟩) hb hgb).trans c0
    have x0 := (mod3.cell (p := ⟨w.heap.size, 0, none⟩) (by simp) hwb).trans ((Blk.new w 24 #[.int .i64 k, .int .i64 n, .string s]).cell 0)
    have x1 := (mod3.cell (p := ⟨w.heap.size, 1, none⟩) (by simp) hwb).trans ((Blk.new w 24 #[.int .i64 k, .int .i64 n, .string s]).cell 1)
    have x2 := (mod3.cell (p := ⟨w.heap.size, 2, none⟩) (by simp) hwb).trans ((Blk.new w 24 #[.int .i64 k, .int .i64 n, .string s]).cell 2)
    simp only [List.getElem?_toArray, List.getElem?_cons_zero, List.getElem?_cons_succ] at x0 x1 x2
    have HMAP := Lib.hid (HH.out.map.mod m3 hBb)
    have HOWN := Lib.hid own3
    clear own3 mod3 m3 c0 c1 hl hgb hBb hwb
    go_wp2_with fail
    go_region_held3 (fun w' => w'.cell? ⟨g, 0, none⟩ = some (.map (some B)) ∧ w'.cell? ⟨w.heap.size, 0, none⟩ = some (.int .i64 k) ∧ w'.cell? ⟨w.heap.size, 1, none⟩ = some (.int .i64 n) ∧ w'.cell? ⟨w.heap.size, 2, none⟩ = some (.string s)) (first | exact HK4.out | go_keep)
      ((refine step_delete _ rfl (.tmp 27) (.tmp 28) rfl B f L.length rfl (by exact HMAP.out.new (by repeat (first | exact Below.refl _ _ | assumption | refine Below.setCell ?_ (by first | (simp; done) | (simp; omega) | omega) _ | refine below_drewN ?_ _ | refine Below.drew ?_ | refine Below.alloc ?_ (by first | (simp; done) | (simp; omega) | omega) _))) k n s HX.out rfl ?_; intro w4 map4 mod4; have HK4 := Lib.hid (And.intro ((mod4.cell (p := ⟨g, 0, none⟩) hg3 HGB.out).trans cg) (And.intro ((mod4.cell (p := ⟨w.heap.size, 0, none⟩) hw3 HWB.out).trans x0) (And.intro ((mod4.cell (p := ⟨w.heap.size, 1, none⟩) hw3 HWB.out).trans x1) ((mod4.cell (p := ⟨w.heap.size, 2, none⟩) hw3 HWB.out).trans x2))))))
    go_wp2_with fail
    go_ret
    obtain ⟨s1, s2, s3, s4⟩ := HS.out
    have m34 : Mod (· = B) w3 w4 := ⟨mod4.os, mod4.tape, mod4.output, mod4.size, mod4.block⟩
    refine ⟨by rw [HF.out]; rfl, ⟨B, .slice (some ⟨b, 0, none⟩) m c, rs.set i none, upd f ⟨k, n, s⟩ none, ⟨?_, ?_, ?_, HH.out.keys.set_none E.out, ?_, ?_, ?_, ?_, HH.out.lt⟩, s1, s2, ?_, ?_⟩, ?_⟩
    · exact (HH.out.blk.mod HM3.out HH.out.ne_gb).mod m34 HGB.out
    · have hd := delL_length HH.out.keys E.out
      rw [HH.out.live] at hd
      rw [E.out, Option.isSome_some, if_pos rfl] at map4
      have e : (delL L ⟨k, n, s⟩).length = L.length - 1 := by omega
      rw [e]
      exact map4
    · exact HOWN.out.mod m34 (fun b' e => by
        simp only [Value.ownBlock] at e
        obtain rfl := Option.some.inj e
        exact fun e => HH.out.ne_Bb e.symm)
    · rw [live_del HH.out.keys E.out, HH.out.live]
    · exact fun p hp => HH.out.ok p (List.mem_filter.1 (by unfold delL at hp; exact hp)).1
    · exact Nat.le_trans (List.length_filter_le _ _) HH.out.len
    · rw [List.length_set]; exact HH.out.rows
    · intro b' e
      simp only [Value.ownBlock] at e
      obtain rfl := Option.some.inj e
      exact s3
    · exact fun j hj => Nat.lt_of_lt_of_le (s4 j hj) (Nat.le_trans HM3.out.size m34.size)
    · exact Mod.trans (HM3.out.mono (fun j _ e => by subst e; exact s3)) m34 (fun j _ e => by subst e; exact s2)
end Go.Proofs.Ytfdihmbmlhlkgaa
