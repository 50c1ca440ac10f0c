/- All's iterator gives the pairs. -/
import Derived.Test.YtfdihmbmlhlkgaaItr
namespace Go.Proofs.Ytfdihmbmlhlkgaa
open Go.RowKit Go.Shelf
attribute [local go_sem] Oper.semAt_some

theorem live_take {rs : List Row} {k : Nat} {r : Row} (h : rs[k]? = some r) : live (rs.take (k + 1)) = live (rs.take k) ++ r.toList := by
  obtain ⟨hl, rfl⟩ := List.getElem?_eq_some_iff.1 h
  rw [List.take_succ_eq_append_getElem hl, live_append]
  cases rs[k] <;> rfl
theorem live_prefix (rs : List Row) (k : Nat) : live (rs.take k) <+: live rs := ⟨live (rs.drop k), by rw [← live_append, List.take_append_drop]⟩
/-- the clone that the iterator reads -/
structure CloneAt (g' : Nat) (v' : Value) (rs : List Row) (W wr : World) : Prop where
  own : Own wr 73 7 v' rs.length (rcs rs)
  isd : IsD wr g'
  far : ∀ b, v'.ownBlock = some b → ¬ RowOf wr g' b
  size : W.heap.size ≤ wr.heap.size
theorem CloneAt.kept {g' : Nat} {v' : Value} {rs : List Row} {W wr w' : World} (h : CloneAt g' v' rs W wr) (hk : KpRows g' wr w') : CloneAt g' v' rs W w' := by
  obtain ⟨d, hr⟩ := hk.2 h.isd
  refine ⟨Own.keep h.own fun b e => ?_, d, fun b e => ?_, Nat.le_trans h.size hk.1⟩
  · rcases h.own.2 with ⟨rfl, _⟩ | ⟨b', _, cur, rfl, hb, _⟩
    · cases e
    · obtain rfl : b' = b := by simpa [Value.ownBlock] using e
      rw [hb]
      exact (hr b' cur hb (h.far b' rfl)).1
  · rcases h.own.2 with ⟨rfl, _⟩ | ⟨b', _, cur, rfl, hb, _⟩
    · cases e
    · obtain rfl : b' = b := by simpa [Value.ownBlock] using e
      exact (hr b' cur hb (h.far b' rfl)).2

set_option maxRecDepth 100000 in
set_option maxHeartbeats 2000000 in
theorem all1_in {α : Type} (dec : α → V × V) (n : Nat) (hn : 1 ≤ n) (l e g B g' : Nat) (v : Value) (rs : List Row) (f : V → Option Nat) (L : List (V × V)) (La : List α) (hLa : La.map dec = L) (J Jx : List α → World → Prop)
    (hY : ∀ pre x W, J pre W → pre.length < L.length → YieldAt Fence.wide (n - 1) Try.prog l #[V.v (dec x).1, V.v (dec x).2] W fun e' W' =>
      (e' = .returned (.bool true) ∧ J (pre ++ [x]) W' ∧ KpRows g' W W') ∨ (e' = .returned (.bool false) ∧ Jx (pre ++ [x]) W'))
    (W : World) (hD : DictAt W g B v rs f L) (hbox : Blk W e 27 #[.pointer (some ⟨g, 0, none⟩)]) (hd : IsD W g') (hlt : ∀ b, RowOf W g' b → b < W.heap.size) (hJ : AbidesFrom W.heap.size J) (h0 : J [] W) :
    CallsIn Fence.wide n Try.prog 36 #[.func (.yield l) #[] #[], .pointer (some ⟨e, 0, none⟩)] W fun e W' => (∃ v, e = .returned v) ∧
      ((∃ ys, ys = La ∧ J ys W') ∨ (∃ pre, pre <+: La ∧ Jx pre W')) := by
  have hlL : La.length = L.length := by rw [← hLa, List.length_map]
  have HLA := Lib.hid hLa
  clear hLa
  have hrn := hD.rows
  have hg := hD.blk.lt
  have he := hbox.lt
  obtain ⟨A, c, rfl, -, -⟩ := Own.rd hD.own
  have ce := hbox.cell 0
  have c1 := hD.blk.cell 1
  simp only [List.getElem?_toArray, List.getElem?_cons_zero, List.getElem?_cons_succ] at ce c1
  have HD := Lib.hid hD
  have HLT := Lib.hid hlt
  have HJ := Lib.hid hJ
  have HID := Lib.hid hd
  clear hD hbox hlt hJ hd
  refine callsIn_of_wp Try.func36 rfl trivial ?_ rfl
  simp only [Try.ntmps36, List.size_toArray, List.length_cons, List.length_nil, Nat.reduceAdd, Nat.reduceSub, Array.replicate_succ, Array.replicate_zero, List.push_toArray, List.append_toArray, List.nil_append, List.cons_append]
  gi_wp2
  refine ⟨trivial, ?_⟩
  refine ((callsIn_wide (n := n - 1)).2 (cloneR_any _ rs W HD.out.own (by omega))).mono ?_
  rintro e' W1 ⟨v', rfl, hv⟩
  obtain ⟨A', c', rfl, -, -⟩ := Own.rd hv.own
  have hb1 := hv.bel
  have C1 : CloneAt g' (.slice A' rs.length c') rs W W1 := ⟨hv.own, (KpRows.new hb1).2 HID.out |>.1, fun b e hr => by
    obtain ⟨m, u, hm⟩ := HID.out
    have h1 := hm.new' hb1
    obtain ⟨m', u', hm', hu'⟩ := hr
    unfold Blk at h1 hm'
    rw [h1] at hm'
    cases hm'
    have := HLT.out b ⟨m, u, hm, hu'⟩
    have := hv.new b e
    omega, hb1.size⟩
  have J1 : J [] W1 := HJ.out _ _ _ none h0 (grown_none hb1) (fun r e => by cases e)
  clear hv hb1 h0 ce c1 HLT HID
  gi_wp2
  gi_loopw [11] (fun i wr => ∃ k : Nat, k ≤ rs.length ∧ i = .int .i64 k ∧ J (La.take (live (rs.take k)).length) wr ∧ CloneAt g' (.slice A' rs.length c') rs W wr) (fun i _ => rs.length - (intOf i).toNat)
  case atStart => exact ⟨0, Nat.zero_le _, rfl, by simpa [live] using J1, C1⟩
  case round =>
    clear J1 C1
    obtain ⟨k, hk, rfl, hJs, hC⟩ := hrel
    by_cases hlt : k < rs.length
    · obtain ⟨r, hr⟩ : ∃ r, rs[k]? = some r := ⟨rs[k]'(by omega), List.getElem?_eq_getElem _⟩
      obtain ⟨b, rfl⟩ : ∃ b, A' = some ⟨b, 0, none⟩ := by
        rcases hC.own.2 with ⟨_, h0⟩ | ⟨b, _, _, e, _⟩
        · omega
        · injection e with e1 _ _
          exact ⟨b, e1⟩
      obtain ⟨hb, hc⟩ := hC.own.at_ hr
      have hst := live_take hr
      have hpf := live_prefix rs (k + 1)
      rw [HD.out.live] at hpf
      have HR := Lib.hid hr
      cases r with
      | none =>
        have hst : live (rs.take (k + 1)) = live (rs.take k) := by rw [hst]; exact List.append_nil _
        have z0 := hc 0 (.int .i64 0) rfl
        have z1 := hc 1 (.int .i64 0) rfl
        have z2 := hc 2 (.string ⟨#[]⟩) rfl
        have z3 := hc 3 (.int .i64 0) rfl
        have z4 := hc 4 (.int .i64 0) rfl
        have z5 := hc 5 (.string ⟨#[]⟩) rfl
        have z6 := hc 6 (.bool true) rfl
        simp only [Nat.add_zero] at z0
        have HST := Lib.hid hst
        have HC := Lib.hid hC
        clear hc hst hr hC hpf
        gi_wp2
        refine ⟨fun _ h => (by cases h), ?_⟩
        gi_wp2
        go_roundw
        case rel => exact ⟨k + 1, by omega, by go_num, by rw [HST.out]; exact HJ.out _ _ _ none hJs (World.grownBy_alloc _ _ none) (fun r e => by cases e), HC.out.kept (KpRows.new (by repeat (first | exact Below.refl _ _ | assumption | refine Below.setCell ?_ (by first | (simp; done) | (simp; omega) | omega) _ | refine below_drewN ?_ _ | refine Below.drew ?_ | refine Below.alloc ?_ (by first | (simp; done) | (simp; omega) | omega) _)))⟩
        case measure => simp [intOf]; omega
      | some p =>
        have hlen : (live (rs.take k)).length < L.length := by
          have := hpf.length_le
          rw [hst] at this
          simp at this
          omega
        have hst : live (rs.take (k + 1)) = live (rs.take k) ++ [p] := hst
        rw [hst] at hpf
        obtain ⟨⟨k1, n1, s1⟩, ⟨k2, n2, s2⟩⟩ := p
        have z0 := hc 0 (.int .i64 k1) rfl
        have z1 := hc 1 (.int .i64 n1) rfl
        have z2 := hc 2 (.string s1) rfl
        have z3 := hc 3 (.int .i64 k2) rfl
        have z4 := hc 4 (.int .i64 n2) rfl
        have z5 := hc 5 (.string s2) rfl
        have z6 := hc 6 (.bool false) rfl
        simp only [Nat.add_zero] at z0
        have hJ2 := HJ.out _ _ _ none hJs (World.grownBy_alloc wr (.cells #[.int .i64 k1, .int .i64 n1, .string s1, .int .i64 k2, .int .i64 n2, .string s2, .bool false] 73) none) (fun r e => by cases e)
        have hC2 := hC.kept (KpRows.new (W' := wr.alloc (.cells #[.int .i64 k1, .int .i64 n1, .string s1, .int .i64 k2, .int .i64 n2, .string s2, .bool false] 73)) (by repeat (first | exact Below.refl _ _ | assumption | refine Below.setCell ?_ (by first | (simp; done) | (simp; omega) | omega) _ | refine below_drewN ?_ _ | refine Below.drew ?_ | refine Below.alloc ?_ (by first | (simp; done) | (simp; omega) | omega) _)))
        have hlen' : (live (rs.take k)).length < La.length := by omega
        obtain ⟨x, hx⟩ : ∃ x, La[(live (rs.take k)).length]? = some x := ⟨_, List.getElem?_eq_getElem hlen'⟩
        have hdx : dec x = (⟨k1, n1, s1⟩, ⟨k2, n2, s2⟩) := by
          have h1 : (La.map dec)[(live (rs.take k)).length]? = some (dec x) := by rw [List.getElem?_map, hx]; rfl
          rw [HLA.out] at h1
          obtain ⟨t, ht⟩ := hpf
          rw [← ht, List.append_assoc, List.getElem?_append_right (Nat.le_refl _), Nat.sub_self] at h1
          exact (Option.some.inj h1).symm
        have hst : La.take (live (rs.take (k + 1))).length = La.take (live (rs.take k)).length ++ [x] := by
          obtain ⟨hl1, hl2⟩ := List.getElem?_eq_some_iff.1 hx
          rw [hst, List.length_append, List.length_singleton, List.take_succ_eq_append_getElem hl1, hl2]
        have hpf : La.take (live (rs.take k)).length ++ [x] <+: La := by rw [← hst]; exact List.take_prefix _ _
        obtain ⟨fn, tmps, assign, body, hy, hR2⟩ := hY _ x _ hJ2 (by rw [List.length_take]; omega)
        rw [hdx] at hy
        simp only [V.v] at hy
        have HST := Lib.hid hst
        have HPF := Lib.hid hpf
        have HC := Lib.hid hC2
        clear hc hst hr hC hpf hC2 hJ2 hJs hlen hlen' hx hdx
        gi_wp2
        refine hR2.mono ?_
        rintro e' W3 (⟨rfl, hJ3, hk3⟩ | ⟨rfl, hJx3⟩)
        · gi_wp2
          go_roundw
          case rel => exact ⟨k + 1, by omega, by go_num, by rw [HST.out]; exact hJ3, HC.out.kept hk3⟩
          case measure => simp [intOf]; omega
        · gi_wp2
          refine bodyPost_ret (results_none rfl _ _ _) rfl ?_
          exact ⟨⟨_, rfl⟩, .inr ⟨_, HPF.out, hJx3⟩⟩
    · obtain rfl : k = rs.length := by omega
      rw [List.take_length, HD.out.live, ← hlL, List.take_length] at hJs
      have HC := Lib.hid hC
      clear hC
      gi_wp2
      go_end0
      exact ⟨⟨_, rfl⟩, .inl ⟨_, rfl, hJs⟩⟩
end Go.Proofs.Ytfdihmbmlhlkgaa
