/- scan.Keyword: a map made of strings.Fields. scan.Name. scan.Name. maps of texts to numbers; express.Level. -/
import Derived.Test.YtjdcicopjipmnaaDoorMemB
import Derived.Test.YtjdcicopjipmnaaDoorShelf
import Derived.Test.YtjdcicopjipmnaaDoorPrs
import Derived.Maps.OwnSet
namespace Go.Proofs.YtjdcicopjipmnaaDoor
open Go.RowKit Go.Maps Go.WideMaps
set_option linter.unusedVariables false
set_option linter.unusedSimpArgs false
open Go.RowKit
attribute [local go_sem] Oper.semAt_some

theorem keyed9 : Maps.Keyed Tryd.prog 9 := Maps.string_keyed Tryd.underlying9
theorem zero4 (w : World) : (zeroValue 4).run Tryd.prog w = .ok (.bool false) w := by kernel_rfl
theorem plainElem_bool_inv {v : Value} {z : DataW Unit × List MemPlace} (h : plainElem Tryd.prog 4 v = some z) : ∃ x, v = .bool x ∧ z = (.lit (.bool x), []) := by
  simp only [plainElem, Tryd.underlying4] at h
  cases v <;> simp only [reduceCtorEq, Option.some.injEq] at h
  exact ⟨_, rfl, h.symm⟩
/-- block b is a map of at most n texts -/
def SetAt (w : World) (b n : Nat) (f : ByteArray → Bool) : Prop := ∃ D : DataW Unit, w.ownsMap Tryd.prog 9 (plainElem Tryd.prog 4) b n D ∧ ∀ x : ByteArray, x.size ≤ maxLen → D.atKey (.string x.data.toList) (.lit (.bool false)) = .lit (.bool (f x))
theorem mod_turned {w w' : World} {b : Nat} (h : w.mapTurned w' b) : Mod (· = b) w w' := by
  obtain ⟨es, clock, es', clock', hb, rfl⟩ := h
  exact ⟨rfl, rfl, rfl, by simp [ChangeMaps.setBlock], fun i hi hne => ChangeMaps.heap_setBlock_other hb _ (fun e => hne e)⟩
theorem bytes_ext {x y : ByteArray} (h : x.data.toList = y.data.toList) : x = y := by
  cases x; cases y; congr 1; exact Array.toList_inj.1 h
section
variable {w : World} {b n : Nat} {f : ByteArray → Bool}
theorem SetAt.lt (h : SetAt w b n f) : b < w.heap.size := by
  obtain ⟨D, h, _⟩ := h
  exact h.lt
theorem SetAt.made (w : World) : SetAt (w.alloc (.map #[] 0)) w.heap.size 0 (fun _ => false) := ⟨.map [], World.ownsMap_made w _ _ _, fun x _ => rfl⟩
theorem SetAt.mod {w' : World} {S : Nat → Prop} (h : SetAt w b n f) (hm : Mod S w w') (hb : ¬ S b) : SetAt w' b n f := by
  have hlt := h.lt
  obtain ⟨D, ⟨es, clock, e, h1⟩, h2⟩ := h
  exact ⟨D, ⟨es, clock, (hm.block b hlt hb).trans e, h1⟩, h2⟩
theorem SetAt.look (h : SetAt w b n f) {x : ByteArray} (hx : x.size ≤ maxLen) : (Instr.lookup 108 (.map (some b)) (.string x) false).run Tryd.prog w = .ok (.bool (f x)) w := by
  obtain ⟨D, ho, hf⟩ := h
  obtain ⟨v, ps, hrun, hv⟩ := ho.lookup keyed9 Tryd.underlying108 (zero4 w) (plainElem_bool Tryd.underlying4 false) (keyOf_string_mk Tryd.underlying9 hx)
  obtain ⟨c, rfl, hc⟩ := plainElem_bool_inv hv
  rw [hrun]
  rw [hf x hx] at hc
  simp only [Prod.mk.injEq, DataW.lit.injEq, Lit.bool.injEq] at hc
  rw [hc.1]
theorem SetAt.store (h : SetAt w b n f) {x : ByteArray} (hx : x.size ≤ maxLen) (hn : n < maxLen) :
    ∃ w', (Instr.mapUpdate 108 (.map (some b)) (.string x) (.bool true)).run Tryd.prog w = .ok () w' ∧ SetAt w' b (n + 1) (fun y => if y = x then true else f y) ∧ Mod (· = b) w w' := by
  obtain ⟨D, ho, hf⟩ := h
  obtain ⟨w', hrun, ho', ht⟩ := ho.store keyed9 Tryd.underlying108 hn (keyOf_string_mk Tryd.underlying9 hx) (plainElem_bool Tryd.underlying4 true)
  refine ⟨w', hrun, ⟨_, ho', fun y hy => ?_⟩, mod_turned ht⟩
  show _ = DataW.lit (Lit.bool (if y = x then true else f y))
  by_cases e : y = x
  · subst e
    rw [if_pos rfl, Maps.atKey_put_same ho.isMap (show WideAt.IsKeyLit (Lit.string y.data.toList) from trivial)]
  · rw [if_neg e, Maps.atKey_put_other]
    · exact hf y hy
    · intro h
      exact e (bytes_ext (Lit.string.inj h))
end
def kwText : List UInt8 := [78, 111, 110, 101, 32, 84, 114, 117, 101, 32, 70, 97, 108, 115, 101, 32, 97, 110, 100, 32, 111, 114, 32, 110, 111, 116, 32, 105, 102, 32, 101, 108, 115, 101, 32, 101, 108, 105, 102, 32, 119, 104, 105, 108, 101, 32, 102, 111, 114, 32, 105, 110, 32, 105, 115, 32, 98, 114, 101, 97, 107, 32, 99, 111, 110, 116, 105, 110, 117, 101, 32, 112, 97, 115, 115, 32, 100, 101, 102, 32, 99, 108, 97, 115, 115, 32, 114, 101, 116, 117, 114, 110, 32, 114, 97, 105, 115, 101, 32, 116, 114, 121, 32, 101, 120, 99, 101, 112, 116, 32, 97, 115, 32, 102, 105, 110, 97, 108, 108, 121, 32, 103, 108, 111, 98, 97, 108, 32, 110, 111, 110, 108, 111, 99, 97, 108, 32, 100, 101, 108, 32, 97, 115, 115, 101, 114, 116, 32, 121, 105, 101, 108, 100, 32, 108, 97, 109, 98, 100, 97]
theorem kw_len : keywords.length = 30 := by decide
set_option maxRecDepth 100000 in
theorem kw_fields : (Lib.fields kwText).map (fun l => Value.string ⟨l.toArray⟩) = keywords.map Value.string := by kernel_rfl
theorem kw_fields_len : (Lib.fields kwText).length = 30 := by kernel_rfl
theorem kw_size : (⟨kwText.toArray⟩ : ByteArray).size < 4294967281 := by
  have h : (⟨kwText.toArray⟩ : ByteArray).size = 160 := by kernel_rfl
  omega
set_option maxRecDepth 100000 in
theorem kw_ascii : ∀ (j : Nat) b, (⟨kwText.toArray⟩ : ByteArray).data.toList[j]? = some b → b.toNat < 128 := fun j b h => by
  have h1 : ∀ b ∈ kwText, b.toNat < 128 := by decide
  exact h1 b (List.mem_of_getElem? (by simpa using h))
theorem kw_small : ∀ x ∈ keywords, x.size ≤ maxLen := by
  have h : ∀ x ∈ keywords, x.size ≤ 100 := by decide
  intro x hx
  have := h x hx
  unfold maxLen
  omega
theorem tab_below {n : String} {g : Nat} {k : IntKind} {zs : List Int} {w w' : World} (hg : Tryd.prog.globalNamed n = some g) (h : Lib.TabIs Tryd.prog w n k zs) (hb : Below w.heap.size w w') : Lib.TabIs Tryd.prog w' n k zs := by
  unfold Lib.TabIs World.var? at h ⊢
  rw [hg] at h ⊢
  simp only [Option.bind_some] at h ⊢
  have hlt : g < w.heap.size := by
    rcases Nat.lt_or_ge g w.heap.size with h' | h'
    · exact h'
    · rw [Array.getElem?_eq_none h'] at h; cases h
  rw [hb.block g hlt]
  exact h
abbrev Asp (w : World) : Prop := Lib.TabIs Tryd.prog w "strings.asciiSpace" .u8 Lib.asciiSpaceTab
theorem Asp.below {w w' : World} (h : Asp w) (hb : Below w.heap.size w w') : Asp w' := tab_below (g := 0) (by kernel_rfl) h hb
theorem fields_kw (w : World) (htab : Asp w) :
    Calls Tryd.prog 69 #[.string ⟨kwText.toArray⟩] w fun e w' => e = .returned (.slice (some ⟨w.heap.size, 0, none⟩) 30 30) ∧ w' = w.alloc (.cells (keywords.map Value.string).toArray 9) := by
  refine (Tryd.strings_Fields ⟨kwText.toArray⟩ w kw_size kw_ascii htab).mono ?_
  rintro e w' ⟨rfl, rfl⟩
  have e : (⟨kwText.toArray⟩ : ByteArray).data.toList = kwText := rfl
  rw [e, kw_fields, kw_fields_len]
  exact ⟨rfl, rfl⟩
theorem kw_step (k : Nat) (x : ByteArray) (h : keywords[k]? = some x) : (fun y => if y = x then true else ((keywords.take k).any fun z => decide (z = y))) = fun y => (keywords.take (k + 1)).any fun z => decide (z = y) := by
  funext y
  rw [List.take_add_one, h, List.any_append]
  by_cases e : y = x
  · simp [e]
  · simp [e, Ne.symm e]
set_option maxRecDepth 100000 in
set_option maxHeartbeats 2000000 in
theorem keyword_any (t : ByteArray) (ht : t.size ≤ maxLen) (w : World) (htab : Asp w) :
    Calls Tryd.prog 45 #[.string t] w fun e w' => e = .returned (.bool (kwB t)) ∧ Below w.heap.size w w' := by
  have hmk := run_makeMap (P := Tryd.prog) 108 w
  have HT : Hid (Asp (w.alloc (.map #[] 0))) := Lib.hid (Asp.below htab (by repeat (first | exact Below.refl _ _ | assumption | refine Below.setCell ?_ (by first | (simp; done) | (simp; omega) | omega) _ | refine below_drewN ?_ _ | refine Below.drew ?_ | refine Below.alloc ?_ (by first | (simp; done) | (simp; omega) | omega) _)))
  clear htab
  go_enter Tryd.func45, Tryd.ntmps45
  go_wp2_with (go_at_call 69; refine (fields_kw _ HT.out).mono ?_; rintro e w1 ⟨rfl, rfl⟩)
  go_loopw [9] (fun i wr => ∃ k : Nat, k ≤ 30 ∧ i = .int .i64 k ∧ SetAt wr w.heap.size k (fun y => (keywords.take k).any fun z => decide (z = y)) ∧ Below w.heap.size w wr ∧ Blk wr (w.heap.size + 1) 9 (keywords.map Value.string).toArray) (fun i _ => 30 - (intOf i).toNat)
  case atStart =>
    refine ⟨0, by omega, rfl, (SetAt.made w).mod (S := fun _ => False) (by repeat (first | exact Mod.refl _ _ | assumption | refine Mod.setCell ?_ (by intro hx__; first | (simp at hx__; done) | (exfalso; revert hx__; simp; done) | assumption | skip) _ | refine Mod.drewN ?_ _ | refine Mod.drew ?_ | refine Mod.alloc ?_ _)) id, (by repeat (first | exact Below.refl _ _ | assumption | refine Below.setCell ?_ (by first | (simp; done) | (simp; omega) | omega) _ | refine below_drewN ?_ _ | refine Below.drew ?_ | refine Below.alloc ?_ (by first | (simp; done) | (simp; omega) | omega) _)), ?_⟩
    have hh := Blk.new (w.alloc (.map #[] 0)) 9 (keywords.map Value.string).toArray
    rw [World.size_alloc] at hh
    exact hh
  case round =>
    obtain ⟨k, hk, rfl, hset, hbel, hblk⟩ := hrel
    have HB := Lib.hid hbel
    have HK := Lib.hid hblk
    have HS := Lib.hid hset
    by_cases hlt : k < 30
    · obtain ⟨x, hx⟩ : ∃ x, keywords[k]? = some x := ⟨_, List.getElem?_eq_getElem (by rw [kw_len]; exact hlt)⟩
      have hc : wr.cell? ⟨w.heap.size + 1, k, none⟩ = some (.string x) := by
        rw [hblk.cell, List.getElem?_toArray, List.getElem?_map, hx]; rfl
      obtain ⟨w1, hrun, hset1, hmod1⟩ := hset.store (kw_small x (List.mem_of_getElem? hx)) (by unfold maxLen; omega)
      have HX := Lib.hid hx
      have H1 := Lib.hid hset1
      have HM := Lib.hid hmod1
      clear hx hset1 hmod1 hset hbel hblk
      go_wp2_with fail
      go_round
      case rel =>
        refine ⟨k + 1, by omega, by go_num, by rw [← kw_step k x HX.out]; exact H1.out, ?_, HK.out.mod HM.out (by omega)⟩
        exact HB.out.trans (HM.out.below HB.out.size fun i hi e => by omega)
      case measure => simp [intOf]; omega
    · obtain rfl : k = 30 := by omega
      have hl := hset.look ht
      rw [show ((keywords.take 30).any fun z => decide (z = t)) = kwB t by unfold kwB; rw [List.take_of_length_le (Nat.le_of_eq kw_len)]] at hl
      clear hset hbel hblk
      go_wp2_with fail
      go_ret
      exact ⟨rfl, HB.out⟩

set_option maxRecDepth 100000 in
set_option maxHeartbeats 1000000 in
theorem digit_any (c : UInt8) (w : World) : Calls Tryd.prog 68 #[.int .u8 c.toNat] w fun e w' => e = .returned (.bool (digitB c)) ∧ w' = w := by
  have e : digitB c = (decide ((48 : Int) ≤ (c.toNat : Int)) && decide ((c.toNat : Int) ≤ 57)) := by
    unfold digitB
    congr 1 <;> simp [UInt8.le_iff_toNat_le] <;> omega
  rw [e]
  by_cases h1 : (48 : Int) ≤ (c.toNat : Int)
  · have d1 : decide ((48 : Int) ≤ (c.toNat : Int)) = true := decide_eq_true h1
    rw [d1, Bool.true_and]
    clear e h1
    go_enter Tryd.func68, Tryd.ntmps68
    go_wp2_with fail
    go_ret
    exact ⟨rfl, rfl⟩
  · have d1 : decide ((48 : Int) ≤ (c.toNat : Int)) = false := decide_eq_false h1
    rw [d1, Bool.false_and]
    clear e h1
    go_enter Tryd.func68, Tryd.ntmps68
    go_wp2_with fail
    go_ret
    exact ⟨rfl, rfl⟩
theorem ret_b {a b : Bool} (h : a = b) : Ending.returned (.bool a) = Ending.returned (.bool b) := congrArg (fun x => Ending.returned (.bool x)) h
def letterI (B n : Int) : Bool := (decide (97 ≤ B) && decide (B ≤ 122) && decide (65 ≤ n)) || decide (n = 95)
theorem letter_fin : ∀ i : Fin 256, letterB (UInt8.ofNat i.val) = letterI (bits BinOp.or IntKind.u8 (i.val : Int) 32) (i.val : Int) := by decide +kernel
theorem letter_eq (c : UInt8) : letterB c = letterI (bits BinOp.or IntKind.u8 (c.toNat : Int) 32) (c.toNat : Int) := by
  have := letter_fin ⟨c.toNat, c.toNat_lt⟩
  simpa using this
set_option maxRecDepth 100000 in
set_option maxHeartbeats 1000000 in
theorem letter_any (c : UInt8) (w : World) : Calls Tryd.prog 43 #[.int .u8 c.toNat] w fun e w' => e = .returned (.bool (letterB c)) ∧ w' = w := by
  rw [letter_eq]
  go_enter Tryd.func43, Tryd.ntmps43
  go_wp2_with fail
  all_goals (go_ret; refine ⟨ret_b ?_, rfl⟩)
  all_goals (generalize bits BinOp.or IntKind.u8 (c.toNat : Int) 32 = B at *)
  all_goals (rw [Bool.eq_iff_iff]; simp only [letterI, Bool.or_eq_true, Bool.and_eq_true, decide_eq_true_eq, beq_iff_eq, true_iff, iff_true]; omega)
def okB (x : UInt8) : Bool := letterB x || digitB x
set_option maxRecDepth 100000 in
set_option maxHeartbeats 1000000 in
theorem word_any (t : ByteArray) (ht : t.size ≤ maxLen) (w : World) : Calls Tryd.prog 44 #[.string t] w fun e w' => (∃ r, e = .returned (.string r) ∧ (r = t ↔ t.data.toList.all okB = true)) ∧ w' = w := by
  have ht2 : t.size ≤ 9223372036854775807 := by have := ht; unfold maxLen at this; omega
  go_enter Tryd.func44, Tryd.ntmps44
  go_wp2_with fail
  go_loopw [6] (fun i wr => ∃ k : Nat, k ≤ t.size ∧ i = .int .i64 k ∧ Hid (∀ j x, j < k → t.data.toList[j]? = some x → okB x = true) ∧ wr = w) (fun i _ => t.size - (intOf i).toNat)
  case atStart => exact ⟨0, Nat.zero_le _, rfl, Lib.hid fun j x hj => absurd hj (by omega), rfl⟩
  case round =>
    obtain ⟨k, hk, rfl, H0, rfl⟩ := hrel
    by_cases hlt : k < t.size
    · have hx : t.data.toList[k]? = some t[k] := by rw [List.getElem?_eq_getElem (by simpa using hlt)]; rfl
      have HX := Lib.hid hx
      clear hx
      by_cases hl : letterB t[k] = true
      · have HL := Lib.hid hl
        go_wp2_with (go_at_call 43; refine (letter_any _ _).mono ?_; rintro e w1 ⟨rfl, rfl⟩)
        go_round
        case rel =>
          refine ⟨k + 1, by omega, by go_num, Lib.hid fun j x hj hx => ?_, by first | rfl | trivial⟩
          by_cases e : j = k
          · subst e
            rw [HX.out] at hx
            obtain rfl := Option.some.inj hx
            unfold okB
            rw [HL.out]; rfl
          · exact H0.out j x (by omega) hx
        case measure => simp [intOf]; omega
      · have hl : letterB t[k] = false := by simpa using hl
        have HL := Lib.hid hl
        by_cases hd : digitB t[k] = true
        · have HD := Lib.hid hd
          go_wp2_with (first | (go_at_call 43; refine (letter_any _ _).mono ?_; rintro e w1 ⟨rfl, rfl⟩) | (go_at_call 68; refine (digit_any _ _).mono ?_; rintro e w1 ⟨rfl, rfl⟩))
          go_round
          case rel =>
            refine ⟨k + 1, by omega, by go_num, Lib.hid fun j x hj hx => ?_, by first | rfl | trivial⟩
            by_cases e : j = k
            · subst e
              rw [HX.out] at hx
              obtain rfl := Option.some.inj hx
              unfold okB
              rw [HD.out, Bool.or_true]
            · exact H0.out j x (by omega) hx
          case measure => simp [intOf]; omega
        · have hd : digitB t[k] = false := by simpa using hd
          have HN : Hid (okB t[k] = false) := by show _ = _; unfold okB; rw [hl, hd]; rfl
          go_wp2_with (first | (go_at_call 43; refine (letter_any _ _).mono ?_; rintro e w1 ⟨rfl, rfl⟩) | (go_at_call 68; refine (digit_any _ _).mono ?_; rintro e w1 ⟨rfl, rfl⟩))
          go_ret
          refine ⟨⟨_, rfl, ?_⟩, rfl⟩
          constructor
          · intro e
            have := congrArg ByteArray.size e
            simp at this
            omega
          · intro e
            rw [List.all_eq_true] at e
            have := e _ (List.mem_of_getElem? HX.out)
            rw [HN.out] at this
            cases this
    · obtain rfl : k = t.size := by omega
      have HA : Hid (t.data.toList.all okB = true) := by
        show _ = _
        rw [List.all_eq_true]
        intro x hx
        obtain ⟨j, hj⟩ := List.getElem?_of_mem hx
        exact H0.out j x (by have := (List.getElem?_eq_some_iff.1 hj).1; simpa using this) hj
      go_wp2_with fail
      go_ret
      exact ⟨⟨_, rfl, ⟨fun _ => HA.out, fun _ => rfl⟩⟩, rfl⟩

theorem toList_no {r t : ByteArray} (h : ¬ r = t) : (r.toList == t.toList) = false := by
  rw [ByteArray.toList_eq, ByteArray.toList_eq, beq_eq_false_iff_ne]
  exact fun e => h (bytes_ext e)
theorem nameB_ne {t : ByteArray} (h : 0 < t.size) : nameB t = (letterB t[0] && t.data.toList.all okB && !kwB t) := by
  obtain ⟨⟨l⟩⟩ := t
  cases l with
  | nil => cases h
  | cons c r => rfl
set_option maxRecDepth 100000 in
set_option maxHeartbeats 2000000 in
theorem name_any (t : ByteArray) (ht : t.size ≤ maxLen) (w : World) (htab : Asp w) : Calls Tryd.prog 29 #[.string t] w fun e w' => e = .returned (.bool (nameB t)) ∧ Below w.heap.size w w' := by
  have HT := Lib.hid htab
  clear htab
  by_cases h0 : t = ⟨#[]⟩
  · subst h0
    go_enter Tryd.func29, Tryd.ntmps29
    go_wp2_with fail
    go_ret
    exact ⟨rfl, Below.refl _ _⟩
  · have hsz : 0 < t.size := by
      rcases Nat.eq_zero_or_pos t.size with h | h
      · exact absurd (bytes_ext (x := t) (y := ⟨#[]⟩) (List.eq_nil_of_length_eq_zero (by simpa using h))) h0
      · exact h
    have hne : t.toList.isEmpty = false := by
      rw [ByteArray.toList_eq]
      cases hl : t.data.toList with
      | nil => exact absurd (bytes_ext (x := t) (y := ⟨#[]⟩) hl) h0
      | cons _ _ => rfl
    rw [nameB_ne hsz]
    by_cases h1 : letterB t[0] = true
    · have HW := Lib.hid (word_any t ht)
      have HK := Lib.hid (keyword_any t ht w HT.out)
      rw [h1, Bool.true_and]
      by_cases h2 : t.data.toList.all okB = true
      · rw [h2, Bool.true_and]
        have H2 := Lib.hid h2
        clear h2
        go_enter Tryd.func29, Tryd.ntmps29
        go_wp2_with (first | (go_at_call 43; refine (letter_any _ _).mono ?_; rintro e w1 ⟨rfl, rfl⟩) | (go_at_call 44; refine (HW.out _).mono ?_; rintro e w1 ⟨⟨r, rfl, hr⟩, rfl⟩; obtain rfl := hr.2 H2.out; clear hr HW) | (go_at_call 45; refine HK.out.mono ?_; rintro e w1 ⟨rfl, hb⟩; have HB := Lib.hid hb; clear hb))
        go_ret
        exact ⟨by simp, HB.out⟩
      · have h2' : t.data.toList.all okB = false := by simpa using h2
        rw [h2', Bool.false_and]
        have H2 := Lib.hid h2
        clear h2 h2'
        go_enter Tryd.func29, Tryd.ntmps29
        go_wp2_with (first | (go_at_call 43; refine (letter_any _ _).mono ?_; rintro e w1 ⟨rfl, rfl⟩) | (go_at_call 44; refine (HW.out _).mono ?_; rintro e w1 ⟨⟨r, rfl, hr⟩, rfl⟩; have hrt : (r.toList == t.toList) = false := toList_no (fun e => H2.out (hr.1 e)); clear hr))
        go_ret
        exact ⟨by simp, Below.refl _ _⟩
    · have h1' : letterB t[0] = false := by simpa using h1
      rw [h1', Bool.false_and, Bool.false_and]
      clear h1
      go_enter Tryd.func29, Tryd.ntmps29
      go_wp2_with (first | (go_at_call 43; refine (letter_any _ _).mono ?_; rintro e w1 ⟨rfl, rfl⟩))
      go_ret
      exact ⟨by simp, Below.refl _ _⟩

theorem zero3 (w : World) : (zeroValue 3).run Tryd.prog w = .ok (.int .i64 0) w := by kernel_rfl
/-- block b is a map of at most n texts, each with a number -/
def IntAt (w : World) (b n : Nat) (f : ByteArray → Option Int) : Prop := ∃ D : DataW Unit, w.ownsMap Tryd.prog 9 (plainElem Tryd.prog 3) b n D ∧ ∀ x : ByteArray, x.size ≤ maxLen → Maps.has D (.string x.data.toList) = (f x).isSome ∧ D.atKey (.string x.data.toList) (.lit (.int .i64 0)) = .lit (.int .i64 ((f x).getD 0))
section
variable {w : World} {b n : Nat} {f : ByteArray → Option Int}
theorem IntAt.lt (h : IntAt w b n f) : b < w.heap.size := by
  obtain ⟨D, h, _⟩ := h
  exact h.lt
theorem IntAt.made (w : World) : IntAt (w.alloc (.map #[] 0)) w.heap.size 0 (fun _ => none) := ⟨.map [], World.ownsMap_made w _ _ _, fun x _ => ⟨rfl, rfl⟩⟩
theorem IntAt.mod {w' : World} {S : Nat → Prop} (h : IntAt w b n f) (hm : Mod S w w') (hb : ¬ S b) : IntAt w' b n f := by
  have hlt := h.lt
  obtain ⟨D, ⟨es, clock, e, h1⟩, h2⟩ := h
  exact ⟨D, ⟨es, clock, (hm.block b hlt hb).trans e, h1⟩, h2⟩
theorem IntAt.look (h : IntAt w b n f) {x : ByteArray} (hx : x.size ≤ maxLen) : (Instr.lookup 76 (.map (some b)) (.string x) false).run Tryd.prog w = .ok (.int .i64 ((f x).getD 0)) w := by
  obtain ⟨D, ho, hf⟩ := h
  obtain ⟨c, hrun, hat, _⟩ := ho.lookup_int keyed9 Tryd.underlying76 Tryd.underlying3 (zero3 w) (keyOf_string_mk Tryd.underlying9 hx)
  rw [hrun]
  rw [(hf x hx).2] at hat
  simp only [DataW.lit.injEq, Lit.int.injEq, true_and] at hat
  rw [hat]
theorem IntAt.look_ok (h : IntAt w b n f) {x : ByteArray} (hx : x.size ≤ maxLen) : (Instr.lookup 76 (.map (some b)) (.string x) true).run Tryd.prog w = .ok (.tuple #[.int .i64 ((f x).getD 0), .bool (f x).isSome]) w := by
  obtain ⟨D, ho, hf⟩ := h
  obtain ⟨v, ps, hrun, hv⟩ := ho.look_ok keyed9 Tryd.underlying76 (zero3 w) (plainElem_int Tryd.underlying3 (by decide)) (keyOf_string_mk Tryd.underlying9 hx)
  obtain ⟨c, rfl, hc, hwc⟩ := plainElem_int_inv Tryd.underlying3 hv
  rw [hrun, (hf x hx).1]
  rw [(hf x hx).2] at hc
  simp only [Prod.mk.injEq, DataW.lit.injEq, Lit.int.injEq, true_and] at hc
  rw [hc.1]
theorem IntAt.store (h : IntAt w b n f) {x : ByteArray} {i : Int} (hx : x.size ≤ maxLen) (hi : (Lit.int .i64 i).wf = true) (hn : n < maxLen) :
    ∃ w', (Instr.mapUpdate 76 (.map (some b)) (.string x) (.int .i64 i)).run Tryd.prog w = .ok () w' ∧ IntAt w' b (n + 1) (fun y => if y = x then some i else f y) ∧ Mod (· = b) w w' := by
  obtain ⟨D, ho, hf⟩ := h
  obtain ⟨w', hrun, ho', ht⟩ := ho.store keyed9 Tryd.underlying76 hn (keyOf_string_mk Tryd.underlying9 hx) (plainElem_int Tryd.underlying3 hi)
  refine ⟨w', hrun, ⟨_, ho', fun y hy => ?_⟩, mod_turned ht⟩
  simp only
  by_cases e : y = x
  · subst e
    rw [if_pos rfl, Maps.atKey_put_same ho.isMap (show WideAt.IsKeyLit (Lit.string y.data.toList) from trivial), Maps.has_put_same ho.isMap (show WideAt.IsKeyLit (Lit.string y.data.toList) from trivial)]
    exact ⟨rfl, rfl⟩
  · have hne : Lit.string y.data.toList ≠ Lit.string x.data.toList := fun h => e (bytes_ext (Lit.string.inj h))
    rw [if_neg e, Maps.atKey_put_other hne, Maps.has_put_other hne]
    exact hf y hy
theorem wpList_insert {ops : Array Oper} {rest : List Oper} {o : Oper} {a : Act} {Q : Exit → Act → World → Prop}
    (hg : o.guard = none) (m x v : Operand) (hop : o.op = Op.insert 76 m x v) (h : IntAt w b n f) (hn : n < maxLen) (hm : a.eval m = .map (some b)) {s : ByteArray} {i : Int} (hx : a.eval x = .string s) (hv : a.eval v = .int .i64 i)
    (hs : s.size ≤ maxLen) (hi : (Lit.int .i64 i).wf = true)
    (hK : ∀ w', IntAt w' b (n + 1) (fun y => if y = s then some i else f y) → Mod (· = b) w w' → wpList Tryd.prog ops Q rest (a.put o.dst undef) w') :
    wpList Tryd.prog ops Q (o :: rest) a w := by
  refine wpList_plain hg fun K' hK' => ?_
  obtain ⟨w', hrun, r1, r2⟩ := h.store hs hi hn
  unfold Oper.wp
  simp [execOp, hop, hm, hx, hv, hrun, Result.andThen]
  exact hK' _ _ (hK w' r1 r2)
end
def putF (f : ByteArray → Option Int) (p : ByteArray × Int) : ByteArray → Option Int := fun y => if y = p.1 then some p.2 else f y
def levelL : List (ByteArray × Int) := [(⟨#[108, 97, 109, 98, 100, 97]⟩, 1), (⟨#[105, 102]⟩, 1), (⟨#[111, 114]⟩, 2), (⟨#[97, 110, 100]⟩, 3), (⟨#[110, 111, 116]⟩, 4), (⟨#[61, 61]⟩, 5), (⟨#[33, 61]⟩, 5), (⟨#[60]⟩, 5), (⟨#[60, 61]⟩, 5), (⟨#[62]⟩, 5), (⟨#[62, 61]⟩, 5), (⟨#[105, 110]⟩, 5), (⟨#[110, 111, 116, 32, 105, 110]⟩, 5), (⟨#[105, 115]⟩, 5), (⟨#[105, 115, 32, 110, 111, 116]⟩, 5), (⟨#[43]⟩, 6), (⟨#[45]⟩, 6), (⟨#[42]⟩, 7), (⟨#[47, 47]⟩, 7), (⟨#[37]⟩, 7), (⟨#[42, 42]⟩, 9), (⟨#[46]⟩, 10), (⟨#[40]⟩, 10), (⟨#[91]⟩, 10)]
def levelF : ByteArray → Option Int := levelL.foldl putF (fun _ => none)
/-- how an operator stands -/
def levelB (t : ByteArray) : Int := (levelF t).getD 0
theorem below_mod {w w1 w2 : World} {B : Nat} (h : Below w.heap.size w w1) (hm : Mod (· = B) w1 w2) (hB : w.heap.size ≤ B) : Below w.heap.size w w2 := h.trans (hm.below h.size fun i hi e => by omega)
set_option maxRecDepth 100000 in
set_option maxHeartbeats 4000000 in
theorem levels_any (w : World) : Calls Tryd.prog 36 #[] w fun e w' => e = .returned (.map (some w.heap.size)) ∧ IntAt w' w.heap.size 24 levelF ∧ Below w.heap.size w w' := by
  have hmk := run_makeMap (P := Tryd.prog) 76 w
  have HS := Lib.hid (IntAt.made w)
  have HB : Hid (Below w.heap.size w (w.alloc (.map #[] 0))) := Lib.hid (by repeat (first | exact Below.refl _ _ | assumption | refine Below.setCell ?_ (by first | (simp; done) | (simp; omega) | omega) _ | refine below_drewN ?_ _ | refine Below.drew ?_ | refine Below.alloc ?_ (by first | (simp; done) | (simp; omega) | omega) _))
  go_enter Tryd.func36, Tryd.ntmps36
  go_wp2_with (refine wpList_insert rfl _ _ _ rfl HS.out (by unfold maxLen; omega) rfl rfl rfl (by unfold maxLen; decide) (by decide) ?_; intro w1 hs hm; have HS := Lib.hid hs; have HB := Lib.hid (below_mod HB.out hm (Nat.le_refl _)); clear hs hm)
  go_ret
  exact ⟨rfl, HS.out, HB.out⟩
set_option maxRecDepth 100000 in
set_option maxHeartbeats 1000000 in
theorem level_any (t : ByteArray) (ht : t.size ≤ maxLen) (w : World) : Calls Tryd.prog 24 #[.string t] w fun e w' => e = .returned (.int .i64 (levelB t)) ∧ Below w.heap.size w w' := by
  go_enter Tryd.func24, Tryd.ntmps24
  go_wp2_with (go_at_call 36; refine (levels_any w).mono ?_; rintro e w1 ⟨rfl, hs, hb⟩; have hl := hs.look ht; have HB := Lib.hid hb; clear hs hb)
  go_ret
  exact ⟨rfl, HB.out⟩

end Go.Proofs.YtjdcicopjipmnaaDoor
