/- scan.Keyword: a map made of strings.Fields. -/
import Derived.Test.YtjdcicopjipmnaaDoorMemB
import Derived.Test.YtjdcicopjipmnaaDoorShelf
import Derived.Test.YtjdcicopjipmnaaDoorPrs
import Derived.Maps.OwnSet
namespace Go.Proofs.YtjdcicopjipmnaaDoor
open Go.RowKit Go.Maps Go.WideMaps
set_option linter.unusedVariables false
set_option linter.unusedSimpArgs false

theorem keyed9 : Maps.Keyed Tryd.prog 9 := Maps.string_keyed Tryd.underlying9
theorem zero4 (w : World) : (zeroValue 4).run Tryd.prog w = .ok (.bool false) w := by kernel_rfl
theorem plainElem_bool_inv {v : Value} {z : DataW Unit × List MemPlace} (h : plainElem Tryd.prog 4 v = some z) : ∃ x, v = .bool x ∧ z = (.lit (.bool x), []) := by
  simp only [plainElem, Tryd.underlying4] at h
  cases v <;> simp only [reduceCtorEq, Option.some.injEq] at h
  exact ⟨_, rfl, h.symm⟩
/-- block b is a map of at most n texts -/
def SetAt (w : World) (b n : Nat) (f : ByteArray → Bool) : Prop := ∃ D : DataW Unit, w.ownsMap Tryd.prog 9 (plainElem Tryd.prog 4) b n D ∧ ∀ x : ByteArray, x.size ≤ maxLen → D.atKey (.string x.data.toList) (.lit (.bool false)) = .lit (.bool (f x))
theorem mod_turned {w w' : World} {b : Nat} (h : w.mapTurned w' b) : Mod (· = b) w w' := by
  obtain ⟨es, clock, es', clock', hb, rfl⟩ := h
  exact ⟨rfl, rfl, rfl, by simp [ChangeMaps.setBlock], fun i hi hne => ChangeMaps.heap_setBlock_other hb _ (fun e => hne e)⟩
theorem bytes_ext {x y : ByteArray} (h : x.data.toList = y.data.toList) : x = y := by
  cases x; cases y; congr 1; exact Array.toList_inj.1 h
section
variable {w : World} {b n : Nat} {f : ByteArray → Bool}
theorem SetAt.lt (h : SetAt w b n f) : b < w.heap.size := by
  obtain ⟨D, h, _⟩ := h
  exact h.lt
theorem SetAt.made (w : World) : SetAt (w.alloc (.map #[] 0)) w.heap.size 0 (fun _ => false) := ⟨.map [], World.ownsMap_made w _ _ _, fun x _ => rfl⟩
theorem SetAt.mod {w' : World} {S : Nat → Prop} (h : SetAt w b n f) (hm : Mod S w w') (hb : ¬ S b) : SetAt w' b n f := by
  have hlt := h.lt
  obtain ⟨D, ⟨es, clock, e, h1⟩, h2⟩ := h
  exact ⟨D, ⟨es, clock, (hm.block b hlt hb).trans e, h1⟩, h2⟩
theorem SetAt.look (h : SetAt w b n f) {x : ByteArray} (hx : x.size ≤ maxLen) : (Instr.lookup 108 (.map (some b)) (.string x) false).run Tryd.prog w = .ok (.bool (f x)) w := by
  obtain ⟨D, ho, hf⟩ := h
  obtain ⟨v, ps, hrun, hv⟩ := ho.lookup keyed9 Tryd.underlying108 (zero4 w) (plainElem_bool Tryd.underlying4 false) (keyOf_string_mk Tryd.underlying9 hx)
  obtain ⟨c, rfl, hc⟩ := plainElem_bool_inv hv
  rw [hrun]
  rw [hf x hx] at hc
  simp only [Prod.mk.injEq, DataW.lit.injEq, Lit.bool.injEq] at hc
  rw [hc.1]
theorem SetAt.store (h : SetAt w b n f) {x : ByteArray} (hx : x.size ≤ maxLen) (hn : n < maxLen) :
    ∃ w', (Instr.mapUpdate 108 (.map (some b)) (.string x) (.bool true)).run Tryd.prog w = .ok () w' ∧ SetAt w' b (n + 1) (fun y => if y = x then true else f y) ∧ Mod (· = b) w w' := by
  obtain ⟨D, ho, hf⟩ := h
  obtain ⟨w', hrun, ho', ht⟩ := ho.store keyed9 Tryd.underlying108 hn (keyOf_string_mk Tryd.underlying9 hx) (plainElem_bool Tryd.underlying4 true)
  refine ⟨w', hrun, ⟨_, ho', fun y hy => ?_⟩, mod_turned ht⟩
  show _ = DataW.lit (Lit.bool (if y = x then true else f y))
  by_cases e : y = x
  · subst e
    rw [if_pos rfl, Maps.atKey_put_same ho.isMap (show WideAt.IsKeyLit (Lit.string y.data.toList) from trivial)]
  · rw [if_neg e, Maps.atKey_put_other]
    · exact hf y hy
    · intro h
      exact e (bytes_ext (Lit.string.inj h))
end
def kwText : List UInt8 := [78, 111, 110, 101, 32, 84, 114, 117, 101, 32, 70, 97, 108, 115, 101, 32, 97, 110, 100, 32, 111, 114, 32, 110, 111, 116, 32, 105, 102, 32, 101, 108, 115, 101, 32, 101, 108, 105, 102, 32, 119, 104, 105, 108, 101, 32, 102, 111, 114, 32, 105, 110, 32, 105, 115, 32, 98, 114, 101, 97, 107, 32, 99, 111, 110, 116, 105, 110, 117, 101, 32, 112, 97, 115, 115, 32, 100, 101, 102, 32, 99, 108, 97, 115, 115, 32, 114, 101, 116, 117, 114, 110, 32, 114, 97, 105, 115, 101, 32, 116, 114, 121, 32, 101, 120, 99, 101, 112, 116, 32, 97, 115, 32, 102, 105, 110, 97, 108, 108, 121, 32, 103, 108, 111, 98, 97, 108, 32, 110, 111, 110, 108, 111, 99, 97, 108, 32, 100, 101, 108, 32, 97, 115, 115, 101, 114, 116, 32, 121, 105, 101, 108, 100, 32, 108, 97, 109, 98, 100, 97]
theorem kw_len : keywords.length = 30 := by decide
set_option maxRecDepth 100000 in
theorem kw_fields : (Lib.fields kwText).map (fun l => Value.string ⟨l.toArray⟩) = keywords.map Value.string := by kernel_rfl
theorem kw_fields_len : (Lib.fields kwText).length = 30 := by kernel_rfl
theorem kw_size : (⟨kwText.toArray⟩ : ByteArray).size < 4294967281 := by
  have h : (⟨kwText.toArray⟩ : ByteArray).size = 160 := by kernel_rfl
  omega
set_option maxRecDepth 100000 in
theorem kw_ascii : ∀ (j : Nat) b, (⟨kwText.toArray⟩ : ByteArray).data.toList[j]? = some b → b.toNat < 128 := fun j b h => by
  have h1 : ∀ b ∈ kwText, b.toNat < 128 := by decide
  exact h1 b (List.mem_of_getElem? (by simpa using h))
theorem kw_small : ∀ x ∈ keywords, x.size ≤ maxLen := by
  have h : ∀ x ∈ keywords, x.size ≤ 100 := by decide
  intro x hx
  have := h x hx
  unfold maxLen
  omega
theorem tab_below {n : String} {g : Nat} {k : IntKind} {zs : List Int} {w w' : World} (hg : Tryd.prog.globalNamed n = some g) (h : Lib.TabIs Tryd.prog w n k zs) (hb : Below w.heap.size w w') : Lib.TabIs Tryd.prog w' n k zs := by
  unfold Lib.TabIs World.var? at h ⊢
  rw [hg] at h ⊢
  simp only [Option.bind_some] at h ⊢
  have hlt : g < w.heap.size := by
    rcases Nat.lt_or_ge g w.heap.size with h' | h'
    · exact h'
    · rw [Array.getElem?_eq_none h'] at h; cases h
  rw [hb.block g hlt]
  exact h
abbrev Asp (w : World) : Prop := Lib.TabIs Tryd.prog w "strings.asciiSpace" .u8 Lib.asciiSpaceTab
theorem Asp.below {w w' : World} (h : Asp w) (hb : Below w.heap.size w w') : Asp w' := tab_below (g := 0) (by kernel_rfl) h hb
theorem fields_kw (w : World) (htab : Asp w) :
    Calls Tryd.prog 69 #[.string ⟨kwText.toArray⟩] w fun e w' => e = .returned (.slice (some ⟨w.heap.size, 0, none⟩) 30 30) ∧ w' = w.alloc (.cells (keywords.map Value.string).toArray 9) := by
  refine (Tryd.strings_Fields ⟨kwText.toArray⟩ w kw_size kw_ascii htab).mono ?_
  rintro e w' ⟨rfl, rfl⟩
  have e : (⟨kwText.toArray⟩ : ByteArray).data.toList = kwText := rfl
  rw [e, kw_fields, kw_fields_len]
  exact ⟨rfl, rfl⟩
theorem kw_step (k : Nat) (x : ByteArray) (h : keywords[k]? = some x) : (fun y => if y = x then true else ((keywords.take k).any fun z => decide (z = y))) = fun y => (keywords.take (k + 1)).any fun z => decide (z = y) := by
  funext y
  rw [List.take_add_one, h, List.any_append]
  by_cases e : y = x
  · simp [e]
  · simp [e, Ne.symm e]
set_option maxRecDepth 100000 in
set_option maxHeartbeats 2000000 in
theorem keyword_any (t : ByteArray) (ht : t.size ≤ maxLen) (w : World) (htab : Asp w) :
    Calls Tryd.prog 45 #[.string t] w fun e w' => e = .returned (.bool (kwB t)) ∧ Below w.heap.size w w' := by
  have hmk := run_makeMap (P := Tryd.prog) 108 w
  have HT : Hid (Asp (w.alloc (.map #[] 0))) := Lib.hid (Asp.below htab (by repeat (first | exact Below.refl _ _ | assumption | refine Below.setCell ?_ (by first | (simp; done) | (simp; omega) | omega) _ | refine below_drewN ?_ _ | refine Below.drew ?_ | refine Below.alloc ?_ (by first | (simp; done) | (simp; omega) | omega) _)))
  clear htab
  go_enter Tryd.func45, Tryd.ntmps45
  go_wp2_with (go_at_call 69; refine (fields_kw _ HT.out).mono ?_; rintro e w1 ⟨rfl, rfl⟩)
  go_loopw [9] (fun i wr => ∃ k : Nat, k ≤ 30 ∧ i = .int .i64 k ∧ SetAt wr w.heap.size k (fun y => (keywords.take k).any fun z => decide (z = y)) ∧ Below w.heap.size w wr ∧ Blk wr (w.heap.size + 1) 9 (keywords.map Value.string).toArray) (fun i _ => 30 - (intOf i).toNat)
  case atStart =>
    refine ⟨0, by omega, rfl, (SetAt.made w).mod (S := fun _ => False) (by repeat (first | exact Mod.refl _ _ | assumption | refine Mod.setCell ?_ (by intro hx__; first | (simp at hx__; done) | (exfalso; revert hx__; simp; done) | assumption | skip) _ | refine Mod.drewN ?_ _ | refine Mod.drew ?_ | refine Mod.alloc ?_ _)) id, (by repeat (first | exact Below.refl _ _ | assumption | refine Below.setCell ?_ (by first | (simp; done) | (simp; omega) | omega) _ | refine below_drewN ?_ _ | refine Below.drew ?_ | refine Below.alloc ?_ (by first | (simp; done) | (simp; omega) | omega) _)), ?_⟩
    have hh := Blk.new (w.alloc (.map #[] 0)) 9 (keywords.map Value.string).toArray
    rw [World.size_alloc] at hh
    exact hh
  case round =>
    obtain ⟨k, hk, rfl, hset, hbel, hblk⟩ := hrel
    have HB := Lib.hid hbel
    have HK := Lib.hid hblk
    have HS := Lib.hid hset
    by_cases hlt : k < 30
    · obtain ⟨x, hx⟩ : ∃ x, keywords[k]? = some x := ⟨_, List.getElem?_eq_getElem (by rw [kw_len]; exact hlt)⟩
      have hc : wr.cell? ⟨w.heap.size + 1, k, none⟩ = some (.string x) := by
        rw [hblk.cell, List.getElem?_toArray, List.getElem?_map, hx]; rfl
      obtain ⟨w1, hrun, hset1, hmod1⟩ := hset.store (kw_small x (List.mem_of_getElem? hx)) (by unfold maxLen; omega)
      have HX := Lib.hid hx
      have H1 := Lib.hid hset1
      have HM := Lib.hid hmod1
      clear hx hset1 hmod1 hset hbel hblk
      go_wp2_with fail
      go_round
      case rel =>
        refine ⟨k + 1, by omega, by go_num, by rw [← kw_step k x HX.out]; exact H1.out, ?_, HK.out.mod HM.out (by omega)⟩
        exact HB.out.trans (HM.out.below HB.out.size fun i hi e => by omega)
      case measure => simp [intOf]; omega
    · obtain rfl : k = 30 := by omega
      have hl := hset.look ht
      rw [show ((keywords.take 30).any fun z => decide (z = t)) = kwB t by unfold kwB; rw [List.take_of_length_le (Nat.le_of_eq kw_len)]] at hl
      clear hset hbel hblk
      go_wp2_with fail
      go_ret
      exact ⟨rfl, HB.out⟩
end Go.Proofs.YtjdcicopjipmnaaDoor
