/- The contracts of Go's library at this program (strings.Fields, slices.Clone), as the kit's lay-plain.mjs writes them; those that are used. scan.Keyword: a map made of strings.Fields. scan.Name. scan.Name. maps of texts to numbers; express.Level. tok: the token so many on. tok, whole. is: does a word, or a sign, stand so many on? fail. any: takes one of some words, or signs. take, need. need. name. How the parser stands in memory: its block, its Builder with the nodes, its map; and what its methods may turn. Builder.Add. add: a node more. The parser's small methods, as steps from state to state. -/
import Derived.Shelf.Strings.Fields
import Derived.Ground.Names2Prog
import Derived.Shelf.Slices.Clone
import Derived.Test.YtjdcicopjipmnaaDoorProg
import Derived.Maps.OwnSet
import Derived.Deep.RegionHeld3
import Derived.IntWalk
import Derived.Deep.QuietTactic
import Derived.BigQuiet
import Derived.StillTailTactics
import Derived.Laws.CopyOwn
import Derived.Test.YtjdcicopjipmnaaDoorZaa
namespace Go.Proofs.YtjdcicopjipmnaaDoor
set_option maxRecDepth 100000
set_option maxHeartbeats 4000000
section
open Go.Shelf
def Tryd.lays157_ren : Go.Shelf.Ren := ⟨fun | 157 => 69 | 229 => 88 | 199 => 89 | 261 => 101 | 311 => 104 | 312 => 105 | n => n, fun | 9 => 9 | 31 => 75 | 3 => 3 | 5 => 5 | 4 => 4 | 119 => 118 | 0 => 0 | 40 => 120 | 152 => 129 | 21 => 21 | 154 => 131 | 51 => 132 | 141 => 134 | 196 => 139 | 193 => 136 | 198 => 141 | 49 => 42 | 194 => 137 | 201 => 144 | 226 => 148 | 46 => 149 | 227 => 150 | n => n, fun | 0 => 0 | 6 => 1 | n => n⟩
theorem Tryd.lays157 : Go.Proofs.Lays.n157 Tryd.prog Tryd.lays157_ren := {
 mixed := by kernel_rfl
 f157 := Tryd.func69.trans (congrArg some (by kernel_rfl))
 f199 := Tryd.func89.trans (congrArg some (by kernel_rfl))
 f229 := Tryd.func88.trans (congrArg some (by kernel_rfl))
 f261 := Tryd.func101.trans (congrArg some (by kernel_rfl))
 f311 := Tryd.func104.trans (congrArg some (by kernel_rfl))
 f312 := Tryd.func105.trans (congrArg some (by kernel_rfl))
 t0 := Tryd.underlying0
 a0 := Tryd.isAgg0
 z0 := Tryd.sizeOf0
 v0 := Tryd.zeroValue0
 t3 := Tryd.underlying3
 a3 := Tryd.isAgg3
 z3 := Tryd.sizeOf3
 v3 := Tryd.zeroValue3
 t4 := Tryd.underlying4
 a4 := Tryd.isAgg4
 z4 := Tryd.sizeOf4
 v4 := Tryd.zeroValue4
 t5 := Tryd.underlying5
 a5 := Tryd.isAgg5
 z5 := Tryd.sizeOf5
 v5 := Tryd.zeroValue5
 t9 := Tryd.underlying9
 a9 := Tryd.isAgg9
 z9 := Tryd.sizeOf9
 v9 := Tryd.zeroValue9
 t21 := Tryd.underlying21
 a21 := Tryd.isAgg21
 z21 := Tryd.sizeOf21
 v21 := Tryd.zeroValue21
 t31 := Tryd.underlying75
 a31 := Tryd.isAgg75
 z31 := Tryd.sizeOf75
 v31 := Tryd.zeroValue75
 t40 := Tryd.underlying120
 a40 := Tryd.isAgg120
 z40 := Tryd.sizeOf120
 v40 := Tryd.zeroValue120
 t46 := Tryd.underlying149
 a46 := Tryd.isAgg149
 z46 := Tryd.sizeOf149
 v46 := Tryd.zeroValue149
 t49 := Tryd.underlying42
 a49 := Tryd.isAgg42
 z49 := Tryd.sizeOf42
 v49 := Tryd.zeroValue42
 t51 := Tryd.underlying132
 a51 := Tryd.isAgg132
 z51 := Tryd.sizeOf132
 v51 := Tryd.zeroValue132
 t119 := Tryd.underlying118
 a119 := Tryd.isAgg118
 z119 := Tryd.sizeOf118
 t141 := Tryd.underlying134
 a141 := Tryd.isAgg134
 z141 := Tryd.sizeOf134
 v141 := Tryd.zeroValue134
 t152 := Tryd.underlying129
 a152 := Tryd.isAgg129
 z152 := Tryd.sizeOf129
 v152 := Tryd.zeroValue129
 t154 := Tryd.underlying131
 a154 := Tryd.isAgg131
 z154 := Tryd.sizeOf131
 v154 := Tryd.zeroValue131
 t193 := Tryd.underlying136
 a193 := Tryd.isAgg136
 z193 := Tryd.sizeOf136
 v193 := Tryd.zeroValue136
 t194 := Tryd.underlying137
 a194 := Tryd.isAgg137
 z194 := Tryd.sizeOf137
 v194 := Tryd.zeroValue137
 t196 := Tryd.underlying139
 a196 := Tryd.isAgg139
 z196 := Tryd.sizeOf139
 v196 := Tryd.zeroValue139
 t198 := Tryd.underlying141
 a198 := Tryd.isAgg141
 z198 := Tryd.sizeOf141
 v198 := Tryd.zeroValue141
 t201 := Tryd.underlying144
 a201 := Tryd.isAgg144
 z201 := Tryd.sizeOf144
 v201 := Tryd.zeroValue144
 t226 := Tryd.underlying148
 a226 := Tryd.isAgg148
 z226 := Tryd.sizeOf148
 v226 := Tryd.zeroValue148
 t227 := Tryd.underlying150
 a227 := Tryd.isAgg150
 z227 := Tryd.sizeOf150
 v227 := Tryd.zeroValue150
 g0 := by kernel_rfl
 g6 := by kernel_rfl }
open Go.RowKit Go.Lib in
theorem Tryd.strings_Fields (s : ByteArray) (w : World) (hs : s.size < 4294967281) (hascii : ∀ (j : Nat) b, s.data.toList[j]? = some b → b.toNat < 128) (htab : Lib.TabIs Tryd.prog w "strings.asciiSpace" .u8 Lib.asciiSpaceTab) :
  Calls Tryd.prog 69 #[.string s] w fun e w' =>
   e = .returned (.slice (some ⟨w.heap.size, 0, none⟩) (Lib.fields s.data.toList).length (Lib.fields s.data.toList).length) ∧ w' = w.alloc (.cells ((Lib.fields s.data.toList).map fun l => Value.string ⟨l.toArray⟩).toArray 9) := Any.strings_Fields Tryd.lays157 (by kernel_rfl) (by kernel_rfl) s w hs hascii htab
def Tryd.laysNm215_ren : Go.Shelf.Ren := ⟨fun | 15 => 57 | n => n, fun | 22 => 22 | 3 => 3 | 4 => 4 | n => n, fun | n => n⟩
theorem Tryd.laysNm215 : Go.Proofs.Lays2.n15 Tryd.prog Tryd.laysNm215_ren := {
 mixed := by kernel_rfl
 f15 := Tryd.func57.trans (congrArg some (by kernel_rfl))
 t3 := Tryd.underlying3
 a3 := Tryd.isAgg3
 z3 := Tryd.sizeOf3
 v3 := Tryd.zeroValue3
 t4 := Tryd.underlying4
 a4 := Tryd.isAgg4
 z4 := Tryd.sizeOf4
 v4 := Tryd.zeroValue4
 t22 := Tryd.underlying22
 a22 := Tryd.isAgg22
 z22 := Tryd.sizeOf22
 v22 := Tryd.zeroValue22
 i3 := by kernel_rfl }
open Go.RowKit Go.Lib in
theorem Tryd.slices_Clone_int (b off n c : Nat) (zs : List Int) (w : World) (hz : n ≤ zs.length) (hbig : n * 8 ≤ 140737488355328) (hc : ∀ j, j < zs.length → w.cell? ⟨b, off + j, none⟩ = some (.int .i64 (zs.getD j 0))) :
  Calls Tryd.prog 57 #[.slice (some ⟨b, off, none⟩) n c] w fun e w' => ∃ v', e = .returned v' ∧ w'.ownsRow w.heap.size 3 1 v' n ((zs.take n).map (Value.int .i64)) ∧ v' ≠ .slice none 0 0 ∧ Below w.heap.size w w' := Any.slices_Clone_int Tryd.laysNm215 b off n c zs w hz hbig hc
open Go.RowKit Go.Lib in
theorem Tryd.slices_Clone_int_nil (n c : Nat) (w : World) :
  Calls Tryd.prog 57 #[.slice none n c] w fun e w' => e = .returned (.slice none 0 0) ∧ w' = w := Any.slices_Clone_int_nil Tryd.laysNm215 n c w
open Go.RowKit Go.Lib in
theorem Tryd.slices_Clone_int_zero (a : Addr) (c : Nat) (w : World) :
  Calls Tryd.prog 57 #[.slice (some a) 0 c] w fun e w' => ∃ v', e = .returned v' ∧ w'.ownsRow w.heap.size 3 1 v' 0 [] ∧ v' ≠ .slice none 0 0 ∧ Below w.heap.size w w' := Any.slices_Clone_int_zero Tryd.laysNm215 a c w
end
section
open Go.RowKit Go.Maps Go.WideMaps
set_option linter.unusedVariables false
set_option linter.unusedSimpArgs false
open Go.RowKit
attribute [local go_sem] Oper.semAt_some
theorem keyed9 : Maps.Keyed Tryd.prog 9 := Maps.string_keyed Tryd.underlying9
theorem zero4 (w : World) : (zeroValue 4).run Tryd.prog w = .ok (.bool false) w := by kernel_rfl
theorem plainElem_bool_inv {v : Value} {z : DataW Unit × List MemPlace} (h : plainElem Tryd.prog 4 v = some z) : ∃ x, v = .bool x ∧ z = (.lit (.bool x), []) := by
 simp only [plainElem, Tryd.underlying4] at h
 cases v <;> simp only [reduceCtorEq, Option.some.injEq] at h
 exact ⟨_, rfl, h.symm⟩
def SetAt (w : World) (b n : Nat) (f : ByteArray → Bool) : Prop := ∃ D : DataW Unit, w.ownsMap Tryd.prog 9 (plainElem Tryd.prog 4) b n D ∧ ∀ x : ByteArray, x.size ≤ maxLen → D.atKey (.string x.data.toList) (.lit (.bool false)) = .lit (.bool (f x))
theorem mod_turned {w w' : World} {b : Nat} (h : w.mapTurned w' b) : Mod (· = b) w w' := by
 obtain ⟨es, clock, es', clock', hb, rfl⟩ := h
 exact ⟨rfl, rfl, rfl, by simp [ChangeMaps.setBlock], fun i hi hne => ChangeMaps.heap_setBlock_other hb _ (fun e => hne e)⟩
theorem bytes_ext {x y : ByteArray} (h : x.data.toList = y.data.toList) : x = y := by
 cases x; cases y; congr 1; exact Array.toList_inj.1 h
section
variable {w : World} {b n : Nat} {f : ByteArray → Bool}
theorem SetAt.lt (h : SetAt w b n f) : b < w.heap.size := by
 obtain ⟨D, h, _⟩ := h
 exact h.lt
theorem SetAt.made (w : World) : SetAt (w.alloc (.map #[] 0)) w.heap.size 0 (fun _ => false) := ⟨.map [], World.ownsMap_made w _ _ _, fun x _ => rfl⟩
theorem SetAt.mod {w' : World} {S : Nat → Prop} (h : SetAt w b n f) (hm : Mod S w w') (hb : ¬ S b) : SetAt w' b n f := by
 have hlt := h.lt
 obtain ⟨D, ⟨es, clock, e, h1⟩, h2⟩ := h
 exact ⟨D, ⟨es, clock, (hm.block b hlt hb).trans e, h1⟩, h2⟩
theorem SetAt.look (h : SetAt w b n f) {x : ByteArray} (hx : x.size ≤ maxLen) : (Instr.lookup 108 (.map (some b)) (.string x) false).run Tryd.prog w = .ok (.bool (f x)) w := by
 obtain ⟨D, ho, hf⟩ := h
 obtain ⟨v, ps, hrun, hv⟩ := ho.lookup keyed9 Tryd.underlying108 (zero4 w) (plainElem_bool Tryd.underlying4 false) (keyOf_string_mk Tryd.underlying9 hx)
 obtain ⟨c, rfl, hc⟩ := plainElem_bool_inv hv
 rw [hrun]
 rw [hf x hx] at hc
 simp only [Prod.mk.injEq, DataW.lit.injEq, Lit.bool.injEq] at hc
 rw [hc.1]
theorem SetAt.store (h : SetAt w b n f) {x : ByteArray} (hx : x.size ≤ maxLen) (hn : n < maxLen) :
  ∃ w', (Instr.mapUpdate 108 (.map (some b)) (.string x) (.bool true)).run Tryd.prog w = .ok () w' ∧ SetAt w' b (n + 1) (fun y => if y = x then true else f y) ∧ Mod (· = b) w w' := by
 obtain ⟨D, ho, hf⟩ := h
 obtain ⟨w', hrun, ho', ht⟩ := ho.store keyed9 Tryd.underlying108 hn (keyOf_string_mk Tryd.underlying9 hx) (plainElem_bool Tryd.underlying4 true)
 refine ⟨w', hrun, ⟨_, ho', fun y hy => ?_⟩, mod_turned ht⟩
 show _ = DataW.lit (Lit.bool (if y = x then true else f y))
 by_cases e : y = x
 ·subst e
  rw [if_pos rfl, Maps.atKey_put_same ho.isMap (show WideAt.IsKeyLit (Lit.string y.data.toList) from trivial)]
 ·rw [if_neg e, Maps.atKey_put_other]
  ·exact hf y hy
  ·intro h
   exact e (bytes_ext (Lit.string.inj h))
end
def kwText : List UInt8 := [78, 111, 110, 101, 32, 84, 114, 117, 101, 32, 70, 97, 108, 115, 101, 32, 97, 110, 100, 32, 111, 114, 32, 110, 111, 116, 32, 105, 102, 32, 101, 108, 115, 101, 32, 101, 108, 105, 102, 32, 119, 104, 105, 108, 101, 32, 102, 111, 114, 32, 105, 110, 32, 105, 115, 32, 98, 114, 101, 97, 107, 32, 99, 111, 110, 116, 105, 110, 117, 101, 32, 112, 97, 115, 115, 32, 100, 101, 102, 32, 99, 108, 97, 115, 115, 32, 114, 101, 116, 117, 114, 110, 32, 114, 97, 105, 115, 101, 32, 116, 114, 121, 32, 101, 120, 99, 101, 112, 116, 32, 97, 115, 32, 102, 105, 110, 97, 108, 108, 121, 32, 103, 108, 111, 98, 97, 108, 32, 110, 111, 110, 108, 111, 99, 97, 108, 32, 100, 101, 108, 32, 97, 115, 115, 101, 114, 116, 32, 121, 105, 101, 108, 100, 32, 108, 97, 109, 98, 100, 97]
theorem kw_len : keywords.length = 30 := by decide
theorem kw_fields : (Lib.fields kwText).map (fun l => Value.string ⟨l.toArray⟩) = keywords.map Value.string := by kernel_rfl
theorem kw_fields_len : (Lib.fields kwText).length = 30 := by kernel_rfl
theorem kw_size : (⟨kwText.toArray⟩ : ByteArray).size < 4294967281 := by
 have h : (⟨kwText.toArray⟩ : ByteArray).size = 160 := by kernel_rfl
 omega
theorem kw_ascii : ∀ (j : Nat) b, (⟨kwText.toArray⟩ : ByteArray).data.toList[j]? = some b → b.toNat < 128 := fun j b h => by
 have h1 : ∀ b ∈ kwText, b.toNat < 128 := by decide
 exact h1 b (List.mem_of_getElem? (by simpa using h))
theorem kw_small : ∀ x ∈ keywords, x.size ≤ maxLen := by
 have h : ∀ x ∈ keywords, x.size ≤ 100 := by decide
 intro x hx
 have := h x hx
 unfold maxLen
 omega
theorem tab_below {n : String} {g : Nat} {k : IntKind} {zs : List Int} {w w' : World} (hg : Tryd.prog.globalNamed n = some g) (h : Lib.TabIs Tryd.prog w n k zs) (hb : Below w.heap.size w w') : Lib.TabIs Tryd.prog w' n k zs := by
 unfold Lib.TabIs World.var? at h ⊢
 rw [hg] at h ⊢
 simp only [Option.bind_some] at h ⊢
 have hlt : g < w.heap.size := by
  rcases Nat.lt_or_ge g w.heap.size with h' | h'
  ·exact h'
  ·rw [Array.getElem?_eq_none h'] at h; cases h
 rw [hb.block g hlt]
 exact h
abbrev Asp (w : World) : Prop := Lib.TabIs Tryd.prog w "strings.asciiSpace" .u8 Lib.asciiSpaceTab
theorem Asp.below {w w' : World} (h : Asp w) (hb : Below w.heap.size w w') : Asp w' := tab_below (g := 0) (by kernel_rfl) h hb
theorem fields_kw (w : World) (htab : Asp w) :
  Calls Tryd.prog 69 #[.string ⟨kwText.toArray⟩] w fun e w' => e = .returned (.slice (some ⟨w.heap.size, 0, none⟩) 30 30) ∧ w' = w.alloc (.cells (keywords.map Value.string).toArray 9) := by
 refine (Tryd.strings_Fields ⟨kwText.toArray⟩ w kw_size kw_ascii htab).mono ?_
 rintro e w' ⟨rfl, rfl⟩
 have e : (⟨kwText.toArray⟩ : ByteArray).data.toList = kwText := rfl
 rw [e, kw_fields, kw_fields_len]
 exact ⟨rfl, rfl⟩
theorem kw_step (k : Nat) (x : ByteArray) (h : keywords[k]? = some x) : (fun y => if y = x then true else ((keywords.take k).any fun z => decide (z = y))) = fun y => (keywords.take (k + 1)).any fun z => decide (z = y) := by
 funext y
 rw [List.take_add_one, h, List.any_append]
 by_cases e : y = x
 ·simp [e]
 ·simp [e, Ne.symm e]
theorem keyword_any (t : ByteArray) (ht : t.size ≤ maxLen) (w : World) (htab : Asp w) :
  Calls Tryd.prog 45 #[.string t] w fun e w' => e = .returned (.bool (kwB t)) ∧ Below w.heap.size w w' := by
 have hmk := run_makeMap (P := Tryd.prog) 108 w
 have HT : Hid (Asp (w.alloc (.map #[] 0))) := qh (Asp.below htab bl1)
 clear htab
 go_enter Tryd.func45, Tryd.ntmps45
 go_wp2_with (go_at_call 69; refine (fields_kw _ HT.out).mono ?_; rintro e w1 ⟨rfl, rfl⟩)
 go_loopw [9] (fun i wr => ∃ k : Nat, k ≤ 30 ∧ i = .int .i64 k ∧ SetAt wr w.heap.size k (fun y => (keywords.take k).any fun z => decide (z = y)) ∧ Below w.heap.size w wr ∧ Blk wr (w.heap.size + 1) 9 (keywords.map Value.string).toArray) (fun i _ => 30 - (intOf i).toNat)
 case atStart =>
  refine ⟨0, by omega, rfl, (SetAt.made w).mod (S := fun _ => False) (by repeat (first | exact Mod.refl _ _ | assumption | refine Mod.setCell ?_ (by intro hx__; first | (simp at hx__; done) | (exfalso; revert hx__; simp; done) | assumption | skip) _ | refine Mod.drewN ?_ _ | refine Mod.drew ?_ | refine Mod.alloc ?_ _)) id, bl2, ?_⟩
  have hh := Blk.new (w.alloc (.map #[] 0)) 9 (keywords.map Value.string).toArray
  rw [World.size_alloc] at hh
  exact hh
 case round =>
  obtain ⟨k, hk, rfl, hset, hbel, hblk⟩ := hrel
  have HB := qh hbel
  have HK := qh hblk
  have HS := qh hset
  by_cases hlt : k < 30
  ·obtain ⟨x, hx⟩ : ∃ x, keywords[k]? = some x := ⟨_, List.getElem?_eq_getElem (by rw [kw_len]; exact hlt)⟩
   have hc : wr.cell? ⟨w.heap.size + 1, k, none⟩ = some (.string x) := by
    rw [hblk.cell, List.getElem?_toArray, List.getElem?_map, hx]; rfl
   obtain ⟨w1, hrun, hset1, hmod1⟩ := hset.store (kw_small x (List.mem_of_getElem? hx)) (by unfold maxLen; omega)
   have HX := qh hx
   have H1 := qh hset1
   have HM := qh hmod1
   clear hx hset1 hmod1 hset hbel hblk
   go_wp2_with fail
   go_round
   case rel =>
    refine ⟨k + 1, by omega, by go_num, by rw [← kw_step k x HX.out]; exact H1.out, ?_, HK.out.mod HM.out (by omega)⟩
    exact HB.out.trans (HM.out.below HB.out.size fun i hi e => by omega)
   case measure => simp [intOf]; omega
  ·obtain rfl : k = 30 := by omega
   have hl := hset.look ht
   rw [show ((keywords.take 30).any fun z => decide (z = t)) = kwB t by unfold kwB; rw [List.take_of_length_le (Nat.le_of_eq kw_len)]] at hl
   clear hset hbel hblk
   go_wp2_with fail
   go_ret
   exact ⟨rfl, HB.out⟩
theorem digit_any (c : UInt8) (w : World) : Calls Tryd.prog 68 #[.int .u8 c.toNat] w fun e w' => e = .returned (.bool (digitB c)) ∧ w' = w := by
 have e : digitB c = (decide ((48 : Int) ≤ (c.toNat : Int)) && decide ((c.toNat : Int) ≤ 57)) := by
  unfold digitB
  congr 1 <;> simp [UInt8.le_iff_toNat_le] <;> omega
 rw [e]
 by_cases h1 : (48 : Int) ≤ (c.toNat : Int)
 ·have d1 : decide ((48 : Int) ≤ (c.toNat : Int)) = true := decide_eq_true h1
  rw [d1, Bool.true_and]
  clear e h1
  go_enter Tryd.func68, Tryd.ntmps68
  go_wp2_with fail
  go_ret
  exact ⟨rfl, rfl⟩
 ·have d1 : decide ((48 : Int) ≤ (c.toNat : Int)) = false := decide_eq_false h1
  rw [d1, Bool.false_and]
  clear e h1
  go_enter Tryd.func68, Tryd.ntmps68
  go_wp2_with fail
  go_ret
  exact ⟨rfl, rfl⟩
theorem ret_b {a b : Bool} (h : a = b) : Ending.returned (.bool a) = Ending.returned (.bool b) := congrArg (fun x => Ending.returned (.bool x)) h
def letterI (B n : Int) : Bool := (decide (97 ≤ B) && decide (B ≤ 122) && decide (65 ≤ n)) || decide (n = 95)
theorem letter_fin : ∀ i : Fin 256, letterB (UInt8.ofNat i.val) = letterI (bits BinOp.or IntKind.u8 (i.val : Int) 32) (i.val : Int) := by decide +kernel
theorem letter_eq (c : UInt8) : letterB c = letterI (bits BinOp.or IntKind.u8 (c.toNat : Int) 32) (c.toNat : Int) := by
 have := letter_fin ⟨c.toNat, c.toNat_lt⟩
 simpa using this
theorem letter_any (c : UInt8) (w : World) : Calls Tryd.prog 43 #[.int .u8 c.toNat] w fun e w' => e = .returned (.bool (letterB c)) ∧ w' = w := by
 rw [letter_eq]
 go_enter Tryd.func43, Tryd.ntmps43
 go_wp2_with fail
 all_goals (go_ret; refine ⟨ret_b ?_, rfl⟩)
 all_goals (generalize bits BinOp.or IntKind.u8 (c.toNat : Int) 32 = B at *)
 all_goals (rw [Bool.eq_iff_iff]; simp only [letterI, Bool.or_eq_true, Bool.and_eq_true, decide_eq_true_eq, beq_iff_eq, true_iff, iff_true]; omega)
def okB (x : UInt8) : Bool := letterB x || digitB x
theorem word_any (t : ByteArray) (ht : t.size ≤ maxLen) (w : World) : Calls Tryd.prog 44 #[.string t] w fun e w' => (∃ r, e = .returned (.string r) ∧ (r = t ↔ t.data.toList.all okB = true)) ∧ w' = w := by
 have ht2 : t.size ≤ 9223372036854775807 := by have := ht; unfold maxLen at this; omega
 go_enter Tryd.func44, Tryd.ntmps44
 go_wp2_with fail
 go_loopw [6] (fun i wr => ∃ k : Nat, k ≤ t.size ∧ i = .int .i64 k ∧ Hid (∀ j x, j < k → t.data.toList[j]? = some x → okB x = true) ∧ wr = w) (fun i _ => t.size - (intOf i).toNat)
 case atStart => exact ⟨0, Nat.zero_le _, rfl, qh fun j x hj => absurd hj (by omega), rfl⟩
 case round =>
  obtain ⟨k, hk, rfl, H0, rfl⟩ := hrel
  by_cases hlt : k < t.size
  ·have hx : t.data.toList[k]? = some t[k] := by rw [List.getElem?_eq_getElem (by simpa using hlt)]; rfl
   have HX := qh hx
   clear hx
   by_cases hl : letterB t[k] = true
   ·have HL := qh hl
    go_wp2_with (go_at_call 43; refine (letter_any _ _).mono ?_; rintro e w1 ⟨rfl, rfl⟩)
    go_round
    case rel =>
     refine ⟨k + 1, by omega, by go_num, qh fun j x hj hx => ?_, by first | rfl | trivial⟩
     by_cases e : j = k
     ·subst e
      rw [HX.out] at hx
      obtain rfl := Option.some.inj hx
      unfold okB
      rw [HL.out]; rfl
     ·exact H0.out j x (by omega) hx
    case measure => simp [intOf]; omega
   ·have hl : letterB t[k] = false := by simpa using hl
    have HL := qh hl
    by_cases hd : digitB t[k] = true
    ·have HD := qh hd
     go_wp2_with (first | (go_at_call 43; refine (letter_any _ _).mono ?_; rintro e w1 ⟨rfl, rfl⟩) | (go_at_call 68; refine (digit_any _ _).mono ?_; rintro e w1 ⟨rfl, rfl⟩))
     go_round
     case rel =>
      refine ⟨k + 1, by omega, by go_num, qh fun j x hj hx => ?_, by first | rfl | trivial⟩
      by_cases e : j = k
      ·subst e
       rw [HX.out] at hx
       obtain rfl := Option.some.inj hx
       unfold okB
       rw [HD.out, Bool.or_true]
      ·exact H0.out j x (by omega) hx
     case measure => simp [intOf]; omega
    ·have hd : digitB t[k] = false := by simpa using hd
     have HN : Hid (okB t[k] = false) := by show _ = _; unfold okB; rw [hl, hd]; rfl
     go_wp2_with (first | (go_at_call 43; refine (letter_any _ _).mono ?_; rintro e w1 ⟨rfl, rfl⟩) | (go_at_call 68; refine (digit_any _ _).mono ?_; rintro e w1 ⟨rfl, rfl⟩))
     go_ret
     refine ⟨⟨_, rfl, ?_⟩, rfl⟩
     constructor
     ·intro e
      have := congrArg ByteArray.size e
      simp at this
      omega
     ·intro e
      rw [List.all_eq_true] at e
      have := e _ (List.mem_of_getElem? HX.out)
      rw [HN.out] at this
      cases this
  ·obtain rfl : k = t.size := by omega
   have HA : Hid (t.data.toList.all okB = true) := by
    show _ = _
    rw [List.all_eq_true]
    intro x hx
    obtain ⟨j, hj⟩ := List.getElem?_of_mem hx
    exact H0.out j x (by have := (List.getElem?_eq_some_iff.1 hj).1; simpa using this) hj
   go_wp2_with fail
   go_ret
   exact ⟨⟨_, rfl, ⟨fun _ => HA.out, fun _ => rfl⟩⟩, rfl⟩
theorem toList_no {r t : ByteArray} (h : ¬ r = t) : (r.toList == t.toList) = false := by
 rw [ByteArray.toList_eq, ByteArray.toList_eq, beq_eq_false_iff_ne]
 exact fun e => h (bytes_ext e)
theorem nameB_ne {t : ByteArray} (h : 0 < t.size) : nameB t = (letterB t[0] && t.data.toList.all okB && !kwB t) := by
 obtain ⟨⟨l⟩⟩ := t
 cases l with
 | nil => cases h
 | cons c r => rfl
theorem name_any (t : ByteArray) (ht : t.size ≤ maxLen) (w : World) (htab : Asp w) : Calls Tryd.prog 29 #[.string t] w fun e w' => e = .returned (.bool (nameB t)) ∧ Below w.heap.size w w' := by
 have HT := qh htab
 clear htab
 by_cases h0 : t = ⟨#[]⟩
 ·subst h0
  go_enter Tryd.func29, Tryd.ntmps29
  go_wp2_with fail
  go_ret
  exact ⟨rfl, Below.refl _ _⟩
 ·have hsz : 0 < t.size := by
   rcases Nat.eq_zero_or_pos t.size with h | h
   ·exact absurd (bytes_ext (x := t) (y := ⟨#[]⟩) (List.eq_nil_of_length_eq_zero (by simpa using h))) h0
   ·exact h
  have hne : t.toList.isEmpty = false := by
   rw [ByteArray.toList_eq]
   cases hl : t.data.toList with
   | nil => exact absurd (bytes_ext (x := t) (y := ⟨#[]⟩) hl) h0
   | cons _ _ => rfl
  rw [nameB_ne hsz]
  by_cases h1 : letterB t[0] = true
  ·have HW := qh (word_any t ht)
   have HK := qh (keyword_any t ht w HT.out)
   rw [h1, Bool.true_and]
   by_cases h2 : t.data.toList.all okB = true
   ·rw [h2, Bool.true_and]
    have H2 := qh h2
    clear h2
    go_enter Tryd.func29, Tryd.ntmps29
    go_wp2_with (first | (go_at_call 43; refine (letter_any _ _).mono ?_; rintro e w1 ⟨rfl, rfl⟩) | (go_at_call 44; refine (HW.out _).mono ?_; rintro e w1 ⟨⟨r, rfl, hr⟩, rfl⟩; obtain rfl := hr.2 H2.out; clear hr HW) | (go_at_call 45; refine HK.out.mono ?_; rintro e w1 ⟨rfl, hb⟩; have HB := qh hb; clear hb))
    go_ret
    exact ⟨by simp, HB.out⟩
   ·have h2' : t.data.toList.all okB = false := by simpa using h2
    rw [h2', Bool.false_and]
    have H2 := qh h2
    clear h2 h2'
    go_enter Tryd.func29, Tryd.ntmps29
    go_wp2_with (first | (go_at_call 43; refine (letter_any _ _).mono ?_; rintro e w1 ⟨rfl, rfl⟩) | (go_at_call 44; refine (HW.out _).mono ?_; rintro e w1 ⟨⟨r, rfl, hr⟩, rfl⟩; have hrt : (r.toList == t.toList) = false := toList_no (fun e => H2.out (hr.1 e)); clear hr))
    go_ret
    exact ⟨by simp, Below.refl _ _⟩
  ·have h1' : letterB t[0] = false := by simpa using h1
   rw [h1', Bool.false_and, Bool.false_and]
   clear h1
   go_enter Tryd.func29, Tryd.ntmps29
   go_wp2_with (first | (go_at_call 43; refine (letter_any _ _).mono ?_; rintro e w1 ⟨rfl, rfl⟩))
   go_ret
   exact ⟨by simp, Below.refl _ _⟩
theorem zero3 (w : World) : (zeroValue 3).run Tryd.prog w = .ok (.int .i64 0) w := by kernel_rfl
def IntAt (w : World) (b n : Nat) (f : ByteArray → Option Int) : Prop := ∃ D : DataW Unit, w.ownsMap Tryd.prog 9 (plainElem Tryd.prog 3) b n D ∧ ∀ x : ByteArray, x.size ≤ maxLen → Maps.has D (.string x.data.toList) = (f x).isSome ∧ D.atKey (.string x.data.toList) (.lit (.int .i64 0)) = .lit (.int .i64 ((f x).getD 0))
section
variable {w : World} {b n : Nat} {f : ByteArray → Option Int}
theorem IntAt.lt (h : IntAt w b n f) : b < w.heap.size := by
 obtain ⟨D, h, _⟩ := h
 exact h.lt
theorem IntAt.made (w : World) : IntAt (w.alloc (.map #[] 0)) w.heap.size 0 (fun _ => none) := ⟨.map [], World.ownsMap_made w _ _ _, fun x _ => ⟨rfl, rfl⟩⟩
theorem IntAt.mod {w' : World} {S : Nat → Prop} (h : IntAt w b n f) (hm : Mod S w w') (hb : ¬ S b) : IntAt w' b n f := by
 have hlt := h.lt
 obtain ⟨D, ⟨es, clock, e, h1⟩, h2⟩ := h
 exact ⟨D, ⟨es, clock, (hm.block b hlt hb).trans e, h1⟩, h2⟩
theorem IntAt.look (h : IntAt w b n f) {x : ByteArray} (hx : x.size ≤ maxLen) : (Instr.lookup 76 (.map (some b)) (.string x) false).run Tryd.prog w = .ok (.int .i64 ((f x).getD 0)) w := by
 obtain ⟨D, ho, hf⟩ := h
 obtain ⟨c, hrun, hat, _⟩ := ho.lookup_int keyed9 Tryd.underlying76 Tryd.underlying3 (zero3 w) (keyOf_string_mk Tryd.underlying9 hx)
 rw [hrun]
 rw [(hf x hx).2] at hat
 simp only [DataW.lit.injEq, Lit.int.injEq, true_and] at hat
 rw [hat]
theorem IntAt.look_ok (h : IntAt w b n f) {x : ByteArray} (hx : x.size ≤ maxLen) : (Instr.lookup 76 (.map (some b)) (.string x) true).run Tryd.prog w = .ok (.tuple #[.int .i64 ((f x).getD 0), .bool (f x).isSome]) w := by
 obtain ⟨D, ho, hf⟩ := h
 obtain ⟨v, ps, hrun, hv⟩ := ho.look_ok keyed9 Tryd.underlying76 (zero3 w) (plainElem_int Tryd.underlying3 (by decide)) (keyOf_string_mk Tryd.underlying9 hx)
 obtain ⟨c, rfl, hc, hwc⟩ := plainElem_int_inv Tryd.underlying3 hv
 rw [hrun, (hf x hx).1]
 rw [(hf x hx).2] at hc
 simp only [Prod.mk.injEq, DataW.lit.injEq, Lit.int.injEq, true_and] at hc
 rw [hc.1]
theorem IntAt.store (h : IntAt w b n f) {x : ByteArray} {i : Int} (hx : x.size ≤ maxLen) (hi : (Lit.int .i64 i).wf = true) (hn : n < maxLen) :
  ∃ w', (Instr.mapUpdate 76 (.map (some b)) (.string x) (.int .i64 i)).run Tryd.prog w = .ok () w' ∧ IntAt w' b (n + 1) (fun y => if y = x then some i else f y) ∧ Mod (· = b) w w' := by
 obtain ⟨D, ho, hf⟩ := h
 obtain ⟨w', hrun, ho', ht⟩ := ho.store keyed9 Tryd.underlying76 hn (keyOf_string_mk Tryd.underlying9 hx) (plainElem_int Tryd.underlying3 hi)
 refine ⟨w', hrun, ⟨_, ho', fun y hy => ?_⟩, mod_turned ht⟩
 simp only
 by_cases e : y = x
 ·subst e
  rw [if_pos rfl, Maps.atKey_put_same ho.isMap (show WideAt.IsKeyLit (Lit.string y.data.toList) from trivial), Maps.has_put_same ho.isMap (show WideAt.IsKeyLit (Lit.string y.data.toList) from trivial)]
  exact ⟨rfl, rfl⟩
 ·have hne : Lit.string y.data.toList ≠ Lit.string x.data.toList := fun h => e (bytes_ext (Lit.string.inj h))
  rw [if_neg e, Maps.atKey_put_other hne, Maps.has_put_other hne]
  exact hf y hy
theorem wpList_insert {ops : Array Oper} {rest : List Oper} {o : Oper} {a : Act} {Q : Exit → Act → World → Prop}
  (hg : o.guard = none) (m x v : Operand) (hop : o.op = Op.insert 76 m x v) (h : IntAt w b n f) (hn : n < maxLen) (hm : a.eval m = .map (some b)) {s : ByteArray} {i : Int} (hx : a.eval x = .string s) (hv : a.eval v = .int .i64 i)
  (hs : s.size ≤ maxLen) (hi : (Lit.int .i64 i).wf = true)
  (hK : ∀ w', IntAt w' b (n + 1) (fun y => if y = s then some i else f y) → Mod (· = b) w w' → wpList Tryd.prog ops Q rest (a.put o.dst undef) w') :
  wpList Tryd.prog ops Q (o :: rest) a w := by
 refine wpList_plain hg fun K' hK' => ?_
 obtain ⟨w', hrun, r1, r2⟩ := h.store hs hi hn
 unfold Oper.wp
 simp [execOp, hop, hm, hx, hv, hrun, Result.andThen]
 exact hK' _ _ (hK w' r1 r2)
end
def putF (f : ByteArray → Option Int) (p : ByteArray × Int) : ByteArray → Option Int := fun y => if y = p.1 then some p.2 else f y
def levelL : List (ByteArray × Int) := [(⟨#[108, 97, 109, 98, 100, 97]⟩, 1), (⟨#[105, 102]⟩, 1), (⟨#[111, 114]⟩, 2), (⟨#[97, 110, 100]⟩, 3), (⟨#[110, 111, 116]⟩, 4), (⟨#[61, 61]⟩, 5), (⟨#[33, 61]⟩, 5), (⟨#[60]⟩, 5), (⟨#[60, 61]⟩, 5), (⟨#[62]⟩, 5), (⟨#[62, 61]⟩, 5), (⟨#[105, 110]⟩, 5), (⟨#[110, 111, 116, 32, 105, 110]⟩, 5), (⟨#[105, 115]⟩, 5), (⟨#[105, 115, 32, 110, 111, 116]⟩, 5), (⟨#[43]⟩, 6), (⟨#[45]⟩, 6), (⟨#[42]⟩, 7), (⟨#[47, 47]⟩, 7), (⟨#[37]⟩, 7), (⟨#[42, 42]⟩, 9), (⟨#[46]⟩, 10), (⟨#[40]⟩, 10), (⟨#[91]⟩, 10)]
def levelF : ByteArray → Option Int := levelL.foldl putF (fun _ => none)
def levelB (t : ByteArray) : Int := (levelF t).getD 0
theorem below_mod {w w1 w2 : World} {B : Nat} (h : Below w.heap.size w w1) (hm : Mod (· = B) w1 w2) (hB : w.heap.size ≤ B) : Below w.heap.size w w2 := h.trans (hm.below h.size fun i hi e => by omega)
theorem levels_any (w : World) : Calls Tryd.prog 36 #[] w fun e w' => e = .returned (.map (some w.heap.size)) ∧ IntAt w' w.heap.size 24 levelF ∧ Below w.heap.size w w' := by
 have hmk := run_makeMap (P := Tryd.prog) 76 w
 have HS := qh (IntAt.made w)
 have HB : Hid (Below w.heap.size w (w.alloc (.map #[] 0))) := qh bl1
 go_enter Tryd.func36, Tryd.ntmps36
 go_wp2_with (refine wpList_insert rfl _ _ _ rfl HS.out (by unfold maxLen; omega) rfl rfl rfl (by unfold maxLen; decide) (by decide) ?_; intro w1 hs hm; have HS := qh hs; have HB := qh (below_mod HB.out hm (Nat.le_refl _)); clear hs hm)
 go_ret
 exact ⟨rfl, HS.out, HB.out⟩
theorem level_any (t : ByteArray) (ht : t.size ≤ maxLen) (w : World) : Calls Tryd.prog 24 #[.string t] w fun e w' => e = .returned (.int .i64 (levelB t)) ∧ Below w.heap.size w w' := by
 go_enter Tryd.func24, Tryd.ntmps24
 go_wp2_with (go_at_call 36; refine (levels_any w).mono ?_; rintro e w1 ⟨rfl, hs, hb⟩; have hl := hs.look ht; have HB := qh hb; clear hs hb)
 go_ret
 exact ⟨rfl, HB.out⟩
end
section
open Go.RowKit
set_option linter.unusedVariables false
set_option linter.unusedSimpArgs false
attribute [local go_sem] Oper.semAt_some
def pcs (bb : Nat) (lv : Value) (mb : Nat) (s : PS) : Array Value := #[.pointer (some ⟨bb, 0, none⟩), lv, .int .i64 s.at_, .int .i64 s.bad, .int .i64 s.e, .map (some mb)]
def tcs (t : TokD) : List Value := [.int .i64 t.k, .int .i64 t.at_, .string t.s, .int .i64 t.n]
def tokV (t : TokD) : Value := .agg (tcs t).toArray
theorem tok_bad {w : World} {pb bb mb n c : Nat} {A : Option Addr} {s : PS} (hP : Blk w pb 98 (pcs bb (.slice A n c) mb s)) (he : s.e ≠ 0) (by_ : Nat) :
  Calls Tryd.prog 76 #[.pointer (some ⟨pb, 0, none⟩), .int .i64 by_] w fun e w' => e = .returned (tokV zeroT) ∧ Below w.heap.size w w' := by
 have c4 := hP.cell 4
 have hlt := hP.lt
 have hfz := hP.frozen 4
 simp only [pcs, GG] at c4
 have he' : (s.e == 0) = false := by simpa using he
 clear hP
 go_enter Tryd.func76, Tryd.ntmps76
 go_wp2_with fail
 go_quiet (fail)
 go_wp2_with fail
 exact bodyPost_ret (v := tokV zeroT) (by simp [results, Tryd.results76, go_sem]; rfl) rfl ⟨rfl, (by repeat (first | exact Below.refl _ _ | assumption | refine Below.setCell ?_ (by first | (simp; done) | (simp; omega) | omega) _ | refine below_drewN ?_ _ | refine Below.drew ?_ | refine Below.alloc ?_ (by first | (simp; done) | (simp; omega) | omega) _))⟩
theorem tok_out {w : World} {pb bb mb n c : Nat} {A : Option Addr} {s : PS} (hP : Blk w pb 98 (pcs bb (.slice A n c) mb s)) (he : s.e = 0) (by_ : Nat) (hn : n ≤ s.at_ + by_) (hs : s.at_ + by_ ≤ 9223372036854775807) :
  Calls Tryd.prog 76 #[.pointer (some ⟨pb, 0, none⟩), .int .i64 by_] w fun e w' => e = .returned (tokV zeroT) ∧ Below w.heap.size w w' := by
 have c4 := hP.cell 4
 have c1 := hP.cell 1
 have c2 := hP.cell 2
 have hlt := hP.lt
 simp only [pcs, GG] at c4 c1 c2
 rw [he] at c4
 have hw : IntKind.i64.wrap ((s.at_ : Int) + (by_ : Int)) = (s.at_ : Int) + (by_ : Int) := IntWalk.i64_in _ (by omega)
 have hd : decide ((n : Int) ≤ (s.at_ : Int) + (by_ : Int)) = true := decide_eq_true (by omega)
 clear hP
 go_enter Tryd.func76, Tryd.ntmps76
 go_wp2_with fail
 go_quiet (fail)
 go_wp2_with fail
 exact bodyPost_ret (v := tokV zeroT) (by simp [results, Tryd.results76, go_sem]; rfl) rfl ⟨rfl, (by repeat (first | exact Below.refl _ _ | assumption | refine Below.setCell ?_ (by first | (simp; done) | (simp; omega) | omega) _ | refine below_drewN ?_ _ | refine Below.drew ?_ | refine Below.alloc ?_ (by first | (simp; done) | (simp; omega) | omega) _))⟩
theorem tok_in {w : World} {pb bb mb n c b o : Nat} {s : PS} {t : TokD} (hP : Blk w pb 98 (pcs bb (.slice (some ⟨b, o, none⟩) n c) mb s)) (he : s.e = 0) (by_ : Nat) (hn : s.at_ + by_ < n) (hs : n ≤ 9223372036854775807) (hb : b < w.heap.size)
  (hc : ∀ j u, (tcs t)[j]? = some u → w.cell? ⟨b, o + (s.at_ + by_) * 4 + j, none⟩ = some u) :
  Calls Tryd.prog 76 #[.pointer (some ⟨pb, 0, none⟩), .int .i64 by_] w fun e w' => e = .returned (tokV t) ∧ Below w.heap.size w w' := by
 have c4 := hP.cell 4
 have c1 := hP.cell 1
 have c2 := hP.cell 2
 have hlt := hP.lt
 simp only [pcs, GG] at c4 c1 c2
 rw [he] at c4
 have hw : IntKind.i64.wrap ((s.at_ : Int) + (by_ : Int)) = ((s.at_ + by_ : Nat) : Int) := by rw [IntWalk.i64_in _ (by omega)]; omega
 have hd : decide ((n : Int) ≤ ((s.at_ + by_ : Nat) : Int)) = false := decide_eq_false (by omega)
 have z0 := hc 0 _ rfl
 have z1 := hc 1 _ rfl
 have z2 := hc 2 _ rfl
 have z3 := hc 3 _ rfl
 generalize s.at_ + by_ = k at *
 simp only [Nat.add_zero] at z0
 have HP := qh hP
 have s9 : IntKind.i64.wrap (k : Int) = (k : Int) := IntWalk.i64_in _ (by omega)
 clear hP hc
 go_enter Tryd.func76, Tryd.ntmps76
 go_wp2_with fail
 go_quiet (fail)
 go_wp2_with fail
 generalize hW : World.drewN (w.alloc _) _ = W1
 have hb1 : Below w.heap.size w W1 := by rw [← hW]; exact bl1n
 have hx1 : Blk W1 w.heap.size 39 #[.int .i64 0, .int .i64 0, .string ⟨#[]⟩, .int .i64 0] := by
  rw [← hW]
  exact (Blk.new w 39 _).mod (S := fun _ => False) (by repeat (first | exact Mod.refl _ _ | assumption | refine Mod.setCell ?_ (by intro hx__; first | (simp at hx__; done) | (exfalso; revert hx__; simp; done) | assumption | skip) _ | refine Mod.drewN ?_ _ | refine Mod.drew ?_ | refine Mod.alloc ?_ _)) id
 have hm1 : Mod (fun _ => False) w W1 := Mod.new hb1
 have hP1 := HP.out.mod hm1 id
 have c1 := hP1.cell 1
 have c2 := hP1.cell 2
 have hlt1 := hP1.lt
 simp only [pcs, GG] at c1 c2
 have z0 := (hm1.cell (p := ⟨b, o + k * 4, none⟩) hb id).trans z0
 have z1 := (hm1.cell (p := ⟨b, o + k * 4 + 1, none⟩) hb id).trans z1
 have z2 := (hm1.cell (p := ⟨b, o + k * 4 + 2, none⟩) hb id).trans z2
 have z3 := (hm1.cell (p := ⟨b, o + k * 4 + 3, none⟩) hb id).trans z3
 have HB1 := qh hb1
 have HX1 := qh hx1
 have HW := qh hW
 clear hW hP1 hb1 hx1 hm1
 go_still_tail 12, (by kernel_rfl)
 change wpList _ _ _ _ _ W1.drew
 have hW := HW.out
 clear HX1 HB1 HW z0 z1 z2 z3 c1 c2 hlt1
 subst hW
 go_wp2_with fail
 exact bodyPost_ret (v := tokV t) (by simp [results, Tryd.results76, go_sem]; rfl) rfl ⟨rfl, (by repeat (first | exact Below.refl _ _ | assumption | refine Below.setCell ?_ (by first | (simp; done) | (simp; omega) | omega) _ | refine below_drewN ?_ _ | refine Below.drew ?_ | refine Below.alloc ?_ (by first | (simp; done) | (simp; omega) | omega) _))⟩
theorem tcs_len (t : TokD) : (tcs t).length = 4 := rfl
theorem flat_at : ∀ {L : List TokD} {k : Nat} {t : TokD}, L[k]? = some t → ∀ j u, (tcs t)[j]? = some u → (L.flatMap tcs)[k * 4 + j]? = some u
 | [], k, t, h, j, u, hu => by simp at h
 | x :: L, 0, t, h, j, u, hu => by
  obtain rfl : x = t := by simpa using h
  rw [List.flatMap_cons, List.getElem?_append_left (by have := (List.getElem?_eq_some_iff.1 hu).1; omega), Nat.zero_mul, Nat.zero_add]
  exact hu
 | x :: L, k + 1, t, h, j, u, hu => by
  rw [List.flatMap_cons, List.getElem?_append_right (by rw [tcs_len]; omega), tcs_len]
  have e : (k + 1) * 4 + j - 4 = k * 4 + j := by omega
  rw [e]
  exact flat_at (by simpa using h) j u hu
theorem tok_any {w : World} {pb bb mb n c : Nat} {A : Option Addr} {s : PS} {L : List TokD} (hP : Blk w pb 98 (pcs bb (.slice A n c) mb s)) (hL : Rd w A n c 4 (L.flatMap tcs)) (hn : L.length = n) (by_ : Nat) (hs : s.at_ + by_ ≤ 9223372036854775807) :
  Calls Tryd.prog 76 #[.pointer (some ⟨pb, 0, none⟩), .int .i64 by_] w fun e w' => e = .returned (tokV (tokP L s by_)) ∧ Below w.heap.size w w' := by
 by_cases he : s.e = 0
 ·by_cases hk : s.at_ + by_ < n
  ·obtain ⟨h1, h2, h3, h4⟩ := hL
   obtain ⟨b, o, rfl, hb, hc⟩ := h4 (by omega)
   obtain ⟨t, ht⟩ : ∃ t, L[s.at_ + by_]? = some t := ⟨_, List.getElem?_eq_getElem (by omega)⟩
   have e : tokP L s by_ = t := by unfold tokP; rw [if_neg (by simpa using he), ht]; rfl
   rw [e]
   exact tok_in hP he by_ hk (by omega) hb fun j u hu => by
    have := hc _ u (flat_at ht j u hu)
    rwa [← Nat.add_assoc] at this
  ·have e : tokP L s by_ = zeroT := by unfold tokP; rw [if_neg (by simpa using he), List.getElem?_eq_none (by omega)]; rfl
   rw [e]
   exact tok_out hP he by_ (by omega) hs
 ·have e : tokP L s by_ = zeroT := by unfold tokP; rw [if_pos he]
  rw [e]
  exact tok_bad hP he by_
theorem Rd.bel {w w' : World} {A : Option Addr} {n c sz : Nat} {cs : List Value} (h : Rd w A n c sz cs) (hb : Below w.heap.size w w') : Rd w' A n c sz cs := h.keep hb.size fun b o _ hlt => hb.block b hlt
theorem Blk.bel {w w' : World} {g : Nat} {t : TypeId} {cs : Array Value} (h : Blk w g t cs) (hb : Below w.heap.size w w') : Blk w' g t cs := h.mod (S := fun _ => False) (Mod.new hb) id
theorem is_any {w : World} {pb bb mb n c : Nat} {A : Option Addr} {s : PS} {L : List TokD} (hP : Blk w pb 98 (pcs bb (.slice A n c) mb s)) (hL : Rd w A n c 4 (L.flatMap tcs)) (hn : L.length = n) (t : ByteArray) (ht : t.size ≤ maxLen) (by_ : Nat) (hs : s.at_ + by_ ≤ 9223372036854775807) (htab : Asp w) :
  Calls Tryd.prog 102 #[.pointer (some ⟨pb, 0, none⟩), .string t, .int .i64 by_] w fun e w' => e = .returned (.bool (isP L s t by_)) ∧ Below w.heap.size w w' := by
 unfold isP
 have K1 := qh (keyword_any t ht w htab)
 have K2 : Hid (∀ w', Below w.heap.size w w' → Calls Tryd.prog 76 #[.pointer (some ⟨pb, 0, none⟩), .int .i64 by_] w' fun e w2 => e = .returned (.agg #[.int .i64 (tokP L s by_).k, .int .i64 (tokP L s by_).at_, .string (tokP L s by_).s, .int .i64 (tokP L s by_).n]) ∧ Below w'.heap.size w' w2) :=
  qh fun w' hb => tok_any (hP.bel hb) (hL.bel hb) hn by_ hs
 generalize tokP L s by_ = T at *
 obtain ⟨k, a, sx, m⟩ := T
 simp only at K2 ⊢
 clear hP hL hs hn htab ht
 by_cases h2 : sx = t
 ·subst h2
  cases hk : kwB sx with
  | true =>
   rw [hk] at K1
   go_enter Tryd.func102, Tryd.ntmps102
   go_wp2_with (first | (go_at_call 45; refine K1.out.mono ?_; rintro e w1 ⟨rfl, hb⟩; have HB := qh hb; clear hb) | (go_at_call 76; refine (K2.out _ HB.out).mono ?_; rintro e w2 ⟨rfl, hb⟩; have HB := qh (HB.out.trans (hb.mono HB.out.size)); clear hb))
   all_goals (go_ret; exact ⟨ret_b (by simp_all), HB.out.alloc HB.out.size _⟩)
  | false =>
   rw [hk] at K1
   go_enter Tryd.func102, Tryd.ntmps102
   go_wp2_with (first | (go_at_call 45; refine K1.out.mono ?_; rintro e w1 ⟨rfl, hb⟩; have HB := qh hb; clear hb) | (go_at_call 76; refine (K2.out _ HB.out).mono ?_; rintro e w2 ⟨rfl, hb⟩; have HB := qh (HB.out.trans (hb.mono HB.out.size)); clear hb))
   all_goals (go_ret; exact ⟨ret_b (by simp_all), HB.out.alloc HB.out.size _⟩)
 ·have hne := toList_no h2
  cases hk : kwB t with
  | true =>
   rw [hk] at K1
   go_enter Tryd.func102, Tryd.ntmps102
   go_wp2_with (first | (go_at_call 45; refine K1.out.mono ?_; rintro e w1 ⟨rfl, hb⟩; have HB := qh hb; clear hb) | (go_at_call 76; refine (K2.out _ HB.out).mono ?_; rintro e w2 ⟨rfl, hb⟩; have HB := qh (HB.out.trans (hb.mono HB.out.size)); clear hb))
   all_goals (go_ret; exact ⟨ret_b (by simp_all), HB.out.alloc HB.out.size _⟩)
  | false =>
   rw [hk] at K1
   go_enter Tryd.func102, Tryd.ntmps102
   go_wp2_with (first | (go_at_call 45; refine K1.out.mono ?_; rintro e w1 ⟨rfl, hb⟩; have HB := qh hb; clear hb) | (go_at_call 76; refine (K2.out _ HB.out).mono ?_; rintro e w2 ⟨rfl, hb⟩; have HB := qh (HB.out.trans (hb.mono HB.out.size)); clear hb))
   all_goals (go_ret; exact ⟨ret_b (by simp_all), HB.out.alloc HB.out.size _⟩)
theorem fail_any {w : World} {pb bb mb : Nat} {lv : Value} {s : PS} (hP : Blk w pb 98 (pcs bb lv mb s)) (e at_ : Int) :
  Calls Tryd.prog 96 #[.pointer (some ⟨pb, 0, none⟩), .int .i64 e, .int .i64 at_] w fun r w' => r = .returned (.int .i64 (-1)) ∧ Blk w' pb 98 (pcs bb lv mb (failP s e at_)) ∧ Mod (· = pb) w w' := by
 have c4 := hP.cell 4
 have c3 := hP.cell 3
 have hlt := hP.lt
 have f4 := hP.frozen 4
 have f3 := hP.frozen 3
 have HP := qh hP
 simp only [pcs, GG] at c4 c3
 clear hP
 by_cases he : s.e = 0
 ·rw [he] at c4
  go_enter Tryd.func96, Tryd.ntmps96
  go_wp2_with fail
  go_ret
  refine ⟨rfl, ?_, Mod.setCell (S := (· = pb)) (p := ⟨pb, 3, none⟩) (Mod.setCell (S := (· = pb)) (p := ⟨pb, 4, none⟩) (Mod.refl _ _) (fun _ => rfl) _) (fun _ => rfl) _⟩
  have h := (HP.out.set_ 4 (.int .i64 e)).set_ 3 (.int .i64 at_)
  unfold failP
  rw [if_pos he]
  exact h
 ·have he' : (s.e == 0) = false := by simpa using he
  go_enter Tryd.func96, Tryd.ntmps96
  go_wp2_with fail
  go_ret
  unfold failP
  rw [if_neg he]
  exact ⟨rfl, HP.out, Mod.refl _ _⟩
theorem anyP_at {L : List TokD} {s : PS} {t : ByteArray} : ∀ {l : List ByteArray} {k : Nat}, l[k]? = some t → isP L s t 0 = true → (∀ (j : Nat) x, j < k → l[j]? = some x → isP L s x 0 = false) → anyP L l s = (stepP s 1, t, true)
 | [], k, h, _, _ => by simp at h
 | y :: l, 0, h, h1, _ => by
  obtain rfl : y = t := by simpa using h
  unfold anyP
  rw [if_pos h1]
 | y :: l, k + 1, h, h1, h0 => by
  unfold anyP
  rw [if_neg (by rw [h0 0 y (by omega) rfl]; exact Bool.false_ne_true)]
  exact anyP_at (k := k) (by simpa using h) h1 fun j x hj hx => h0 (j + 1) x (by omega) (by simpa using hx)
theorem anyP_no {L : List TokD} {s : PS} : ∀ {l : List ByteArray}, (∀ (j : Nat) x, l[j]? = some x → isP L s x 0 = false) → anyP L l s = (s, ⟨#[]⟩, false)
 | [], _ => rfl
 | y :: l, h0 => by
  unfold anyP
  rw [if_neg (by rw [h0 0 y rfl]; exact Bool.false_ne_true)]
  exact anyP_no fun j x hx => h0 (j + 1) x (by simpa using hx)
theorem any_any {w : World} {pb bb mb n c q r : Nat} {A B : Option Addr} {s : PS} {L : List TokD} {l : List ByteArray} (hP : Blk w pb 98 (pcs bb (.slice A n c) mb s)) (hL : Rd w A n c 4 (L.flatMap tcs)) (hn : L.length = n) (hB : Rd w B q r 1 (l.map Value.string)) (hl : l.length = q) (ht : ∀ t ∈ l, t.size ≤ maxLen) (hs : s.at_ + 1 ≤ 9223372036854775807) (htab : Asp w) :
  Calls Tryd.prog 94 #[.pointer (some ⟨pb, 0, none⟩), .slice B q r] w fun e w' => e = .returned (.tuple #[.string (anyP L l s).2.1, .bool (anyP L l s).2.2]) ∧ Blk w' pb 98 (pcs bb (.slice A n c) mb (anyP L l s).1) ∧ Mod (· = pb) w w' := by
 have hq := hB.le
 have HP := qh hP
 have HB := qh hB
 have HT := qh ht
 have K : Hid (∀ w', Below w.heap.size w w' → ∀ t ∈ l, Calls Tryd.prog 102 #[.pointer (some ⟨pb, 0, none⟩), .string t, .int .i64 0] w' fun e w2 => e = .returned (.bool (isP L s t 0)) ∧ Below w'.heap.size w' w2) :=
  qh fun w' hb t ht' => is_any (hP.bel hb) (hL.bel hb) hn t (ht t ht') 0 (by omega) (htab.below hb)
 clear hP hL hB ht htab
 go_enter Tryd.func94, Tryd.ntmps94
 go_wp2_with fail
 go_loopw [10] (fun i wr => ∃ k : Nat, k ≤ q ∧ i = .int .i64 k ∧ Hid (∀ (j : Nat) x, j < k → l[j]? = some x → isP L s x 0 = false) ∧ Below w.heap.size w wr) (fun i _ => q - (intOf i).toNat)
 case atStart => exact ⟨0, Nat.zero_le _, rfl, qh fun j x hj => absurd hj (by omega), Below.refl _ _⟩
 case round =>
  obtain ⟨k, hk, rfl, H0, hbel⟩ := hrel
  have HW := qh hbel
  by_cases hlt : k < q
  ·obtain ⟨b, o, rfl, hb, hc⟩ := (HB.out.bel hbel).2.2.2 (by omega)
   obtain ⟨x, hx⟩ : ∃ x, l[k]? = some x := ⟨_, List.getElem?_eq_getElem (by omega)⟩
   have hce : wr.cell? ⟨b, o + k, none⟩ = some (.string x) := hc k _ (by rw [List.getElem?_map, hx]; rfl)
   have KX := qh (K.out wr hbel x (List.mem_of_getElem? hx))
   have HX := qh hx
   clear hx hc hbel
   cases hi : isP L s x 0 with
   | true =>
    rw [hi] at KX
    have HI := qh hi
    clear hi
    go_wp2_with (go_at_call 102; refine KX.out.mono ?_; rintro e w2 ⟨rfl, hb2⟩; have HB2 := qh (HW.out.trans (hb2.mono HW.out.size)); have hP2 := HP.out.bel HB2.out; have c2 := hP2.cell 2; have f2 := hP2.frozen 2; have hlt2 := hP2.lt; have HP2 := qh hP2; simp only [pcs, GG] at c2; clear hP2 hb2)
    refine bodyPost_ret (v := .tuple #[.string x, .bool true]) (by first | (simp [results, Tryd.results94, go_sem]; done) | (simp [results, Tryd.results94, go_sem]; rfl)) rfl ?_
    rw [anyP_at HX.out HI.out H0.out]
    exact ⟨rfl, HP2.out.set_ 2 (.int .i64 ((s.at_ : Int) + 1)), Mod.setCell (S := (· = pb)) (p := ⟨pb, 2, none⟩) (Mod.new HB2.out) (fun _ => rfl) _⟩
   | false =>
    rw [hi] at KX
    have HI := qh hi
    clear hi
    go_wp2_with (go_at_call 102; refine KX.out.mono ?_; rintro e w2 ⟨rfl, hb2⟩; have HB2 := qh (HW.out.trans (hb2.mono HW.out.size)); clear hb2)
    go_round
    case rel =>
     refine ⟨k + 1, by omega, by go_num, qh fun j y hj hy => ?_, HB2.out⟩
     by_cases e : j = k
     ·subst e
      rw [HX.out] at hy
      obtain rfl := Option.some.inj hy
      exact HI.out
     ·exact H0.out j y (by omega) hy
    case measure => simp [intOf]; omega
  ·obtain rfl : k = q := by omega
   have e := anyP_no (L := L) (s := s) (l := l) fun j x hx => H0.out j x (by have := (List.getElem?_eq_some_iff.1 hx).1; omega) hx
   have E := qh e
   have HP2 := qh (HP.out.bel HW.out)
   clear e
   go_wp2_with fail
   refine bodyPost_ret (v := .tuple #[.string ⟨#[]⟩, .bool false]) (by first | (simp [results, Tryd.results94, go_sem]; done) | (simp [results, Tryd.results94, go_sem]; rfl)) rfl ?_
   rw [E.out]
   exact ⟨rfl, HP2.out, Mod.new HW.out⟩
theorem take_any {w : World} {pb bb mb n c : Nat} {A : Option Addr} {s : PS} {L : List TokD} (hP : Blk w pb 98 (pcs bb (.slice A n c) mb s)) (hL : Rd w A n c 4 (L.flatMap tcs)) (hn : L.length = n) (t : ByteArray) (ht : t.size ≤ maxLen) (hs : s.at_ + 1 ≤ 9223372036854775807) (htab : Asp w) :
  Calls Tryd.prog 77 #[.pointer (some ⟨pb, 0, none⟩), .string t] w fun e w' => e = .returned (.bool (takeP L t s).2) ∧ Blk w' pb 98 (pcs bb (.slice A n c) mb (takeP L t s).1) ∧ Mod (· = pb) w w' := by
 have hb : Below w.heap.size w (w.alloc (.cells #[.string t] 9)) := bl1
 have hr : Rd (w.alloc (.cells #[.string t] 9)) (some ⟨w.heap.size, 0, none⟩) 1 1 1 ([t].map Value.string) := by
  refine ⟨Nat.le_refl _, by omega, rfl, fun _ => ⟨w.heap.size, 0, rfl, by simp, fun j u hj => ?_⟩⟩
  rw [Nat.zero_add, (Blk.new w 9 _).cell]
  simpa using hj
 have K := qh (any_any (hP.bel hb) (hL.bel hb) hn hr rfl (by intro x hx; obtain rfl := List.mem_singleton.1 hx; exact ht) hs (htab.below hb))
 have HB := qh hb
 unfold takeP
 clear hP hL hr hb htab
 go_enter Tryd.func77, Tryd.ntmps77
 go_wp2_with (go_at_call 94; refine K.out.mono ?_; rintro e w1 ⟨rfl, hp, hm⟩; have HP := qh hp; have HM := qh hm; clear hp hm)
 go_ret
 exact ⟨rfl, HP.out, Mod.trans (Mod.new HB.out) HM.out fun _ _ h => h⟩
theorem need_any {w : World} {pb bb mb n c : Nat} {A : Option Addr} {s : PS} {L : List TokD} (hP : Blk w pb 98 (pcs bb (.slice A n c) mb s)) (hL : Rd w A n c 4 (L.flatMap tcs)) (hn : L.length = n) (t : ByteArray) (ht : t.size ≤ maxLen) (hs : s.at_ + 1 ≤ 9223372036854775807) (htab : Asp w) :
  Calls Tryd.prog 81 #[.pointer (some ⟨pb, 0, none⟩), .string t] w fun e w' => e = .returned (.tuple #[]) ∧ Blk w' pb 98 (pcs bb (.slice A n c) mb (needP L t s)) ∧ Mod (· = pb) w w' := by
 have K := qh (take_any hP hL hn t ht hs htab)
 unfold needP
 generalize takeP L t s = R at *
 obtain ⟨s1, y⟩ := R
 simp only at K ⊢
 clear hP hL htab
 cases y with
 | true =>
  go_enter Tryd.func81, Tryd.ntmps81
  go_wp2_with (go_at_call 77; refine K.out.mono ?_; rintro e w1 ⟨rfl, hp, hm⟩; have HP := qh hp; have HM := qh hm; clear hp hm)
  go_end0
  exact ⟨rfl, HP.out, HM.out⟩
 | false =>
  go_enter Tryd.func81, Tryd.ntmps81
  go_wp2_with (first | (go_at_call 77; refine K.out.mono ?_; rintro e w1 ⟨rfl, hp, hm⟩; have c2 := hp.cell 2; have hlt := hp.lt; have HP := qh hp; have HM := qh hm; simp only [pcs, GG] at c2; clear hp hm) | (go_at_call 96; refine (fail_any HP.out 30 _).mono ?_; rintro e w2 ⟨rfl, hp, hm⟩; have HP2 := qh hp; have HM2 := qh hm; clear hp hm))
  go_end0
  exact ⟨rfl, HP2.out, Mod.trans HM.out HM2.out fun _ _ h => h⟩
theorem tokP_small {L : List TokD} (hts : ∀ t ∈ L, t.s.size ≤ maxLen) (s : PS) (by_ : Nat) : (tokP L s by_).s.size ≤ maxLen := by
 unfold tokP
 split
 ·exact Nat.zero_le _
 ·cases h : L[s.at_ + by_]? with
  | none => exact Nat.zero_le _
  | some t => exact hts t (List.mem_of_getElem? h)
theorem namep_any {w : World} {pb bb mb n c : Nat} {A : Option Addr} {s : PS} {L : List TokD} (hP : Blk w pb 98 (pcs bb (.slice A n c) mb s)) (hL : Rd w A n c 4 (L.flatMap tcs)) (hn : L.length = n) (hts : ∀ t ∈ L, t.s.size ≤ maxLen) (hs : s.at_ + 1 ≤ 9223372036854775807) (htab : Asp w) :
  Calls Tryd.prog 95 #[.pointer (some ⟨pb, 0, none⟩)] w fun e w' => e = .returned (.string (nameP L s).2) ∧ Blk w' pb 98 (pcs bb (.slice A n c) mb (nameP L s).1) ∧ Mod (· = pb) w w' := by
 have K : Hid (Calls Tryd.prog 76 #[.pointer (some ⟨pb, 0, none⟩), .int .i64 0] w fun e w2 => e = .returned (.agg #[.int .i64 (tokP L s 0).k, .int .i64 (tokP L s 0).at_, .string (tokP L s 0).s, .int .i64 (tokP L s 0).n]) ∧ Below w.heap.size w w2) :=
  qh (tok_any hP hL hn 0 (by omega))
 have hsm := tokP_small hts s 0
 have HP := qh hP
 unfold nameP
 generalize tokP L s 0 = T at *
 obtain ⟨k, a, sx, m⟩ := T
 simp only at K hsm ⊢
 have KN : Hid (∀ w', Below w.heap.size w w' → Calls Tryd.prog 29 #[.string sx] w' fun e w2 => e = .returned (.bool (nameB sx)) ∧ Below w'.heap.size w' w2) := qh fun w' hb => name_any sx hsm w' (htab.below hb)
 clear hP hL hts htab hsm
 by_cases hk : k = 1
 ·subst hk
  cases hb : nameB sx with
  | true =>
   rw [hb] at KN
   rw [if_pos ⟨rfl, rfl⟩]
   go_enter Tryd.func95, Tryd.ntmps95
   go_wp2_with (first | (go_at_call 76; refine K.out.mono ?_; rintro e w1 ⟨rfl, hb⟩; have HB := qh hb; clear hb) | (go_at_call 29; refine (KN.out _ (HB.out.alloc HB.out.size _)).mono ?_; rintro e w2 ⟨rfl, hb⟩; have HX := qh ((Blk.new w1 39 #[.int .i64 1, .int .i64 a, .string sx, .int .i64 m]).bel hb); have HB2 := qh ((HB.out.alloc HB.out.size _).trans (hb.mono (HB.out.alloc HB.out.size _).size)); have HP2 := qh (HP.out.bel HB2.out); have c2 := HP2.out.cell 2; have f2 := HP2.out.frozen 2; have hlt := HP2.out.lt; have x2 := HX.out.cell 2; have xl := HX.out.lt; have hne : ¬ w1.heap.size = pb := (by have := HP.out.lt; have := HB.out.size; omega); simp only [pcs, GG] at c2 x2; clear hb) | (go_at_call 96; refine (fail_any HP2.out 30 _).mono ?_; rintro e w3 ⟨rfl, hp, hm⟩; have HP3 := qh hp; have HM3 := qh hm; clear hp hm))
   go_ret
   exact ⟨rfl, HP2.out.set_ 2 (.int .i64 ((s.at_ : Int) + 1)), Mod.setCell (S := (· = pb)) (p := ⟨pb, 2, none⟩) (Mod.new HB2.out) (fun _ => rfl) _⟩
  | false =>
   rw [hb] at KN
   rw [if_neg (by simp)]
   go_enter Tryd.func95, Tryd.ntmps95
   go_wp2_with (first | (go_at_call 76; refine K.out.mono ?_; rintro e w1 ⟨rfl, hb⟩; have HB := qh hb; clear hb) | (go_at_call 29; refine (KN.out _ (HB.out.alloc HB.out.size _)).mono ?_; rintro e w2 ⟨rfl, hb⟩; have HX := qh ((Blk.new w1 39 #[.int .i64 1, .int .i64 a, .string sx, .int .i64 m]).bel hb); have HB2 := qh ((HB.out.alloc HB.out.size _).trans (hb.mono (HB.out.alloc HB.out.size _).size)); have HP2 := qh (HP.out.bel HB2.out); have c2 := HP2.out.cell 2; have f2 := HP2.out.frozen 2; have hlt := HP2.out.lt; have x2 := HX.out.cell 2; have xl := HX.out.lt; have hne : ¬ w1.heap.size = pb := (by have := HP.out.lt; have := HB.out.size; omega); simp only [pcs, GG] at c2 x2; clear hb) | (go_at_call 96; refine (fail_any HP2.out 30 _).mono ?_; rintro e w3 ⟨rfl, hp, hm⟩; have HP3 := qh hp; have HM3 := qh hm; clear hp hm))
   go_ret
   exact ⟨rfl, HP3.out, Mod.trans (Mod.new HB2.out) HM3.out fun _ _ h => h⟩
 ·have hk' : (k == 1) = false := by simpa using hk
  rw [if_neg (fun h => hk h.1)]
  go_enter Tryd.func95, Tryd.ntmps95
  go_wp2_with (first | (go_at_call 76; refine K.out.mono ?_; rintro e w1 ⟨rfl, hb⟩; have HB := qh hb; have HP2 := qh (HP.out.bel hb); have c2 := HP2.out.cell 2; have hlt := HP2.out.lt; simp only [pcs, GG] at c2; clear hb) | (go_at_call 96; refine (fail_any (HP2.out.bel (Below.alloc (Below.refl _ _) (Nat.le_refl _) _)) 30 _).mono ?_; rintro e w3 ⟨rfl, hp, hm⟩; have HP3 := qh hp; have HM3 := qh hm; clear hp hm))
  go_ret
  exact ⟨rfl, HP3.out, Mod.trans (Mod.new (HB.out.alloc HB.out.size _)) HM3.out fun _ _ h => h⟩
end
section
open Go.RowKit Go.Maps Go.WideMaps
set_option linter.unusedVariables false
set_option linter.unusedSimpArgs false
def ics (l : List Int) : List Value := l.map (Value.int .i64)
theorem ics_length (l : List Int) : (ics l).length = l.length * 1 := by simp [ics]
theorem ics_oneCell (l : List Int) : ∀ u ∈ ics l, u.oneCell' = true := by
 intro u hu
 simp only [ics, List.mem_map] at hu
 obtain ⟨x, _, rfl⟩ := hu
 rfl
theorem ics_append (a b : List Int) : ics (a ++ b) = ics a ++ ics b := by simp [ics]
def OwnI (w : World) (v : Value) (xs : List Int) : Prop := Own w 3 1 v xs.length (ics xs)
theorem OwnI.nil_ (w : World) : OwnI w (.slice none 0 0) [] := Own.nil_ _ _ _
theorem OwnI.bel {w w' : World} {v : Value} {xs : List Int} (h : OwnI w v xs) (hb : Below w.heap.size w w') : OwnI w' v xs := Own.new h hb
structure KeepE (B : Nat) (E : Nat → Prop) (w w' : World) : Prop where
 os : w'.os = w.os
 tape : w'.tape = w.tape
 output : w'.output = w.output
 size : w.heap.size ≤ w'.heap.size
 block : ∀ k, k < w.heap.size → ¬ E k → (k < B ∨ ∃ cs t, w.heap[k]? = some (.cells cs t (0, 0)) ∧ t ≠ 51 ∧ t ≠ 98 ∧ t ≠ 71) → w'.heap[k]? = w.heap[k]?
abbrev Keeps (B : Nat) (w w' : World) : Prop := KeepE B (fun _ => False) w w'
section
variable {B : Nat} {E : Nat → Prop} {w w0 w1 w2 : World}
theorem KeepE.refl (B : Nat) (E : Nat → Prop) (w : World) : KeepE B E w w := ⟨rfl, rfl, rfl, Nat.le_refl _, fun _ _ _ _ => rfl⟩
theorem KeepE.trans (h : KeepE B E w w1) (k : KeepE B E w1 w2) : KeepE B E w w2 :=
 ⟨k.os.trans h.os, k.tape.trans h.tape, k.output.trans h.output, Nat.le_trans h.size k.size, fun i hi hE hc => by
  have e := h.block i hi hE hc
  rw [← e] at hc ⊢
  exact k.block i (Nat.lt_of_lt_of_le hi h.size) hE hc⟩
theorem KeepE.then {E' : Nat → Prop} (h : KeepE B E w w1) (k : KeepE B E' w1 w2) (hE : ∀ i, E' i → E i ∨ w.heap.size ≤ i) : KeepE B E w w2 :=
 ⟨k.os.trans h.os, k.tape.trans h.tape, k.output.trans h.output, Nat.le_trans h.size k.size, fun i hi hn hc => by
  have e := h.block i hi hn hc
  rw [← e] at hc ⊢
  exact k.block i (Nat.lt_of_lt_of_le hi h.size) (fun h1 => by rcases hE i h1 with h2 | h2; exact hn h2; omega) hc⟩
theorem KeepE.of_below (B : Nat) (E : Nat → Prop) (h : Below w.heap.size w w1) : KeepE B E w w1 := ⟨h.os, h.tape, h.output, h.size, fun k hk _ _ => h.block k hk⟩
theorem KeepE.of_mod {S : Nat → Prop} (h : Mod S w w1) (hS : ∀ k, k < w.heap.size → S k → E k ∨ (B ≤ k ∧ ∀ cs t, w.heap[k]? = some (.cells cs t (0, 0)) → t = 51 ∨ t = 98 ∨ t = 71)) : KeepE B E w w1 :=
 ⟨h.os, h.tape, h.output, h.size, fun k hk hE hc => h.block k hk fun hs => by
  rcases hS k hk hs with h1 | ⟨h1, h2⟩
  ·exact hE h1
  ·rcases hc with hc | ⟨cs, t, hc, h3, h4, h5⟩
   ·omega
   ·rcases h2 cs t hc with h6 | h6 | h6
    ·exact h3 h6
    ·exact h4 h6
    ·exact h5 h6⟩
theorem KeepE.below (h : KeepE B E w w1) (hB : B ≤ w.heap.size) (hE : ∀ k, E k → B ≤ k) : Below B w w1 := ⟨h.os, h.tape, h.output, h.size, fun k hk => h.block k (by omega) (fun e => by have := hE k e; omega) (.inl hk)⟩
theorem KeepE.blk {g : Nat} {t : TypeId} {cs : Array Value} (h : KeepE B E w w1) (hb : Blk w g t cs) (hE : ¬ E g) (ht : t ≠ 51 ∧ t ≠ 98 ∧ t ≠ 71) : Blk w1 g t cs := (h.block g hb.lt hE (.inr ⟨cs, t, hb, ht⟩)).trans hb
theorem KeepE.own {t : TypeId} {sz n : Nat} {v : Value} {cs : List Value} (h : KeepE B E w w1) (hb : Own w t sz v n cs) (hE : ∀ b, v.ownBlock = some b → ¬ E b) (ht : t ≠ 51 ∧ t ≠ 98 ∧ t ≠ 71) : Own w1 t sz v n cs := by
 refine ⟨hb.1, ?_⟩
 rcases hb.2 with h2 | ⟨g, c, cur, rfl, hg, r⟩
 ·exact .inl h2
 ·exact .inr ⟨g, c, cur, rfl, (h.block g (Array.getElem?_eq_some_iff.1 hg).1 (hE g rfl) (.inr ⟨cur, t, hg, ht⟩)).trans hg, r⟩
end
structure NdS where
 x : NodeD
 A : Option Addr
 c : Nat
def NdS.v (z : NdS) : Value := .slice z.A z.x.kids.length z.c
def NdS.cs (z : NdS) : List Value := [.int .i64 z.x.op, .int .i64 z.x.at_, .string z.x.s, .int .i64 z.x.n, z.v]
theorem nds_len (Z : List NdS) : (Z.flatMap NdS.cs).length = Z.length * 5 := by
 induction Z with
 | nil => rfl
 | cons z Z ih => rw [List.flatMap_cons, List.length_append, ih, List.length_cons]; show 5 + _ = _; omega
def RowN (F : Nat → Prop) (w : World) (v : Value) (ns : List NodeD) : Prop :=
 ∃ Z : List NdS, Z.map (·.x) = ns ∧ Own w 51 5 v Z.length (Z.flatMap NdS.cs) ∧ ∀ z ∈ Z, OwnI w z.v z.x.kids ∧ (∀ b, z.v.ownBlock = some b → ¬ F b) ∧ z.x.kids.length ≤ 4398046511103
theorem RowN.nil_ (F : Nat → Prop) (w : World) : RowN F w (.slice none 0 0) [] := ⟨[], rfl, Own.nil_ _ _ _, fun z h => by cases h⟩
theorem RowN.keep {F F' : Nat → Prop} {w w' : World} {v : Value} {ns : List NodeD} (h : RowN F w v ns) (hv : ∀ b, v.ownBlock = some b → w'.heap[b]? = w.heap[b]?)
  (hk : ∀ k cs, k < w.heap.size → ¬ F k → w.heap[k]? = some (.cells cs 3 (0, 0)) → w'.heap[k]? = w.heap[k]?) (hF : ∀ k, k < w.heap.size → F' k → F k) : RowN F' w' v ns := by
 obtain ⟨Z, e, h1, h2⟩ := h
 refine ⟨Z, e, h1.keep hv, fun z hz => ?_⟩
 obtain ⟨h3, h4, h8⟩ := h2 z hz
 refine ⟨?_, fun b hb hb2 => h4 b hb (hF b (h3.lt hb) hb2), h8⟩
 unfold OwnI at h3 ⊢
 refine ⟨h3.1, ?_⟩
 rcases h3.2 with h5 | ⟨g, c, cur, e2, hg, r⟩
 ·exact .inl h5
 ·exact .inr ⟨g, c, cur, e2, (hk g cur (Array.getElem?_eq_some_iff.1 hg).1 (h4 g (by rw [e2]; rfl)) hg).trans hg, r⟩
theorem keyed3 : Maps.Keyed Tryd.prog 3 := Maps.int_keyed Tryd.underlying3
def knownElem : Value → Option (DataW Unit × List MemPlace)
 | .agg cs => match (cs[0]? : Option Value), (cs[1]? : Option Value), cs.size with
  | some (Value.int .i64 d), some (Value.int .i64 a), 2 => some (.agg [.lit (.int .i64 d), .lit (.int .i64 a)], [])
  | _, _, _ => none
 | _ => none
theorem knownElem_mk (d a : Int) : knownElem (.agg #[.int .i64 d, .int .i64 a]) = some (.agg [.lit (.int .i64 d), .lit (.int .i64 a)], []) := rfl
theorem knownElem_inv {v : Value} {d a : Int} {ps : List MemPlace} (h : knownElem v = some (.agg [.lit (.int .i64 d), .lit (.int .i64 a)], ps)) : v = .agg #[.int .i64 d, .int .i64 a] := by
 unfold knownElem at h
 split at h
 ·rename_i cs
  split at h
  ·rename_i d' a' h0 h1 h2
   injection h with h
   injection h with h3 h4
   injection h3 with h3
   injection h3 with h3 h5
   injection h5 with h5 _
   injection h3 with h3
   injection h3 with _ h3
   injection h5 with h5
   injection h5 with _ h5
   subst h3 h5
   congr 1
   apply Array.ext_getElem?
   intro i
   rcases i with _ | _ | i
   ·simpa using h0
   ·simpa using h1
   ·rw [Array.getElem?_eq_none (by omega), Array.getElem?_eq_none (by simp)]
  ·cases h
 ·cases h
theorem zero115 (w : World) : (zeroValue 115).run Tryd.prog w = .ok (.agg #[.int .i64 0, .int .i64 0]) w := by kernel_rfl
def knZ : DataW Unit := .agg [.lit (.int .i64 0), .lit (.int .i64 0)]
def KnAt (w : World) (b : Nat) (s : PS) : Prop := ∃ D : DataW Unit, w.ownsMap Tryd.prog 3 knownElem b s.ns.length D ∧ ∀ k : Int, (Lit.int .i64 k).wf = true → D.atKey (.int .i64 k) knZ = .agg [.lit (.int .i64 (deepOf s k)), .lit (.int .i64 (placeOf s k))]
section
variable {w w' : World} {b : Nat} {s s' : PS}
theorem KnAt.lt (h : KnAt w b s) : b < w.heap.size := by
 obtain ⟨D, h, _⟩ := h
 exact h.lt
theorem KnAt.isMap (h : KnAt w b s) : ∃ es clock, w.heap[b]? = some (.map es clock) := by
 obtain ⟨D, ⟨es, clock, e, _⟩, _⟩ := h
 exact ⟨es, clock, e⟩
theorem KnAt.made (w : World) (s : PS) (h1 : s.ns = []) (h2 : s.dp = []) : KnAt (w.alloc (.map #[] 0)) w.heap.size s := by
 refine ⟨.map [], by rw [h1]; exact World.ownsMap_made w _ _ _, fun k _ => ?_⟩
 have e1 : deepOf s k = 0 := by unfold deepOf; rw [h2]; simp
 have e2 : placeOf s k = 0 := by unfold placeOf; rw [h1]; simp
 rw [e1, e2]
 rfl
theorem KnAt.keep (h : KnAt w b s) (hb : w'.heap[b]? = w.heap[b]?) (hn : s'.ns = s.ns) (hd : s'.dp = s.dp) : KnAt w' b s' := by
 obtain ⟨D, ⟨es, clock, e, h1⟩, h2⟩ := h
 have e1 : ∀ k, deepOf s' k = deepOf s k := fun k => by unfold deepOf; rw [hd]
 have e2 : ∀ k, placeOf s' k = placeOf s k := fun k => by unfold placeOf; rw [hn]
 refine ⟨D, ⟨es, clock, hb.trans e, by rw [hn]; exact h1⟩, fun k hk => ?_⟩
 rw [e1, e2]
 exact h2 k hk
theorem KnAt.look (h : KnAt w b s) {k : Int} (hk : (Lit.int .i64 k).wf = true) : (Instr.lookup 96 (.map (some b)) (.int .i64 k) false).run Tryd.prog w = .ok (.agg #[.int .i64 (deepOf s k), .int .i64 (placeOf s k)]) w := by
 obtain ⟨D, ho, hf⟩ := h
 obtain ⟨v, ps, hrun, hv⟩ := ho.lookup keyed3 Tryd.underlying96 (zero115 w) (knownElem_mk 0 0) (keyOf_int_mk Tryd.underlying3 hk)
 rw [hrun]
 have e := hf k hk
 unfold knZ at e
 rw [e] at hv
 rw [knownElem_inv hv]
theorem KnAt.store (h : KnAt w b s) {k d a : Int} (hk : (Lit.int .i64 k).wf = true) (hn : s.ns.length < maxLen) (hl : s'.ns.length = s.ns.length + 1) (h1 : deepOf s' k = d ∧ placeOf s' k = a) (h2 : ∀ j, j ≠ k → deepOf s' j = deepOf s j ∧ placeOf s' j = placeOf s j) :
  ∃ w', (Instr.mapUpdate 96 (.map (some b)) (.int .i64 k) (.agg #[.int .i64 d, .int .i64 a])).run Tryd.prog w = .ok () w' ∧ KnAt w' b s' ∧ Mod (· = b) w w' := by
 obtain ⟨D, ho, hf⟩ := h
 obtain ⟨w', hrun, ho', ht⟩ := ho.store keyed3 Tryd.underlying96 hn (keyOf_int_mk Tryd.underlying3 hk) (knownElem_mk d a)
 refine ⟨w', hrun, ⟨_, by rw [hl]; exact ho', fun j hj => ?_⟩, mod_turned ht⟩
 by_cases e : j = k
 ·subst e
  rw [Maps.atKey_put_same ho.isMap (show WideAt.IsKeyLit (Lit.int .i64 j) from trivial), h1.1, h1.2]
 ·have hne : Lit.int .i64 j ≠ Lit.int .i64 k := fun h => e (by injection h)
  rw [Maps.atKey_put_other hne, (h2 j e).1, (h2 j e).2]
  exact hf j hj
end
structure Cx where
 B : Nat
 pb : Nat
 bb : Nat
 mb : Nat
 n : Nat
 c : Nat
 A : Option Addr
 L : List TokD
abbrev Cx.p (X : Cx) : Value := .pointer (some ⟨X.pb, 0, none⟩)
structure PAt (X : Cx) (F : Nat → Prop) (w : World) (s : PS) : Prop where
 p : Blk w X.pb 98 (pcs X.bb (.slice X.A X.n X.c) X.mb s)
 l : Rd w X.A X.n X.c 4 (X.L.flatMap tcs)
 la : ∀ b o, X.A = some ⟨b, o, none⟩ → b < X.B
 pB : X.B ≤ X.pb
 bB : X.B ≤ X.bb
 mB : X.B ≤ X.mb
 wB : X.B ≤ w.heap.size
 t : ∃ v, Blk w X.bb 71 #[v] ∧ (∀ g, v.ownBlock = some g → X.B ≤ g) ∧ RowN F w v s.ns
 m : KnAt w X.mb s
 at_ : s.at_ ≤ X.n
 dl : s.dp.length = s.ns.length
 tab : Asp w
 ln : X.L.length = X.n
 b0 : 0 < X.B
 big : X.n ≤ 274877906944
 ts : ∀ t ∈ X.L, t.s.size ≤ maxLen
 fl : ∀ k, F k → k < w.heap.size
theorem asp_block {w w' : World} (h : Asp w) (h0 : w'.heap[0]? = w.heap[0]?) : Asp w' := by
 have hg : Tryd.prog.globalNamed "strings.asciiSpace" = some 0 := by kernel_rfl
 unfold Asp Lib.TabIs World.var? at h ⊢
 rw [hg] at h ⊢
 simp only [Option.bind_some] at h ⊢
 rw [h0]
 exact h
section
variable {X : Cx} {F F' : Nat → Prop} {w w' : World} {s s' : PS}
theorem PAt.at1 (h : PAt X F w s) : s.at_ + 1 ≤ 9223372036854775807 := by have := h.at_; have := h.big; omega
theorem PAt.at9 (h : PAt X F w s) {k : Nat} (hk : k ≤ 9) : s.at_ + k ≤ 9223372036854775807 := by have := h.at_; have := h.big; omega
theorem PAt.lt (h : PAt X F w s) : X.pb < w.heap.size ∧ X.bb < w.heap.size ∧ X.mb < w.heap.size := ⟨h.p.lt, by obtain ⟨v, hv, _⟩ := h.t; exact hv.lt, h.m.lt⟩
theorem PAt.bel (h : PAt X F w s) (hb : Below w.heap.size w w') (hF : ∀ k, F' k → F k ∨ w.heap.size ≤ k) (hl : ∀ k, F' k → k < w'.heap.size) : PAt X F' w' s := by
 obtain ⟨v, h1, h2, h3⟩ := h.t
 refine ⟨h.p.bel hb, h.l.bel hb, h.la, h.pB, h.bB, h.mB, Nat.le_trans h.wB hb.size, ⟨v, h1.bel hb, h2, ?_⟩, h.m.keep (hb.block _ h.m.lt) rfl rfl, h.at_, h.dl, h.tab.below hb, h.ln, h.b0, h.big, h.ts, hl⟩
 obtain ⟨Z, e, z1, z2⟩ := h3
 exact RowN.keep ⟨Z, e, z1, z2⟩ (fun b hbv => hb.block b (z1.lt hbv)) (fun k cs hk _ _ => hb.block k hk) (fun k hk hf => (hF k hf).resolve_right (by omega))
theorem PAt.bel_ (h : PAt X F w s) (hb : Below w.heap.size w w') : PAt X F w' s := h.bel hb (fun _ => .inl) fun k hk => Nat.lt_of_lt_of_le (h.fl k hk) hb.size
theorem PAt.less (h : PAt X F w s) (hF : ∀ k, F' k → F k) : PAt X F' w s := h.bel (Below.refl _ _) (fun k hk => .inl (hF k hk)) fun k hk => h.fl k (hF k hk)
theorem PAt.turn (h : PAt X F w s) (hp : Blk w' X.pb 98 (pcs X.bb (.slice X.A X.n X.c) X.mb s')) (hm : Mod (· = X.pb) w w') (hn : s'.ns = s.ns) (hd : s'.dp = s.dp) (ha : s'.at_ ≤ X.n) : PAt X F w' s' ∧ Keeps X.B w w' := by
 obtain ⟨v, h1, h2, h3⟩ := h.t
 have hpb := h.p
 have nb : ∀ {k : Nat} {t : TypeId} {cs : Array Value}, Blk w k t cs → t ≠ 98 → k ≠ X.pb := fun hb ht => hb.ne_ hpb ht
 refine ⟨⟨hp, h.l.keep hm.size fun b o e hb => hm.block b hb fun e2 => ?_, h.la, h.pB, h.bB, h.mB, Nat.le_trans h.wB hm.size, ⟨v, h1.mod hm (nb h1 (by decide)), h2, ?_⟩, h.m.keep (hm.block _ h.m.lt fun e => ?_) hn hd, ha, by rw [hn, hd]; exact h.dl, asp_block h.tab (hm.block 0 ?_ ?_), h.ln, h.b0, h.big, h.ts, fun k hk => Nat.lt_of_lt_of_le (h.fl k hk) hm.size⟩, ?_⟩
 ·have := h.la b o e
  have := h.pB
  omega
 ·rw [hn]
  obtain ⟨Z, e, z1, z2⟩ := h3
  refine RowN.keep ⟨Z, e, z1, z2⟩ (fun b hbv => hm.block b (z1.lt hbv) fun e2 => ?_) (fun k cs hk _ hc => hm.block k hk (nb (t := 3) hc (by decide))) (fun k hk hf => hf)
  subst e2
  exact own_blk_ne z1 hpb (by decide) hbv
 ·obtain ⟨es, clock, em⟩ := h.m.isMap
  unfold Blk at hpb
  rw [e, hpb] at em
  cases em
 ·have := hpb.lt
  omega
 ·have := h.b0
  have := h.pB
  omega
 ·exact KeepE.of_mod hm fun k hk e => .inr ⟨by rw [e]; exact h.pB, fun cs t hc => by
   rw [e] at hc
   unfold Blk at hpb
   rw [hpb] at hc
   injection hc with hc
   injection hc with _ ht
   exact .inr (.inl ht.symm)⟩
end
end
section
open Go.RowKit
set_option linter.unusedVariables false
set_option linter.unusedSimpArgs false
theorem info_Int : (Tryd.prog.info? 3).map (fun i => (i.zero, i.size, i.bytes)) = some (some (.int .i64 0), 1, 8) := by kernel_rfl
theorem info_Node : (Tryd.prog.info? 51).map (fun i => (i.zero, i.size, i.bytes)) = some (some (.agg #[.int .i64 0, .int .i64 0, .string ⟨#[]⟩, .int .i64 0, .slice none 0 0]), 5, 64) := by kernel_rfl
section
variable {ops : Array Oper} {rest : List Oper} {o : Oper} {a : Act} {Q : Exit → Act → World → Prop}
theorem wpList_appendN (w : World) (hgd : o.guard = none) (s x : Operand) (ho : o.op = .call { callee := .builtin .append, args := #[s, x], argTypes := #[22, 22] })
  (v : Value) (xs : List Int) (hs : a.eval s = v) (hown : OwnI w v xs) (A : Option Addr) (m c : Nat) (ys : List Int) (hx : a.eval x = .slice A m c) (hr : Rd w A m c 1 (ics ys)) (hm : ys.length = m) (hbound : xs.length + m ≤ 4398046511104)
  (h : ∀ v' w', OwnI w' v' (xs ++ ys) → w.grownBy w' v.ownBlock → (v'.ownBlock = v.ownBlock ∨ v'.ownBlock = some w.heap.size) → wpList Tryd.prog ops Q rest (a.put o.dst v') w') : wpList Tryd.prog ops Q (o :: rest) a w := by
 obtain ⟨i0, hi, hz0, hz1, hz2⟩ := info_parts info_Int
 refine wpList_append_Own w hgd s x _ ho _ i0 _ 1 8 Tryd.underlying22 hi hz0 hz1 hz2 rfl v xs.length (ics xs) hs hown A m c (ics ys) hx hr (ics_oneCell ys) (by omega) (by omega) (fun v' w' h1 h2 h3 => h v' w' ?_ h2 h3)
 unfold OwnI
 rw [List.length_append, ics_append, hm]
 exact h1
theorem step_appendNode (w : World) {K : Act → World → Prop} {E : Prop} (hgd : o.guard = none) (s x : Operand) (ho : o.op = .call { callee := .builtin .append, args := #[s, x], argTypes := #[25, 25] })
  (v : Value) (Z : List NdS) (hs : a.eval s = v) (hown : Own w 51 5 v Z.length (Z.flatMap NdS.cs)) (A : Option Addr) (c : Nat) (z : NdS) (hx : a.eval x = .slice A 1 c) (hr : Rd w A 1 c 5 z.cs) (hbound : Z.length + 1 ≤ 1099511627776)
  (h : ∀ v' w', Own w' 51 5 v' (Z ++ [z]).length ((Z ++ [z]).flatMap NdS.cs) → w.grownBy w' v.ownBlock → (v'.ownBlock = v.ownBlock ∨ v'.ownBlock = some w.heap.size) → K (a.put o.dst v') w') :
  if Region.wanted o (yielded ops a.tmps) = true then Oper.wp Tryd.prog o a w K Q else E := by
 obtain ⟨i0, hi, hz0, hz1, hz2⟩ := info_parts info_Node
 refine step_append_Own w hgd s x _ ho _ i0 _ 5 64 Tryd.underlying25 hi hz0 hz1 hz2 rfl v Z.length (Z.flatMap NdS.cs) hs hown A 1 c z.cs hx hr ?_ (by omega) (by omega) (fun v' w' h1 h2 h3 => h v' w' ?_ h2 h3)
 ·intro u hu
  simp only [NdS.cs, NdS.v, List.mem_cons, List.not_mem_nil, or_false] at hu
  rcases hu with rfl | rfl | rfl | rfl | rfl <;> rfl
 ·rw [List.length_append, List.flatMap_append, List.flatMap_singleton]
  exact h1
end
theorem Rd.one {w : World} {t : TypeId} {x : Value} : Rd (w.alloc (.cells #[x] t)) (some ⟨w.heap.size, 0, none⟩) 1 1 1 [x] :=
 ⟨Nat.le_refl _, by omega, rfl, fun _ => ⟨w.heap.size, 0, rfl, by simp, fun j u hj => by
  rw [Nat.zero_add, (Blk.new w t _).cell]
  simpa using hj⟩⟩
def keepK (n : Nat) (kids : List Int) : List Int := kids.filter fun k => decide (0 ≤ k ∧ k < n)
theorem keepK_snoc (n : Nat) (kids : List Int) (j : Nat) (k : Int) (h : kids[j]? = some k) : keepK n (kids.take (j + 1)) = if 0 ≤ k ∧ k < n then keepK n (kids.take j) ++ [k] else keepK n (kids.take j) := by
 unfold keepK
 rw [List.take_add_one, h, List.filter_append]
 by_cases hk : 0 ≤ k ∧ k < (n : Int)
 ·rw [if_pos hk]
  congr 1
  simp [hk.1, hk.2]
 ·rw [if_neg hk]
  simp only [Option.toList_some, List.filter_cons, List.filter_nil]
  rw [if_neg (by simpa using hk), List.append_nil]
theorem Rd.node {w : World} {z : NdS} : Rd (w.alloc (.cells z.cs.toArray 51)) (some ⟨w.heap.size, 0, none⟩) 1 1 5 z.cs :=
 ⟨Nat.le_refl _, by omega, rfl, fun _ => ⟨w.heap.size, 0, rfl, by simp, fun j u hj => by
  rw [Nat.zero_add, (Blk.new w 51 _).cell]
  simpa using hj⟩⟩
theorem badd_fin {w wr W' w6 : World} {F : Nat → Prop} {bb : Nat} {v v6 : Value} {Z : List NdS} {z : NdS} {ns : List NodeD} (hB : Below w.heap.size w wr) (hW : Below wr.heap.size wr W') (hN : Blk w bb 71 #[v]) (hO : Own w 51 5 v Z.length (Z.flatMap NdS.cs))
  (hzl : z.x.kids.length ≤ 4398046511103) (hA : ∀ z ∈ Z, OwnI w z.v z.x.kids ∧ (∀ b, z.v.ownBlock = some b → ¬ F b) ∧ z.x.kids.length ≤ 4398046511103) (hZ : Z.map (·.x) = ns) (hF : ∀ k, F k → k < w.heap.size) (hz : OwnI wr z.v z.x.kids) (hv : ∀ g, z.v.ownBlock = some g → w.heap.size < g)
  (h6 : Own w6 51 5 v6 (Z ++ [z]).length ((Z ++ [z]).flatMap NdS.cs)) (hg : W'.grownBy w6 v.ownBlock) (hn : v6.ownBlock = v.ownBlock ∨ v6.ownBlock = some W'.heap.size) :
  Blk (w6.setCell ⟨bb, 0, none⟩ v6) bb 71 #[v6] ∧ (∀ g, v6.ownBlock = some g → v.ownBlock = some g ∨ w.heap.size ≤ g) ∧ RowN F (w6.setCell ⟨bb, 0, none⟩ v6) v6 (ns ++ [z.x]) ∧ Mod (fun k => k = bb ∨ v.ownBlock = some k) w (w6.setCell ⟨bb, 0, none⟩ v6) := by
 have hBW : Below w.heap.size w W' := hB.trans (hW.mono hB.size)
 have hs := hB.size
 have hs2 := hW.size
 have hNW := hN.bel hBW
 have hOW : Own W' 51 5 v Z.length (Z.flatMap NdS.cs) := hO.new hBW
 have hrow : v.ownBlock ≠ some bb := own_blk_ne hOW hNW (by decide)
 have hN6 : Blk w6 bb 71 #[v] := hNW.grown hg (fun e => hrow e.symm)
 have kid : ∀ {y : Value} {xs : List Int}, OwnI W' y xs → OwnI (w6.setCell ⟨bb, 0, none⟩ v6) y xs := by
  intro y xs hy
  unfold OwnI at hy ⊢
  refine Own.keep (w := w6) (Own.keep hy fun b hb => hg.block b (hy.lt hb) fun e => ?_) fun b hb => Below.heap_setCell w6 _ _ b ?_
  ·exact own_own_ne hy hOW (by decide) hb e.symm
  ·rintro rfl
   exact own_blk_ne hy hNW (by decide) hb
 refine ⟨hN6.set_ 0 v6, fun g hg6 => ?_, ⟨Z ++ [z], by rw [List.map_append, hZ]; rfl, ?_, fun y hy => ?_⟩, ?_⟩
 ·rcases hn with e | e
  ·exact .inl (e ▸ hg6)
  ·rw [e] at hg6
   injection hg6 with hg6
   exact .inr (by omega)
 ·refine Own.keep h6 fun b hb => Below.heap_setCell w6 _ _ b ?_
  rintro rfl
  exact own_blk_ne h6 hN6 (by decide) hb
 ·rcases List.mem_append.1 hy with hy | hy
  ·obtain ⟨h1, h2⟩ := hA y hy
   exact ⟨kid (h1.bel hBW), h2⟩
  ·rw [List.mem_singleton.1 hy]
   exact ⟨kid (hz.bel hW), fun b hb hf => by have := hv b hb; have := hF b hf; omega, hzl⟩
 ·refine Mod.setCell (p := ⟨bb, 0, none⟩) ?_ (fun _ => .inl rfl) _
  exact ⟨hg.os.trans hBW.os, hg.tape.trans hBW.tape, hg.output.trans hBW.output, Nat.le_trans hBW.size hg.size, fun i hi hne => (hg.block i (Nat.lt_of_lt_of_le hi hBW.size) (fun e => hne (.inr e.symm))).trans (hBW.block i hi)⟩
theorem badd_any {w : World} {F : Nat → Prop} {bb k c : Nat} {v : Value} {A : Option Addr} {ns : List NodeD} {kids : List Int} (hb : Blk w bb 71 #[v]) (hv : RowN F w v ns) (hF : ∀ k, F k → k < w.heap.size) (hns : ns.length + 1 ≤ 1099511627776)
  (hk : Rd w A k c 1 (ics kids)) (hkl : kids.length = k) (hkb : k ≤ 4398046511103) (op at_ n : Int) (t : ByteArray) :
  Calls Tryd.prog 97 #[.pointer (some ⟨bb, 0, none⟩), .int .i64 op, .int .i64 at_, .string t, .int .i64 n, .slice A k c] w fun e w' => e = .returned (.int .i64 ns.length) ∧
   ∃ v', Blk w' bb 71 #[v'] ∧ (∀ g, v'.ownBlock = some g → v.ownBlock = some g ∨ w.heap.size ≤ g) ∧ RowN F w' v' (ns ++ [⟨op, at_, t, n, kids.filter fun k => decide (0 ≤ k ∧ k < ns.length)⟩]) ∧ Mod (fun k => k = bb ∨ v.ownBlock = some k) w w' := by
 obtain ⟨Z, hZ, hown, hall⟩ := hv
 have hZl : Z.length = ns.length := by rw [← hZ, List.length_map]
 have HZL := qh hZl
 have HN := qh hb
 have HO := qh hown
 have HK := qh hk
 have HA := qh hall
 have HZ := qh hZ
 have HF := qh hF
 obtain ⟨A', c', rfl, hr, hAo⟩ := hown.rd
 have hlt := hb.lt
 have hkq := hk.le
 have hns' : Z.length + 1 ≤ 1099511627776 := by omega
 clear hb hown hk hall hZ hr hAo hF hZl hns
 go_enter Tryd.func97, Tryd.ntmps97
 go_wp2_with fail
 go_loopw [25] (fun i wr => ∃ (j : Nat) (kv : Value), j ≤ k ∧ i = .int .i64 j ∧ Blk wr w.heap.size 51 #[.int .i64 op, .int .i64 at_, .string t, .int .i64 n, kv] ∧ OwnI wr kv (keepK ns.length (kids.take j)) ∧ (∀ g, kv.ownBlock = some g → w.heap.size < g) ∧ Below w.heap.size w wr) (fun i _ => k - (intOf i).toNat)
 case atStart => exact ⟨0, .slice none 0 0, Nat.zero_le _, rfl, Blk.new w 51 _, OwnI.nil_ _, fun g hg => (by cases hg), bl1⟩
 case round =>
  obtain ⟨j, kv, hj, rfl, hblk, hown, hkv, hbel⟩ := hrel
  generalize hL : keepK ns.length (kids.take j) = M at hown
  have HM := qh hL
  have hMl : M.length ≤ j := by
   rw [← hL]
   unfold keepK
   exact Nat.le_trans (List.length_filter_le _ _) (by rw [List.length_take]; omega)
  have HOK := qh hown
  obtain ⟨A2, c2, rfl, _, hA2⟩ := Own.rd hown
  have hcb : wr.cell? ⟨bb, 0, none⟩ = some (.slice A' Z.length c') := (hbel.cell (p := ⟨bb, 0, none⟩) hlt).trans (HN.out.cell 0)
  have hc4 := hblk.cell 4
  have hf4 := hblk.frozen 4
  have hltn := hblk.lt
  simp only [GG] at hc4
  have HB := qh hbel
  have HBK := qh hblk
  have HV := qh hkv
  have hbs := hbel.size
  clear hblk hown hkv hA2 hL
  by_cases hlt2 : j < k
  ·obtain ⟨b, o, rfl, hb, hc⟩ := (HK.out.bel hbel).2.2.2 (by omega)
   obtain ⟨x, hx⟩ : ∃ x, kids[j]? = some x := ⟨_, List.getElem?_eq_getElem (by omega)⟩
   have hce : wr.cell? ⟨b, o + j, none⟩ = some (.int .i64 x) := hc j _ (by rw [ics, List.getElem?_map, hx]; rfl)
   have HX := qh hx
   clear hx hc hbel
   by_cases h0 : 0 ≤ x
   ·have d0 : decide (0 ≤ x) = true := decide_eq_true h0
    by_cases h1 : x < (Z.length : Int)
    ·have d1 : decide (x < (Z.length : Int)) = true := decide_eq_true h1
     go_wp2_with (at_builtin; go_must (refine wpList_appendN _ rfl _ _ rfl _ M rfl (HOK.out.bel (Below.alloc (Below.refl _ _) (Nat.le_refl _) _)) _ 1 1 [x] rfl Rd.one rfl (by simp; omega) ?_); intro v6 w6 ho6 hg6 hn6; generalize hG : M ++ [x] = G at ho6; have HG := qh hG; obtain ⟨A6, c6, rfl, -, -⟩ := Own.rd ho6; clear hG; go_must (have hb6 : Below w.heap.size w w6 := (HB.out.alloc HB.out.size _).grown hg6 (by simp; omega) (fun g hg => Nat.le_of_lt (HV.out g hg)); have hbk6 : Blk w6 w.heap.size 51 _ := ((HBK.out.alloc (.cells #[.int .i64 x] 3)).grown hg6 (fun e => absurd (HV.out _ e.symm) (by omega)))); have hc64 := hbk6.cell 4; have hf64 := hbk6.frozen 4; have hlt6 := hbk6.lt; simp only [GG] at hc64; have HO6 := qh ho6; have HB6 := qh hb6; have HBK6 := qh hbk6; have HN6 := qh hn6; clear ho6 hg6 hn6 hb6 hbk6)
     go_round
     case rel =>
      refine ⟨j + 1, _, by omega, by go_num, HBK6.out.set_ 4 (.slice A6 G.length c6), ?_, ?_, ?_⟩
      ·rw [keepK_snoc _ _ _ _ HX.out, if_pos ⟨h0, by have := HZL.out; omega⟩, HM.out, HG.out]
       have h9 := HO6.out
       refine Own.keep h9 fun b9 e9 => Below.heap_setCell w6 _ _ b9 ?_
       rintro rfl
       exact own_blk_ne h9 HBK6.out (by decide) e9
      ·intro g hg
       rcases HN6.out with e9 | e9
       ·exact HV.out g (e9 ▸ hg)
       ·rw [e9] at hg
        injection hg with hg
        rw [← hg]
        simp
        omega
      ·exact HB6.out.setCell (by simp) _
     case measure => simp [intOf]; omega
    ·have d1 : decide (x < (Z.length : Int)) = false := decide_eq_false h1
     go_wp2_with fail
     go_round
     case rel =>
      refine ⟨j + 1, _, by omega, by go_num, HBK.out, ?_, HV.out, HB.out⟩
      rw [keepK_snoc _ _ _ _ HX.out, if_neg (by have := HZL.out; omega), HM.out]
      exact HOK.out
     case measure => simp [intOf]; omega
   ·have d0 : decide (0 ≤ x) = false := decide_eq_false h0
    go_wp2_with fail
    go_round
    case rel =>
     refine ⟨j + 1, _, by omega, by go_num, HBK.out, ?_, HV.out, HB.out⟩
     rw [keepK_snoc _ _ _ _ HX.out, if_neg (by have := HZL.out; omega), HM.out]
     exact HOK.out
    case measure => simp [intOf]; omega
  ·obtain rfl : j = k := by omega
   have q0 := hc4
   have b0 := HBK.out.cell 0
   have b1 := HBK.out.cell 1
   have b2 := HBK.out.cell 2
   have b3 := HBK.out.cell 3
   simp only [GG] at b0 b1 b2 b3
   have hOw : Own wr 51 5 (.slice A' Z.length c') Z.length (Z.flatMap NdS.cs) := HO.out.new hbel
   have HOW := qh hOw
   have HBEL := qh hbel
   have hnb : ∀ W' w6, W'.grownBy w6 (Value.slice A' Z.length c').ownBlock → Below wr.heap.size wr W' → Blk w6 bb 71 #[.slice A' Z.length c'] := fun W' w6 hg hB => ((HN.out.bel hbel).bel hB).grown hg fun e => own_blk_ne HO.out HN.out (by decide) e.symm
   have HNB := qh hnb
   have hlb : bb < wr.heap.size := by omega
   clear hOw hbel hnb
   go_wp2_with fail
   generalize hG : (Z ++ [(⟨⟨op, at_, t, n, M⟩, A2, c2⟩ : NdS)]) = G
   have HG := qh hG
   clear hG
   go_region_law (refine step_appendNode _ rfl (.tmp 51) (.tmp 53) rfl (.slice A' Z.length c') Z rfl (by exact HOW.out.new bl1d) _ 1 ⟨⟨op, at_, t, n, M⟩, A2, c2⟩ rfl (by exact Rd.node) (by omega) ?_; intro v6 w6 ho6 hg6 hn6; rw [HG.out] at ho6; obtain ⟨A6, c6, rfl, -, -⟩ := Own.rd ho6; have hbk6 := HNB.out _ _ hg6 bl1d; have hq6 := hbk6.cell 0; have hf6 := hbk6.frozen 0; have hlt6 := hbk6.lt; have HBK6 := qh hbk6; simp only [GG] at hq6; have HO6 := qh ho6; have HG6 := qh hg6; have HN6 := qh hn6; clear ho6 hg6 hn6 hbk6)
   all_goals
    go_wp2
    go_ret
    have hl := HZL.out
    have hgl : G.length = Z.length + 1 := by rw [← HG.out, List.length_append]; rfl
    refine ⟨ret_int ?_, .slice A6 G.length c6, ?_⟩
    ·show wrap64 ((G.length : Int) - 1) = _
     rw [show wrap64 ((G.length : Int) - 1) = (G.length : Int) - 1 from IntWalk.wrap64_in _ (by omega)]
     omega
    ·have hm := HM.out
     rw [List.take_of_length_le (Nat.le_of_eq hkl)] at hm
     have e : (⟨op, at_, t, n, kids.filter fun k => decide (0 ≤ k ∧ k < ns.length)⟩ : NodeD) = (⟨⟨op, at_, t, n, M⟩, A2, c2⟩ : NdS).x := by
      rw [← hm]
      rfl
     rw [e]
     exact badd_fin (z := ⟨⟨op, at_, t, n, M⟩, A2, c2⟩) HBEL.out bl1d HN.out HO.out (by show M.length ≤ 4398046511103; omega) HA.out HZ.out HF.out HOK.out HV.out (by rw [HG.out]; exact HO6.out) HG6.out HN6.out
end
section
open Go.RowKit
set_option linter.unusedVariables false
set_option linter.unusedSimpArgs false
theorem deepest_snoc (s : PS) (kids : List Int) (j : Nat) (x : Int) (h : kids[j]? = some x) : deepest s (kids.take (j + 1)) = max (deepest s (kids.take j)) (deepOf s x) := by
 unfold deepest
 rw [List.take_add_one, h, List.foldl_append]
 rfl
theorem deepest_pos (s : PS) (kids : List Int) : 0 ≤ deepest s kids := by
 unfold deepest
 have : ∀ (l : List Int) (m : Int), 0 ≤ m → 0 ≤ l.foldl (fun m k => max m (deepOf s k)) m := by
  intro l
  induction l with
  | nil => exact fun m h => h
  | cons x l ih => exact fun m h => ih _ (show 0 ≤ max m (deepOf s x) by omega)
 exact this kids 0 (by omega)
theorem wf_of {x : Int} (h : -1 ≤ x ∧ x ≤ 4611686018427387904) : (Lit.int .i64 x).wf = true := by
 simp only [Lit.wf, IntKind.min, IntKind.max, IntKind.signed, IntKind.bits, Bool.and_eq_true, decide_eq_true_eq, if_true]
 omega
def Ret (X : Cx) (F : Nat → Prop) (w : World) (r : PS × Int) (e : Ending) (w' : World) : Prop := e = .returned (.int .i64 r.2) ∧ PAt X F w' r.1 ∧ Keeps X.B w w'
theorem fail_ret {X : Cx} {F : Nat → Prop} {w : World} {s : PS} (h : PAt X F w s) (e at_ : Int) : Calls Tryd.prog 96 #[X.p, .int .i64 e, .int .i64 at_] w fun r w' => r = .returned (.int .i64 (-1)) ∧ PAt X F w' (failP s e at_) ∧ Keeps X.B w w' := by
 refine (fail_any h.p e at_).mono ?_
 rintro r w' ⟨rfl, hp, hm⟩
 have h1 : (failP s e at_).ns = s.ns ∧ (failP s e at_).dp = s.dp ∧ (failP s e at_).at_ = s.at_ := by unfold failP; split <;> exact ⟨rfl, rfl, rfl⟩
 obtain ⟨h2, h3⟩ := h.turn hp hm h1.1 h1.2.1 (by rw [h1.2.2]; exact h.at_)
 exact ⟨rfl, h2, h3⟩
theorem add_fin {X : Cx} {F : Nat → Prop} {w w1 : World} {s s' : PS} {v v' : Value} (h : PAt X F w s) (hv : Blk w X.bb 71 #[v]) (hr : RowN F w v s.ns) (hvB : ∀ g, v.ownBlock = some g → X.B ≤ g)
  (hb : Blk w1 X.bb 71 #[v']) (hv' : ∀ g, v'.ownBlock = some g → v.ownBlock = some g ∨ w.heap.size ≤ g) (hr' : RowN F w1 v' s'.ns) (hm : Mod (fun k => k = X.bb ∨ v.ownBlock = some k) w w1)
  (hat : s'.at_ = s.at_) (hbad : s'.bad = s.bad) (he : s'.e = s.e) (hdl : s'.dp.length = s'.ns.length) {w2 : World} (hk : KnAt w2 X.mb s') (hm2 : Mod (· = X.mb) w1 w2) : PAt X F w2 s' ∧ Keeps X.B w w2 := by
 obtain ⟨Z, eZ, z1, z2⟩ := hr
 obtain ⟨es, clock, em⟩ := h.m.isMap
 have hpb := h.p
 have nB : X.pb ≠ X.bb := hpb.ne_ hv (by decide)
 have nV : v.ownBlock ≠ some X.pb := own_blk_ne z1 hpb (by decide)
 have mp : X.pb ≠ X.mb := fun e => by unfold Blk at hpb; rw [e, em] at hpb; cases hpb
 have mb : X.bb ≠ X.mb := fun e => by unfold Blk at hv; rw [e, em] at hv; cases hv
 have mv : v.ownBlock ≠ some X.mb := fun e => by
  rcases z1.2 with ⟨rfl, _⟩ | ⟨g, c, cur, rfl, hg, _⟩
  ·cases e
  ·obtain rfl : g = X.mb := by simpa [Value.ownBlock] using e
   rw [em] at hg
   cases hg
 have hp2 : Blk w2 X.pb 98 (pcs X.bb (.slice X.A X.n X.c) X.mb s') := by
  have e1 : pcs X.bb (.slice X.A X.n X.c) X.mb s' = pcs X.bb (.slice X.A X.n X.c) X.mb s := by unfold pcs; rw [hat, hbad, he]
  rw [e1]
  exact (hpb.mod hm (by rintro (e | e); exact nB e; exact nV e)).mod hm2 mp
 have hb2 : Blk w2 X.bb 71 #[v'] := hb.mod hm2 mb
 have kb : ∀ k, k < w.heap.size → ¬ (k = X.bb ∨ v.ownBlock = some k) → k ≠ X.mb → w2.heap[k]? = w.heap[k]? := fun k hk h1 h2 => (hm2.block k (Nat.lt_of_lt_of_le hk hm.size) h2).trans (hm.block k hk h1)
 have low : ∀ k, k < X.B → ¬ (k = X.bb ∨ v.ownBlock = some k) ∧ k ≠ X.mb := fun k hk => ⟨by
  rintro (e | e)
  ·have := h.bB; omega
  ·have := hvB k e; omega, by have := h.mB; omega⟩
 have hs : w.heap.size ≤ w2.heap.size := Nat.le_trans hm.size hm2.size
 refine ⟨⟨hp2, h.l.keep hs fun b o e hb => kb b hb (low b (h.la b o e)).1 (low b (h.la b o e)).2, h.la, h.pB, h.bB, h.mB, Nat.le_trans h.wB hs, ⟨v', hb2, fun g hg => ?_, ?_⟩, hk, by rw [hat]; exact h.at_, hdl, asp_block h.tab (kb 0 ?_ (low 0 h.b0).1 (low 0 h.b0).2), h.ln, h.b0, h.big, h.ts, fun k hk => Nat.lt_of_lt_of_le (h.fl k hk) hs⟩, ?_⟩
 ·rcases hv' g hg with e | e
  ·exact hvB g e
  ·have := h.wB; omega
 ·obtain ⟨Z', e', y1, y2⟩ := hr'
  refine RowN.keep ⟨Z', e', y1, y2⟩ (fun b hb => hm2.block b (y1.lt hb) fun e => ?_) (fun k cs hk _ hc => hm2.block k hk fun e => ?_) (fun k _ hf => hf)
  ·rw [e] at hb
   rcases hv' _ hb with e2 | e2
   ·exact mv e2
   ·have := h.m.lt; omega
  ·have h1 := hk
   rw [e] at hc
   have h9 := hm.block X.mb h.m.lt (by rintro (e2 | e2); exact mb e2.symm; exact mv e2)
   rw [h9, em] at hc
   cases hc
 ·have := h.wB; have := h.b0; omega
 ·refine KeepE.of_mod (S := fun k => (k = X.bb ∨ v.ownBlock = some k) ∨ k = X.mb) (Mod.trans (Mod.mono hm fun _ _ => .inl) hm2 fun _ _ e => .inr e) fun k hk hS => .inr ?_
  rcases hS with (e | e) | e
  ·rw [e]
   refine ⟨h.bB, fun cs t hc => .inr (.inr ?_)⟩
   unfold Blk at hv
   rw [hv] at hc
   injection hc with hc
   injection hc with _ ht
   exact ht.symm
  ·refine ⟨hvB k e, fun cs t hc => .inl ?_⟩
   rcases z1.2 with ⟨rfl, _⟩ | ⟨g, c, cur, rfl, hg, _⟩
   ·cases e
   ·obtain rfl : g = k := by simpa [Value.ownBlock] using e
    rw [hg] at hc
    injection hc with hc
    injection hc with _ ht
    exact ht.symm
  ·rw [e]
   refine ⟨h.mB, fun cs t hc => ?_⟩
   rw [em] at hc
   cases hc
theorem add_mid {X : Cx} {F : Nat → Prop} {w w1 : World} {s : PS} {v : Value} (h : PAt X F w s) (hv : Blk w X.bb 71 #[v]) (hr : RowN F w v s.ns) (hm : Mod (fun k => k = X.bb ∨ v.ownBlock = some k) w w1) : KnAt w1 X.mb s ∧ Blk w1 X.pb 98 (pcs X.bb (.slice X.A X.n X.c) X.mb s) := by
 obtain ⟨Z, eZ, z1, z2⟩ := hr
 obtain ⟨es, clock, em⟩ := h.m.isMap
 have hpb := h.p
 have nB : X.pb ≠ X.bb := hpb.ne_ hv (by decide)
 have nV : v.ownBlock ≠ some X.pb := own_blk_ne z1 hpb (by decide)
 have mb : X.bb ≠ X.mb := fun e => by unfold Blk at hv; rw [e, em] at hv; cases hv
 have mv : v.ownBlock ≠ some X.mb := fun e => by
  rcases z1.2 with ⟨rfl, _⟩ | ⟨g, c, cur, rfl, hg, _⟩
  ·cases e
  ·obtain rfl : g = X.mb := by simpa [Value.ownBlock] using e
   rw [em] at hg
   cases hg
 exact ⟨h.m.keep (hm.block _ h.m.lt (by rintro (e | e); exact mb e.symm; exact mv e)) rfl rfl, hpb.mod hm (by rintro (e | e); exact nB e; exact nV e)⟩
theorem deepOf_new {s : PS} {x : NodeD} {d : Int} (hdl : s.dp.length = s.ns.length) : (deepOf { s with ns := s.ns ++ [x], dp := s.dp ++ [d] } s.ns.length = d ∧ placeOf { s with ns := s.ns ++ [x], dp := s.dp ++ [d] } s.ns.length = x.at_) ∧
  ∀ j : Int, j ≠ s.ns.length → deepOf { s with ns := s.ns ++ [x], dp := s.dp ++ [d] } j = deepOf s j ∧ placeOf { s with ns := s.ns ++ [x], dp := s.dp ++ [d] } j = placeOf s j := by
 refine ⟨⟨?_, ?_⟩, fun j hj => ⟨?_, ?_⟩⟩
 ·unfold deepOf
  rw [if_neg (by omega)]
  simp [← hdl]
 ·unfold placeOf
  rw [if_neg (by omega)]
  simp
 ·unfold deepOf
  simp only
  split
  ·rfl
  ·rename_i h0
   by_cases h1 : j.toNat < s.dp.length
   ·rw [List.getElem?_append_left h1]
   ·rw [List.getElem?_eq_none (by simp; omega), List.getElem?_eq_none (by omega)]
 ·unfold placeOf
  simp only
  split
  ·rfl
  ·rename_i h0
   by_cases h1 : j.toNat < s.ns.length
   ·rw [List.getElem?_append_left h1]
   ·rw [List.getElem?_eq_none (by simp; omega), List.getElem?_eq_none (by omega)]
theorem fld0 (u v : Value) (w : World) : (Instr.field 115 (.agg #[u, v]) 0).run Tryd.prog w = .ok u w := by kernel_rfl
theorem fld1 (u v : Value) (w : World) : (Instr.field 115 (.agg #[u, v]) 1).run Tryd.prog w = .ok v w := by kernel_rfl
theorem add_any {X : Cx} {F : Nat → Prop} {w : World} {s : PS} {A : Option Addr} {k c : Nat} {kids : List Int} (h : PAt X F w s) (hk : Rd w A k c 1 (ics kids)) (hkl : kids.length = k) (hkb : k ≤ 4398046511103) (hin : ∀ x ∈ kids, -1 ≤ x ∧ x ≤ 4611686018427387904)
  (op at_ n : Int) (t : ByteArray) (hcap : (addP s op at_ t n kids).1.ns.length ≤ 1099511627776) :
  Calls Tryd.prog 79 #[X.p, .int .i64 op, .int .i64 at_, .string t, .int .i64 n, .slice A k c] w (Ret X F w (addP s op at_ t n kids)) := by
 unfold Ret
 have HP := qh h
 have HK := qh hk
 have hM := qh h.m
 have hlt := h.lt.1
 have c5 := h.p.cell 5
 have c4 := h.p.cell 4
 have c2 := h.p.cell 2
 have c0 := h.p.cell 0
 simp only [pcs, GG] at c5 c4 c2 c0
 have HI := qh hin
 have HC := qh hcap
 have hkq := hk.le
 clear h hk hin hcap
 go_enter Tryd.func79, Tryd.ntmps79
 go_wp2_with fail
 go_loopw [13, 19] (fun d i wr => ∃ j : Nat, j ≤ k ∧ i = .int .i64 j ∧ d = .int .i64 (deepest s (kids.take j)) ∧ wr = w) (fun _ i _ => k - (intOf i).toNat)
 case atStart => exact ⟨0, Nat.zero_le _, rfl, rfl, rfl⟩
 case round =>
  obtain ⟨j, hj, rfl, rfl, rfl⟩ := hrel
  by_cases hlt2 : j < k
  ·obtain ⟨b, o, rfl, hb, hc⟩ := HK.out.2.2.2 (by omega)
   obtain ⟨x, hx⟩ : ∃ x, kids[j]? = some x := ⟨_, List.getElem?_eq_getElem (by omega)⟩
   have hce : wr.cell? ⟨b, o + j, none⟩ = some (.int .i64 x) := hc j _ (by rw [ics, List.getElem?_map, hx]; rfl)
   have hlk := hM.out.look (wf_of (HI.out x (List.mem_of_getElem? hx)))
   have hf0 := fld0 (.int .i64 (deepOf s x)) (.int .i64 (placeOf s x)) wr
   have HX := qh hx
   clear hx hc
   go_wp2_with fail
   go_round
   case rel => exact ⟨j + 1, by omega, by go_num, by rw [deepest_snoc s kids j x HX.out], trivial⟩
   case measure => simp [intOf]; omega
  ·obtain rfl : j = k := by omega
   have e1 : kids.take j = kids := List.take_of_length_le (Nat.le_of_eq hkl)
   rw [e1]
   generalize hD : deepest s kids = d
   have HD := qh hD
   clear hD e1
   by_cases he : s.e = 0
   ·by_cases hd : 40 ≤ d
    ·have hd' : decide (40 ≤ d) = true := decide_eq_true hd
     have er : addP s op at_ t n kids = (failP s 32 s.at_, -1) := by unfold addP; rw [if_neg (by simpa using he), HD.out, if_pos hd]
     have ER := qh er
     clear er
     rw [he] at c4
     have K := qh (fail_ret HP.out 32 s.at_)
     go_wp2_with (go_at_call 96; refine K.out.mono ?_; rintro e w1 ⟨rfl, h1, h2⟩; have H1 := qh h1; have H2 := qh h2; clear h1 h2)
     go_ret
     rw [ER.out]
     exact ⟨rfl, H1.out, H2.out⟩
    ·have hd' : decide (40 ≤ d) = false := decide_eq_false hd
     obtain ⟨s', hS⟩ : ∃ s' : PS, s' = { s with ns := s.ns ++ [⟨op, at_, t, n, kids.filter fun k => decide (0 ≤ k ∧ k < s.ns.length)⟩], dp := s.dp ++ [d + 1] } := ⟨_, rfl⟩
     have er : addP s op at_ t n kids = (s', (s.ns.length : Int)) := by unfold addP; rw [if_neg (by simpa using he), HD.out, if_neg hd, hS]
     have hc := HC.out
     rw [er] at hc
     have ER := qh er
     rw [he] at c4
     have hl : s'.ns.length = s.ns.length + 1 := by rw [hS]; simp
     simp only at hc
     obtain ⟨v, hv, hvB, hr⟩ := HP.out.t
     have K := qh (badd_any hv hr HP.out.fl (by omega) HK.out hkl hkb op at_ n t)
     have HV := qh hv
     have HR := qh hr
     have HVB := qh hvB
     have HS := qh hS
     have HL := qh hl
     clear hv hr hvB hS hl hc er
     have hdx : 0 ≤ d ∧ d < 40 := ⟨by rw [← HD.out]; exact deepest_pos s kids, by omega⟩
     have hwd : IntKind.i64.wrap (d + 1) = d + 1 := IntWalk.i64_in _ (by omega)
     have hq := HC.out
     rw [ER.out] at hq
     simp only at hq
     rw [HL.out] at hq
     have HQ := qh hq
     clear hq
     go_wp2_with (go_at_call 97; refine K.out.mono ?_; rintro e w1 ⟨rfl, v', h1, h2, h3, h4⟩; obtain ⟨hk1, hp1⟩ := add_mid HP.out HV.out HR.out h4; have hz := deepOf_new (x := ⟨op, at_, t, n, kids.filter fun k => decide (0 ≤ k ∧ k < s.ns.length)⟩) (d := d + 1) HP.out.dl; rw [← HS.out] at hz; obtain ⟨w2, hrun, hk2, hm2⟩ := hk1.store (k := s.ns.length) (d := d + 1) (a := at_) (s' := s') (wf_of (by have := HQ.out; omega)) (by have := HQ.out; unfold maxLen; omega) HL.out hz.1 hz.2; have c15 := hp1.cell 5; have hlt1 := hp1.lt; simp only [pcs, GG] at c15; have H1 := qh h1; have H2 := qh h2; have H3 := qh h3; have H4 := qh h4; have HK2 := qh hk2; have HM2 := qh hm2; clear h1 h2 h3 h4 hk2 hm2 hk1 hp1 hz)
     go_ret
     rw [ER.out]
     have h3 := H3.out
     rw [show s.ns ++ [(⟨op, at_, t, n, kids.filter fun k => decide (0 ≤ k ∧ k < s.ns.length)⟩ : NodeD)] = s'.ns by rw [HS.out]] at h3
     exact ⟨rfl, add_fin HP.out HV.out HR.out HVB.out H1.out H2.out h3 H4.out (by rw [HS.out]) (by rw [HS.out]) (by rw [HS.out]) (by rw [HS.out]; simp [HP.out.dl]) HK2.out HM2.out⟩
   ·have he' : (s.e == 0) = false := by simpa using he
    have er : addP s op at_ t n kids = (s, -1) := by unfold addP; rw [if_pos he]
    have ER := qh er
    clear er
    go_wp2_with fail
    go_ret
    rw [ER.out]
    exact ⟨rfl, HP.out, KeepE.refl _ _ _⟩
end
section
open Go.RowKit
set_option linter.unusedVariables false
set_option linter.unusedSimpArgs false
section
variable {X : Cx} {F : Nat → Prop} {w : World} {s s' : PS}
theorem PAt.cells (h : PAt X F w s) : w.cell? ⟨X.pb, 2, none⟩ = some (.int .i64 s.at_) ∧ w.cell? ⟨X.pb, 4, none⟩ = some (.int .i64 s.e) ∧ w.cell? ⟨X.pb, 5, none⟩ = some (.map (some X.mb)) ∧ X.pb < w.heap.size := by
 have c5 := h.p.cell 5
 have c4 := h.p.cell 4
 have c2 := h.p.cell 2
 simp only [pcs, GG] at c5 c4 c2
 exact ⟨c2, c4, c5, h.lt.1⟩
abbrev Step (X : Cx) (F : Nat → Prop) (f : FuncId) (args : Array Value) (s : PS) (v : Value) (s' : PS) : Prop := ∀ w, PAt X F w s → Calls Tryd.prog f args w fun e w' => e = .returned v ∧ PAt X F w' s' ∧ Keeps X.B w w'
def Part (X : Cx) (f : FuncId) (part : Ex) : Prop := ∀ F s r, part s = some r → r.1.ns.length ≤ 1099511627776 → Step X F f #[X.p] s (.int .i64 r.2) r.1
theorem tok_step (k : Nat) (hk : k ≤ 9) : Step X F 76 #[X.p, .int .i64 k] s (tokV (tokP X.L s k)) s := fun w h => (tok_any h.p h.l h.ln k (h.at9 hk)).mono fun e w' ⟨h1, h2⟩ => ⟨h1, h.bel_ h2, KeepE.of_below _ _ h2⟩
theorem is_step (t : ByteArray) (ht : t.size ≤ maxLen) (k : Nat) (hk : k ≤ 9) : Step X F 102 #[X.p, .string t, .int .i64 k] s (.bool (isP X.L s t k)) s := fun w h => (is_any h.p h.l h.ln t ht k (h.at9 hk) h.tab).mono fun e w' ⟨h1, h2⟩ => ⟨h1, h.bel_ h2, KeepE.of_below _ _ h2⟩
theorem gr_at {d : Int} (h : PAt X F w s) (g : Gr X.L.length d s s') : s'.at_ ≤ X.n := by
 have := h.ln
 rw [← this]
 exact g.le (by rw [this]; exact h.at_)
theorem any_same (l : List ByteArray) : (anyP X.L l s).1.ns = s.ns ∧ (anyP X.L l s).1.dp = s.dp := by
 rcases any_cases (L := X.L) (s := s) l with ⟨h, _⟩ | ⟨t, _, _, h⟩ <;> rw [h] <;> exact ⟨rfl, rfl⟩
theorem any_ret {q r : Nat} {B : Option Addr} {l : List ByteArray} (h : PAt X F w s) (hB : Rd w B q r 1 (l.map Value.string)) (hl : l.length = q) (ht : ∀ t ∈ l, t.size ≤ maxLen) :
  Calls Tryd.prog 94 #[X.p, .slice B q r] w fun e w' => e = .returned (.tuple #[.string (anyP X.L l s).2.1, .bool (anyP X.L l s).2.2]) ∧ PAt X F w' (anyP X.L l s).1 ∧ Keeps X.B w w' := by
 refine (any_any h.p h.l h.ln hB hl ht h.at1 h.tab).mono ?_
 rintro e w' ⟨rfl, hp, hm⟩
 obtain ⟨h2, h3⟩ := h.turn hp hm (any_same l).1 (any_same l).2 (gr_at h (any_any_gr l))
 exact ⟨rfl, h2, h3⟩
theorem take_step_ (t : ByteArray) (ht : t.size ≤ maxLen) : Step X F 77 #[X.p, .string t] s (.bool (takeP X.L t s).2) (takeP X.L t s).1 := fun w h => by
 refine (take_any h.p h.l h.ln t ht h.at1 h.tab).mono ?_
 rintro e w' ⟨rfl, hp, hm⟩
 obtain ⟨h2, h3⟩ := h.turn hp hm (any_same [t]).1 (any_same [t]).2 (gr_at h (take_gr t))
 exact ⟨rfl, h2, h3⟩
theorem fail_same (e at_ : Int) : (failP s e at_).ns = s.ns ∧ (failP s e at_).dp = s.dp ∧ (failP s e at_).at_ = s.at_ := by unfold failP; split <;> exact ⟨rfl, rfl, rfl⟩
theorem fail_step (e at_ : Int) : Step X F 96 #[X.p, .int .i64 e, .int .i64 at_] s (.int .i64 (-1)) (failP s e at_) := fun w h => fail_ret h e at_
theorem need_same (t : ByteArray) : (needP X.L t s).ns = s.ns ∧ (needP X.L t s).dp = s.dp := by
 have h1 := any_same (X := X) (s := s) [t]
 unfold needP
 split
 ·exact h1
 ·have h2 := fail_same (s := (takeP X.L t s).1) 30 (takeP X.L t s).1.at_
  exact ⟨h2.1.trans h1.1, h2.2.1.trans h1.2⟩
theorem need_step (t : ByteArray) (ht : t.size ≤ maxLen) : Step X F 81 #[X.p, .string t] s (.tuple #[]) (needP X.L t s) := fun w h => by
 refine (need_any h.p h.l h.ln t ht h.at1 h.tab).mono ?_
 rintro e w' ⟨rfl, hp, hm⟩
 obtain ⟨h2, h3⟩ := h.turn hp hm (need_same t).1 (need_same t).2 (gr_at h (need_gr t))
 exact ⟨rfl, h2, h3⟩
theorem name_same : (nameP X.L s).1.ns = s.ns ∧ (nameP X.L s).1.dp = s.dp := by
 unfold nameP
 split
 ·exact ⟨rfl, rfl⟩
 ·exact ⟨(fail_same _ _).1, (fail_same _ _).2.1⟩
theorem name_step : Step X F 95 #[X.p] s (.string (nameP X.L s).2) (nameP X.L s).1 := fun w h => by
 refine (namep_any h.p h.l h.ln h.ts h.at1 h.tab).mono ?_
 rintro e w' ⟨rfl, hp, hm⟩
 obtain ⟨h2, h3⟩ := h.turn hp hm name_same.1 name_same.2 (gr_at h name_gr)
 exact ⟨rfl, h2, h3⟩
theorem add_step {op at_ n : Int} {t : ByteArray} (hc : (addP s op at_ t n []).1.ns.length ≤ 1099511627776) : Step X F 79 #[X.p, .int .i64 op, .int .i64 at_, .string t, .int .i64 n, .slice none 0 0] s (.int .i64 (addP s op at_ t n []).2) (addP s op at_ t n []).1 := fun w h =>
 add_any h (A := none) (k := 0) (c := 0) (kids := []) (Rd.nil_.2 (by omega)) rfl (by omega) (fun x hx => by cases hx) op at_ n t hc
theorem In.rng {s : PS} {x : Int} (h : In s x) (hs : s.ns.length ≤ 1099511627776) : -1 ≤ x ∧ x ≤ 4611686018427387904 := by
 rcases h with rfl | ⟨k, rfl, h⟩ <;> omega
theorem Gr.lenle {n : Nat} {d : Int} {s s1 : PS} (g : Gr n d s s1) : s.ns.length ≤ s1.ns.length := by
 obtain ⟨t, ht⟩ := g.pre
 rw [ht, List.length_append]
 omega
theorem Rd.ints (w : World) (l : List Int) (cs : Array Value) (n : Nat) (hn : l.length = n) (hc : cs = (ics l).toArray) (hm : n ≤ 9223372036854775807) : Rd (w.alloc (.cells cs 3)) (some ⟨w.heap.size, 0, none⟩) n n 1 (ics l) := by
 subst hn hc
 exact ⟨Nat.le_refl _, hm, ics_length l, fun _ => ⟨w.heap.size, 0, rfl, by simp, fun j u hj => by
  rw [Nat.zero_add, (Blk.new w 3 _).cell]
  simpa using hj⟩⟩
theorem fldT (T : TokD) (w : World) : (Instr.field 39 (tokV T) 1).run Tryd.prog w = .ok (.int .i64 T.at_) w := by kernel_rfl
theorem PAt.look (h : PAt X F w s) {x : Int} (hx : -1 ≤ x ∧ x ≤ 4611686018427387904) : (Instr.lookup 96 (.map (some X.mb)) (.int .i64 x) false).run Tryd.prog w = .ok (.agg #[.int .i64 (deepOf s x), .int .i64 (placeOf s x)]) w ∧ (Instr.field 115 (.agg #[.int .i64 (deepOf s x), .int .i64 (placeOf s x)]) 1).run Tryd.prog w = .ok (.int .i64 (placeOf s x)) w := ⟨h.m.look (wf_of hx), fld1 _ _ _⟩
theorem PAt.stepd (h : PAt X F w s) {k : Nat} (hk : s.at_ + k ≤ X.n) : PAt X F (w.setCell ⟨X.pb, 2, none⟩ (.int .i64 ((s.at_ + k : Nat) : Int))) (stepP s k) ∧ Keeps X.B w (w.setCell ⟨X.pb, 2, none⟩ (.int .i64 ((s.at_ + k : Nat) : Int))) :=
 h.turn (h.p.set_ 2 _) (Mod.setCell (S := (· = X.pb)) (p := ⟨X.pb, 2, none⟩) (Mod.refl _ _) (fun _ => rfl) _) rfl rfl hk
theorem wrap_in {a b : Nat} (h : a + b ≤ 9223372036854775807) : IntKind.i64.wrap ((a : Int) + (b : Int)) = ((a + b : Nat) : Int) := by rw [IntWalk.i64_in _ (by omega)]; omega
theorem sml {t : ByteArray} (h : t.size ≤ 100) : t.size ≤ maxLen := by unfold maxLen; omega
end
end
end Go.Proofs.YtjdcicopjipmnaaDoor
