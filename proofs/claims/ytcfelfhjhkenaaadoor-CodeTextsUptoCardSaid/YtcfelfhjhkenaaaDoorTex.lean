/- Text: a program as lines. -/
import Derived.Test.YtcfelfhjhkenaaaDoorNam
import Derived.Lib.AppendIntMem
namespace Go.Proofs.YtcfelfhjhkenaaaDoor
open Go.RowKit
attribute [local go_sem] Oper.semAt_some

/-- the tables of Go's library -/
def Tabs (w : World) : Prop := Lib.TabIs Tryd.prog w "strings.asciiSpace" .u8 Lib.asciiSpaceTab ∧ Lib.TabIs Tryd.prog w "internal/strconv.uint64pow10" .u64 Lib.pow10Tab
theorem tab_below {n : String} {g : Nat} {k : IntKind} {zs : List Int} {w w' : World} (hg : Tryd.prog.globalNamed n = some g) (h : Lib.TabIs Tryd.prog w n k zs) (hb : Below w.heap.size w w') : Lib.TabIs Tryd.prog w' n k zs := by
  unfold Lib.TabIs World.var? at h ⊢
  rw [hg] at h ⊢
  simp only [Option.bind_some] at h ⊢
  have hlt : g < w.heap.size := by
    rcases Nat.lt_or_ge g w.heap.size with h' | h'
    · exact h'
    · rw [Array.getElem?_eq_none h'] at h; cases h
  rw [hb.block g hlt]
  exact h
theorem glob_ascii : ∃ g, Tryd.prog.globalNamed "strings.asciiSpace" = some g := ⟨0, by kernel_rfl⟩
theorem glob_pow10 : ∃ g, Tryd.prog.globalNamed "internal/strconv.uint64pow10" = some g := ⟨2, by kernel_rfl⟩
theorem Tabs.below {w w' : World} (h : Tabs w) (hb : Below w.heap.size w w') : Tabs w' := by
  obtain ⟨g, hg⟩ := glob_ascii
  obtain ⟨g', hg'⟩ := glob_pow10
  exact ⟨tab_below hg h.1 hb, tab_below hg' h.2 hb⟩
def I64 (n : Int) : Prop := -9223372036854775808 ≤ n ∧ n ≤ 9223372036854775807
theorem itoa_in (n : Int) (h : I64 n) (w : World) (ht : Tabs w) :
    Calls Tryd.prog 31 #[.int .i64 n] w fun e w' => e = .returned (.string (bstr (Lib.itoa n))) ∧ Below w.heap.size w w' := by
  refine (Tryd.strconv_Itoa n h.1 h.2 w ht.2).mono ?_
  rintro e w' ⟨rfl, k, os, rfl⟩
  exact ⟨rfl, Lib.below_grow _ w (Nat.le_refl _) k os⟩

/-- blocks of other types lie as they lay -/
def KeepW (w w' : World) : Prop := ∀ g t cs, Blk w g t cs → t ≠ 58 → t ≠ 5 → Blk w' g t cs
theorem KeepW.refl (w : World) : KeepW w w := fun _ _ _ h _ _ => h
theorem KeepW.trans {a b c : World} (h : KeepW a b) (k : KeepW b c) : KeepW a c := fun g t cs hb h1 h2 => k g t cs (h g t cs hb h1 h2) h1 h2
theorem KeepW.new {w w' : World} (hb : Below w.heap.size w w') : KeepW w w' := fun _ _ _ h _ _ => h.new' hb
/-- a builder of one's own that holds l -/
structure Bt (w0 w : World) (b : Nat) (l : List UInt8) : Prop where
  blk : ∃ p v, (p = .pointer none ∨ p = .pointer (some ⟨b, 0, none⟩)) ∧ Blk w b 58 #[p, v] ∧ w.ownsRow w0.heap.size 5 1 v l.length (bcs l)
  bel : Below w0.heap.size w0 w
  base : w0.heap.size ≤ b
theorem Bt.new {w0 w w' : World} {b : Nat} {l : List UInt8} (h : Bt w0 w b l) (hb : Below w.heap.size w w') : Bt w0 w' b l := by
  obtain ⟨p, v, hp, h1, h2⟩ := h.blk
  exact ⟨⟨p, v, hp, h1.new' hb, row_new h2 hb⟩, h.bel.trans (hb.mono h.bel.size), h.base⟩
theorem Bt.is {w0 w : World} {b : Nat} {l : List UInt8} (h : Bt w0 w b l) : Lib.IsBuilder 58 5 w0.heap.size b (bcs l) w := by
  obtain ⟨p, v, hp, h1, h2⟩ := h.blk
  have hne : v.ownBlock ≠ some b := own_blk_ne (row_own h2) h1 (by decide)
  rcases hp with rfl | rfl
  · exact .inl ⟨h.base, v, h1, by rw [bcs_length]; exact h2, hne⟩
  · exact .inr ⟨h.base, v, h1, by rw [bcs_length]; exact h2, hne⟩
theorem shape_blk {w : World} {g : Nat} {t : TypeId} {cs : Array Value} (h : Blk w g t cs) : w.shape? g = some (t, cs.size) := by
  unfold Blk at h
  simp [World.shape?, h]
theorem check_in {w0 w : World} {b : Nat} {l : List UInt8} (h : Bt w0 w b l) :
    Calls Tryd.prog 47 #[.pointer (some ⟨b, 0, none⟩)] w fun e w' => e = .returned (.tuple #[]) ∧ (∃ v, Blk w' b 58 #[.pointer (some ⟨b, 0, none⟩), v] ∧ w'.ownsRow w0.heap.size 5 1 v l.length (bcs l)) ∧ Below w0.heap.size w0 w' ∧ KeepW w w' ∧ w'.heap.size = w.heap.size := by
  obtain ⟨p, v, hp, h1, h2⟩ := h.blk
  have hne : v.ownBlock ≠ some b := own_blk_ne (row_own h2) h1 (by decide)
  rcases hp with rfl | rfl
  · refine (copyCheck_fresh b w (h1.cell 0) (shape_blk h1) (h1.frozen 0)).mono ?_
    rintro e w' ⟨rfl, rfl⟩
    refine ⟨rfl, ⟨v, h1.set_ 0 _, row_keep h2 fun g e => Below.heap_setCell _ _ _ _ (by rintro rfl; exact hne e)⟩, h.bel.setCell h.base _, fun g t cs hb t1 _ => hb.far (by rintro rfl; exact Blk.ne_ hb h1 t1 rfl) _, by simp [World.setCell]⟩
  · refine (copyCheck_used b w (h1.cell 0)).mono ?_
    rintro e w' ⟨rfl, rfl⟩
    exact ⟨rfl, ⟨v, h1, h2⟩, h.bel, KeepW.refl _, rfl⟩
set_option maxHeartbeats 1000000 in
set_option maxRecDepth 100000 in
theorem write_in {w0 w : World} {b : Nat} {l : List UInt8} (h : Bt w0 w b l) (s : ByteArray) (hlen : l.length + s.size ≤ 140737488355328) :
    Calls Tryd.prog 30 #[.pointer (some ⟨b, 0, none⟩), .string s] w fun e w' => e = .returned (.tuple #[.int .i64 s.size, .nilIface]) ∧ Bt w0 w' b (l ++ s.data.toList) ∧ KeepW w w' := by
  obtain ⟨i0, hi, hz0, hz1, hz2⟩ := info_parts info_B
  have hbase := h.base
  go_enter Tryd.func30, Tryd.ntmps30
  go_wp2_with (go_at_call 47; refine (check_in h).mono ?_)
  rintro e w1 ⟨rfl, ⟨v, hbk, hown⟩, hb1, hk1, hz1'⟩
  have hne : v.ownBlock ≠ some b := own_blk_ne (row_own hown) hbk (by decide)
  have c0 := hbk.cell 0
  have c1 := hbk.cell 1
  have hlt := hbk.lt
  simp only [List.getElem?_toArray, List.getElem?_cons_zero, List.getElem?_cons_succ] at c0 c1
  obtain ⟨A, c, rfl, -, -⟩ := Own.rd (row_own hown)
  have HB := Lib.hid hbk
  have HK := Lib.hid hk1
  have HW := Lib.hid hb1
  have HO := Lib.hid hown
  have hsz := hb1.size
  clear hbk hk1 hb1 hown hz1'
  go_wp2_with (at_builtin; refine Lib.wpList_append_own_string _ rfl (.tmp 12) (.tmp 13) 30 9 rfl w0.heap.size 5 i0 Tryd.underlying30 und9 hi hz0 hz1 hz2 (.slice A l.length c) l.length (bcs l) rfl HO.out s rfl (by simp only [maxLen]; omega) (by omega) (by omega) ?_; intro v6 w6 ho6 hg6 _; obtain ⟨A6, c6, rfl, -, -⟩ := Own.rd (row_own ho6); have HB6 := Lib.hid (HB.out.grown hg6 (fun e => hne e.symm)); have HO6 := Lib.hid ho6; have HG6 := Lib.hid hg6; have d1 := HB6.out.cell 1; have f1 := HB6.out.frozen 1; have l1 := HB6.out.lt; simp only [List.getElem?_toArray, List.getElem?_cons_zero, List.getElem?_cons_succ] at d1; clear ho6 hg6)
  go_ret2
  refine ⟨rfl, ⟨⟨_, _, .inr rfl, HB6.out.set_ 1 _, ?_⟩, ?_, hbase⟩, ?_⟩
  · rw [List.length_append, bcs_append, sizeB]
    exact row_keep HO6.out fun g e => Below.heap_setCell _ _ _ _ (by rintro rfl; exact own_blk_ne (row_own HO6.out) HB6.out (by decide) e)
  · exact (HW.out.grown HG6.out (by omega) (fun k hk => row_base HO.out hk)).setCell (p := ⟨b, 1, none⟩) hbase _
  · refine HK.out.trans fun g t cs hb t1 t2 => (hb.grown HG6.out fun e => own_blk_ne (row_own HO.out) hb (Ne.symm t2) e.symm).far (p := ⟨b, 1, none⟩) (by rintro rfl; exact Blk.ne_ hb HB.out t1 rfl) _
theorem string_in {w0 w : World} {b : Nat} {l : List UInt8} (h : Bt w0 w b l) : Calls Tryd.prog 32 #[.pointer (some ⟨b, 0, none⟩)] w fun e w' => e = .returned (.string (bstr l)) ∧ Below w0.heap.size w0 w' := by
  refine (Tryd.Builder_String_any w0.heap.size b l w h.is h.bel.size).mono ?_
  rintro e w' ⟨rfl, hb⟩
  exact ⟨rfl, h.bel.trans hb⟩
end Go.Proofs.YtcfelfhjhkenaaaDoor
