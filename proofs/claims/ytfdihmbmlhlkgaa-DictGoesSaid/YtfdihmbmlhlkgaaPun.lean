/- Put of a new key. -/
import Derived.Test.YtfdihmbmlhlkgaaPuu
import Derived.Test.YtfdihmbmlhlkgaaOrd
import Derived.BigQuiet
import Derived.Deep.QuietTactic
namespace Go.Proofs.Ytfdihmbmlhlkgaa
open Go.RowKit
attribute [local go_sem high] guardV eqV neqV
attribute [local go_sem] V.v

theorem info_R : (Try.prog.info? 73).map (fun i => (i.zero, i.size, i.bytes)) = some (some (.agg #[.int .i64 0, .int .i64 0, .string ⟨#[]⟩, .int .i64 0, .int .i64 0, .string ⟨#[]⟩, .bool false]), 7, 72) := by kernel_rfl
theorem MapAt.ne_blk {w : World} {b g s : Nat} {f : V → Option Nat} {t : TypeId} {cs : Array Value} (h : MapAt w b f s) (hg : Blk w g t cs) : ¬ b = g := by
  rintro rfl
  obtain ⟨D, ⟨es, clock, h1, _⟩, _⟩ := h
  unfold Blk at hg
  rw [h1] at hg
  cases hg
theorem MapAt.ne_own {w : World} {b s sz n : Nat} {f : V → Option Nat} {t : TypeId} {v : Value} {cs : List Value} (h : MapAt w b f s) (ho : Own w t sz v n cs) : ¬ v.ownBlock = some b := by
  obtain ⟨D, ⟨es, clock, h1, _⟩, _⟩ := h
  rcases ho.2 with ⟨rfl, _⟩ | ⟨g, _, cur, rfl, hh, _⟩
  · intro e; cases e
  · intro e
    have : g = b := by simpa [Value.ownBlock] using e
    subst this
    rw [h1] at hh
    cases hh
theorem DictAt.ne_B {w : World} {g B : Nat} {v : Value} {rs : List Row} {f : V → Option Nat} {L : List (V × V)} (h : DictAt w g B v rs f L) : ¬ v.ownBlock = some B := h.map.ne_own h.own
theorem row_one (r : Row) : ∀ u ∈ r.cs, u.oneCell' = true := fun u hu => rcs_oneCell [r] u (by rw [rcs_cons, rcs_nil, List.append_nil]; exact hu)
theorem row_rd (w : World) (r : Row) : Rd (w.alloc (.cells r.cs.toArray 73)) (some ⟨w.heap.size, 0, none⟩) 1 1 7 r.cs :=
  ⟨Nat.le_refl _, by omega, Row.cs_length r, fun _ => ⟨_, 0, rfl, by simp, fun j u hu => by
    rw [(Blk.new w 73 r.cs.toArray).cell]
    simpa using hu⟩⟩
/-- the cells that the last steps of Put read -/
structure Cells4 (w : World) (g B : Nat) (A : Option Addr) (n c bx by' : Nat) (xs ys : Array Value) : Prop where
  g : Blk w g 71 #[.map (some B), .slice A n c]
  x : Blk w bx 24 xs
  y : Blk w by' 24 ys
structure Apart4 (w : World) (g bx by' : Nat) (v : Value) : Prop where
  g : v.ownBlock ≠ some g
  x : v.ownBlock ≠ some bx
  y : v.ownBlock ≠ some by'
section
variable {w w' : World} {g B n c bx by' : Nat} {A : Option Addr} {a0 a1 a2 b0 b1 b2 : Value}
theorem Cells4.new {xs ys : Array Value} (h : Cells4 w g B A n c bx by' xs ys) (hb : Below w.heap.size w w') : Cells4 w' g B A n c bx by' xs ys := ⟨h.g.new' hb, h.x.new' hb, h.y.new' hb⟩
theorem Cells4.here (h : Cells4 w g B A n c bx by' #[a0, a1, a2] #[b0, b1, b2]) :
    w.cell? ⟨g, 1, none⟩ = some (.slice A n c) ∧ w.cell? ⟨bx, 0, none⟩ = some a0 ∧ w.cell? ⟨bx, 1, none⟩ = some a1 ∧ w.cell? ⟨bx, 2, none⟩ = some a2 ∧ w.cell? ⟨by', 0, none⟩ = some b0 ∧ w.cell? ⟨by', 1, none⟩ = some b1 ∧ w.cell? ⟨by', 2, none⟩ = some b2 :=
  ⟨h.g.cell 1, h.x.cell 0, h.x.cell 1, h.x.cell 2, h.y.cell 0, h.y.cell 1, h.y.cell 2⟩
theorem Cells4.held (h : Cells4 w g B A n c bx by' #[a0, a1, a2] #[b0, b1, b2]) (hb : Below w.heap.size w w') :
    w'.cell? ⟨g, 1, none⟩ = some (.slice A n c) ∧ w'.cell? ⟨bx, 0, none⟩ = some a0 ∧ w'.cell? ⟨bx, 1, none⟩ = some a1 ∧ w'.cell? ⟨bx, 2, none⟩ = some a2 ∧ w'.cell? ⟨by', 0, none⟩ = some b0 ∧ w'.cell? ⟨by', 1, none⟩ = some b1 ∧ w'.cell? ⟨by', 2, none⟩ = some b2 := (h.new hb).here
theorem Cells4.apart {xs ys : Array Value} {v : Value} {m : Nat} {cs : List Value} (h : Cells4 w g B A n c bx by' xs ys) (ho : Own w 73 7 v m cs) : Apart4 w g bx by' v :=
  ⟨own_blk_ne ho h.g (by decide), own_blk_ne ho h.x (by decide), own_blk_ne ho h.y (by decide)⟩
theorem Cells4.after {v v9 : Value} {w9 : World} {m : Nat} {cs : List Value} {o : Obj} (h : Cells4 w g B A n c bx by' #[a0, a1, a2] #[b0, b1, b2]) (hf : Apart4 w g bx by' v) (_own : Own w9 73 7 v9 m cs)
    (hg : (w.alloc o).grownBy w9 v.ownBlock) :
    Blk w9 g 71 #[.map (some B), .slice A n c] ∧ w9.cell? ⟨g, 1, none⟩ = some (.slice A n c) ∧ w9.cell? ⟨bx, 0, none⟩ = some a0 ∧ w9.cell? ⟨bx, 1, none⟩ = some a1 ∧ w9.cell? ⟨bx, 2, none⟩ = some a2 ∧ w9.cell? ⟨by', 0, none⟩ = some b0 ∧ w9.cell? ⟨by', 1, none⟩ = some b1 ∧ w9.cell? ⟨by', 2, none⟩ = some b2 := by
  have h9 : Cells4 w9 g B A n c bx by' #[a0, a1, a2] #[b0, b1, b2] := ⟨(h.g.alloc o).grown hg (Ne.symm hf.g), (h.x.alloc o).grown hg (Ne.symm hf.x), (h.y.alloc o).grown hg (Ne.symm hf.y)⟩
  exact ⟨h9.g, h9.here⟩
end
/-- what Put of a new key leaves -/
def PutDone (S : Nat → Prop) (g : Nat) (w : World) (L : List (V × V)) (x y : V) (w' : World) : Prop := IsDict w' (Grew S w w') g (L ++ [(x, y)]) ∧ Mod S w w'
theorem put_end {w W w4 : World} {S : Nat → Prop} {g B c : Nat} {A : Option Addr} {rs : List Row} {f : V → Option Nat} {L : List (V × V)} {x : V} (hS : S g ∧ S B ∧ (∀ b, (Value.slice A rs.length c).ownBlock = some b → S b ∨ w.heap.size ≤ b) ∧ (∀ i, S i → i < w.heap.size))
    (hD : DictAt W g B (.slice A rs.length c) rs f L) (hM : Mod S w W) (hf : f x = none) (m4 : Mod (· = B) W w4) (map4 : MapAt w4 B (upd f x (some rs.length)) (L.length + 1)) (y : V) (hl : L.length < 4096) (hx : x.Ok) (hk : isKey x = true) (hrn : rs.length ≤ 8200) :
    ∀ v9 w9, Own w9 73 7 v9 (rs.length + 1) (rcs rs ++ Row.cs (some (x, y))) → (w4.drew.alloc (.cells (Row.cs (some (x, y))).toArray 73)).grownBy w9 (Value.slice A rs.length c).ownBlock → (v9.ownBlock = (Value.slice A rs.length c).ownBlock ∨ v9.ownBlock = some (w4.drew.alloc (.cells (Row.cs (some (x, y))).toArray 73)).heap.size) → PutDone S g w L x y (w9.setCell ⟨g, 1, none⟩ v9) := by
  intro v9 w9 own9 grow9 at9
  obtain ⟨s1, s2, s3, s4⟩ := hS
  have m5 : Mod (· = B) W (w4.drew.alloc (.cells (Row.cs (some (x, y))).toArray 73)) := (m4.drew).alloc _
  have hnB : ¬ (Value.slice A rs.length c).ownBlock = some B := hD.ne_B
  have hng : (Value.slice A rs.length c).ownBlock ≠ some g := own_blk_ne hD.own hD.blk (by decide)
  have m9 : Mod (fun i => i = B ∨ (Value.slice A rs.length c).ownBlock = some i) W w9 := (m5.mono fun i _ e => .inl e).grown grow9 fun k e _ => .inr e
  have k9 : Blk w9 g 71 #[.map (some B), .slice A rs.length c] := hD.blk.mod m9 (fun e => e.elim hD.ne_gB hng)
  have map9 : MapAt w9 B (upd f x (some rs.length)) (L.length + 1) := by
    have h5 : Mod (fun i => (Value.slice A rs.length c).ownBlock = some i) w4 w9 := (Mod.new (by exact (by repeat (first | exact Below.refl _ _ | assumption | refine Below.setCell ?_ (by first | (simp; done) | (simp; omega) | omega) _ | refine below_drewN ?_ _ | refine Below.drew ?_ | refine Below.alloc ?_ (by first | (simp; done) | (simp; omega) | omega) _)))).grown grow9 fun k e _ => e
    exact map4.mod h5 hnB
  have mf : Mod (fun i => i = g) w9 (w9.setCell ⟨g, 1, none⟩ v9) := (Mod.refl (fun i => i = g) w9).setCell (p := ⟨g, 1, none⟩) (fun _ => rfl) _
  have hv9g : v9.ownBlock ≠ some g := own_blk_ne own9 k9 (by decide)
  have hz : W.heap.size ≤ w9.heap.size := m9.size
  have hzf : w9.heap.size ≤ (w9.setCell ⟨g, 1, none⟩ v9).heap.size := mf.size
  have hww : w.heap.size ≤ W.heap.size := hM.size
  have mAll : Mod S w (w9.setCell ⟨g, 1, none⟩ v9) := by
    have h1 : Mod (fun i => S i ∨ w.heap.size ≤ i) w W := hM.mono fun i _ h => .inl h
    have h2 : Mod (fun i => S i ∨ w.heap.size ≤ i) w w9 := h1.trans m9 (fun i _ e => by
      rcases e with rfl | e
      · exact .inl s2
      · exact s3 i e)
    have h3 : Mod (fun i => S i ∨ w.heap.size ≤ i) w (w9.setCell ⟨g, 1, none⟩ v9) := h2.trans mf (fun i _ e => by subst e; exact .inl s1)
    exact h3.mono fun i hi e => e.elim id (fun h => absurd hi (by omega))
  refine ⟨⟨B, v9, rs ++ [some (x, y)], upd f x (some rs.length), ⟨k9.set_ 1 v9, ?_, ?_, hD.keys.snoc hf y, ?_, ?_, ?_, ?_, hD.lt⟩, ?_, ?_, ?_, ?_⟩, mAll⟩
  · rw [List.length_append]
    exact map9.mod mf (fun e => hD.ne_gB e.symm)
  · rw [List.length_append, rcs_append, rcs_cons, rcs_nil, List.append_nil]
    exact own9.mod mf (fun b e e' => hv9g (by rw [e, e']))
  · rw [live_append, hD.live, live_some]; rfl
  · intro p hp
    rw [List.mem_append, List.mem_singleton] at hp
    rcases hp with hp | rfl
    · exact hD.ok p hp
    · exact ⟨hx, hk⟩
  · simp; omega
  · simp; omega
  · exact .inl s1
  · exact .inl s2
  · intro b e
    have hb := Own.lt own9 e
    rcases at9 with e' | e' <;> rw [e'] at e
    · rcases s3 b e with h | h
      · exact .inl h
      · exact .inr ⟨h, by omega⟩
    · injection e with e
      refine .inr ⟨?_, by omega⟩
      have := m4.size
      simp at e
      omega
  · intro i hi
    rcases hi with h | h
    · have := s4 i h
      omega
    · exact h.2

set_option maxRecDepth 100000 in
set_option maxHeartbeats 2000000 in
theorem put_new0 {w : World} {S : Nat → Prop} {g B : Nat} {v : Value} {rs : List Row} {f : V → Option Nat} {L : List (V × V)} (hD : DictAt w g B v rs f L) (hS : S g ∧ S B ∧ (∀ b, v.ownBlock = some b → S b ∨ w.heap.size ≤ b) ∧ (∀ i, S i → i < w.heap.size)) (x y : V) (hx : x.Ok) (hno : f x = none) (hk : isKey x = true) (hlen : L.length < 4096) (hp : rs.length ≤ 2 * L.length + 8) :
    Calls Try.prog 15 #[.pointer (some ⟨g, 0, none⟩), .agg #[.int .i64 x.k, .int .i64 x.n, .string x.s], .agg #[.int .i64 y.k, .int .i64 y.n, .string y.s]] w fun e w' => e = .returned (.bool true) ∧ PutDone S g w L x y w' := by
  have hb := hD.blk.lt
  have c0 := hD.blk.cell 0
  have hl0 := hD.map.look hx
  rw [hno] at hl0
  have hrn : rs.length ≤ 8200 := by omega
  simp only [List.getElem?_toArray, List.getElem?_cons_zero] at c0
  obtain ⟨k, n, s⟩ := x
  obtain ⟨k', n', s'⟩ := y
  have hl : ∀ o1 o2 q, (Instr.lookup 68 (.map (some B)) (.agg #[.int .i64 k, .int .i64 n, .string s]) true).run Try.prog (((w.alloc o1).alloc o2).drewN q) = .ok (.tuple #[.int .i64 0, .bool false]) (((w.alloc o1).alloc o2).drewN q) := fun o1 o2 q => by
    have := (hD.map.new (w' := ((w.alloc o1).alloc o2).drewN q) (by repeat (first | exact Below.refl _ _ | assumption | refine Below.setCell ?_ (by first | (simp; done) | (simp; omega) | omega) _ | refine below_drewN ?_ _ | refine Below.drew ?_ | refine Below.alloc ?_ (by first | (simp; done) | (simp; omega) | omega) _))).look hx
    rw [hno] at this
    exact this
  have HD0 := Lib.hid hD
  have HKY := Lib.hid hk
  have HOK := Lib.hid hx
  have HFN := Lib.hid hno
  have HS := Lib.hid hS
  have HLK := Lib.hid hlen
  clear hD hx hno hk hS hl0
  go_enter Try.func15, Try.ntmps15
  go_wp2_with fail
  go_quiet (fail)
  have HX0 := Lib.hid ((Blk.new w 24 #[.int .i64 k, .int .i64 n, .string s]).alloc (.cells #[.int .i64 k', .int .i64 n', .string s'] 24))
  have HY0 : Hid (Blk ((w.alloc (.cells #[.int .i64 k, .int .i64 n, .string s] 24)).alloc (.cells #[.int .i64 k', .int .i64 n', .string s'] 24)) (w.heap.size + 1) 24 #[.int .i64 k', .int .i64 n', .string s']) := Lib.hid (by
    have hh := Blk.new (w.alloc (.cells #[.int .i64 k, .int .i64 n, .string s] 24)) 24 #[.int .i64 k', .int .i64 n', .string s']
    rw [World.size_alloc] at hh
    exact hh)
  go_wp2_with (go_at_call 27; refine (dkey_any k n s _).mono ?_; rintro e w1 ⟨rfl, hb1⟩; rw [HKY.out]; have hb0 := (show Below w.heap.size w _ from (by repeat (first | exact Below.refl _ _ | assumption | refine Below.setCell ?_ (by first | (simp; done) | (simp; omega) | omega) _ | refine below_drewN ?_ _ | refine Below.drew ?_ | refine Below.alloc ?_ (by first | (simp; done) | (simp; omega) | omega) _))).trans (hb1.mono (by simp; omega)); have HX := Lib.hid (HX0.out.new' (w' := w1) ⟨hb1.os, hb1.tape, hb1.output, hb1.size, hb1.block⟩); have HY := Lib.hid (HY0.out.new' (w' := w1) ⟨hb1.os, hb1.tape, hb1.output, hb1.size, hb1.block⟩); have HD := Lib.hid (HD0.out.mod (T := fun _ => False) (Mod.new hb0) id id (fun _ _ => id)); have cg1 := (hb0.cell (p := ⟨g, 0, none⟩) hb).trans c0; have hln := HD.out.map.len; have HM := Lib.hid (Mod.new (S := S) hb0); clear hb1 hb0 c0 hl HX0 HY0)
  obtain ⟨A, c, rfl, -, -⟩ := Own.rd HD.out.own
  have cg2 := HD.out.blk.cell 1
  simp only [List.getElem?_toArray, List.getElem?_cons_succ, List.getElem?_cons_zero] at cg2
  have hgw1 := HD.out.blk.lt
  have hlen := HLK.out
  have hln1 : ∀ (ty : TypeId) q, (Builtin.len_ #[68] ty #[.map (some B)]).run Try.prog (w1.drewN q) = .ok (.int .i64 L.length) (w1.drewN q) := fun ty q => (HD.out.map.new (w' := w1.drewN q) (by repeat (first | exact Below.refl _ _ | assumption | refine Below.setCell ?_ (by first | (simp; done) | (simp; omega) | omega) _ | refine below_drewN ?_ _ | refine Below.drew ?_ | refine Below.alloc ?_ (by first | (simp; done) | (simp; omega) | omega) _))).len ty
  clear hln
  go_quiet (fail)
  go_wp2_with fail
  have HDW := Lib.hid (HD.out.mod (w' := w1.drewN nq) (T := fun _ => False) (Mod.new (by repeat (first | exact Below.refl _ _ | assumption | refine Below.setCell ?_ (by first | (simp; done) | (simp; omega) | omega) _ | refine below_drewN ?_ _ | refine Below.drew ?_ | refine Below.alloc ?_ (by first | (simp; done) | (simp; omega) | omega) _))) id id (fun _ _ => id))
  have HXW := Lib.hid (HX.out.new' (w' := w1.drewN nq) (by repeat (first | exact Below.refl _ _ | assumption | refine Below.setCell ?_ (by first | (simp; done) | (simp; omega) | omega) _ | refine below_drewN ?_ _ | refine Below.drew ?_ | refine Below.alloc ?_ (by first | (simp; done) | (simp; omega) | omega) _)))
  have HYW := Lib.hid (HY.out.new' (w' := w1.drewN nq) (by repeat (first | exact Below.refl _ _ | assumption | refine Below.setCell ?_ (by first | (simp; done) | (simp; omega) | omega) _ | refine below_drewN ?_ _ | refine Below.drew ?_ | refine Below.alloc ?_ (by first | (simp; done) | (simp; omega) | omega) _)))
  have HMW := Lib.hid (HM.out.drewN nq)
  clear HD HX HY HM cg1 cg2 hgw1 hlen hln1
  generalize w1.drewN nq = W at *
  obtain ⟨HD, HX, HY, HM⟩ : Hid (DictAt W g B (.slice A rs.length c) rs f L) ∧ Hid (Blk W w.heap.size 24 #[.int .i64 k, .int .i64 n, .string s]) ∧ Hid (Blk W (w.heap.size + 1) 24 #[.int .i64 k', .int .i64 n', .string s']) ∧ Hid (Mod S w W) := ⟨HDW, HXW, HYW, HMW⟩
  clear HDW HXW HYW HMW
  have cg0 := HD.out.blk.cell 0
  have cg1 := HD.out.blk.cell 1
  have x0 := HX.out.cell 0
  have x1 := HX.out.cell 1
  have x2 := HX.out.cell 2
  simp only [List.getElem?_toArray, List.getElem?_cons_zero, List.getElem?_cons_succ] at cg0 cg1 x0 x1 x2
  have hgl := HD.out.blk.lt
  have hxl := HX.out.lt
  have hyl := HY.out.lt
  have hgB := HD.out.ne_gB
  have hxB : ¬ w.heap.size = B := fun e => HD.out.map.ne_blk HX.out e.symm
  have hyB : ¬ w.heap.size + 1 = B := fun e => HD.out.map.ne_blk HY.out e.symm
  obtain ⟨w4, hrun4, map4, mod4⟩ := MapAt.store (x := ⟨k, n, s⟩) (HD.out.map.new (w' := W.drew) (by repeat (first | exact Below.refl _ _ | assumption | refine Below.setCell ?_ (by first | (simp; done) | (simp; omega) | omega) _ | refine below_drewN ?_ _ | refine Below.drew ?_ | refine Below.alloc ?_ (by first | (simp; done) | (simp; omega) | omega) _))) HOK.out (i := rs.length) (by omega) (by unfold maxLen; omega)
  simp only [V.v] at hrun4
  rw [HFN.out] at map4
  simp only [Option.isSome_none, Bool.false_eq_true, if_false] at map4
  have m04 : Mod (· = B) W w4 := ⟨mod4.os, mod4.tape, mod4.output, mod4.size, mod4.block⟩
  have HK4 := Lib.hid (And.intro ((m04.cell (p := ⟨g, 0, none⟩) hgl hgB).trans cg0) (And.intro ((m04.cell (p := ⟨g, 1, none⟩) hgl hgB).trans cg1) (And.intro ((m04.cell (p := ⟨w.heap.size, 0, none⟩) hxl hxB).trans x0) (And.intro ((m04.cell (p := ⟨w.heap.size, 1, none⟩) hxl hxB).trans x1) ((m04.cell (p := ⟨w.heap.size, 2, none⟩) hxl hxB).trans x2)))))
  have HMAP4 := Lib.hid map4
  have HM04 := Lib.hid m04
  clear map4 mod4 m04
  go_wp2_with fail
  go_region_held3 (fun w' => w'.cell? ⟨g, 0, none⟩ = some (.map (some B)) ∧ w'.cell? ⟨g, 1, none⟩ = some (.slice A rs.length c) ∧ w'.cell? ⟨w.heap.size, 0, none⟩ = some (.int .i64 k) ∧ w'.cell? ⟨w.heap.size, 1, none⟩ = some (.int .i64 n) ∧ w'.cell? ⟨w.heap.size, 2, none⟩ = some (.string s)) (first | exact HK4.out | go_keep)
    (fail)
  clear cg0 cg1 x0 x1 x2 hrun4
  have HBG := Lib.hid (HD.out.blk.mod HM04.out hgB)
  have HBX := Lib.hid (HX.out.mod HM04.out hxB)
  have HBY := Lib.hid (HY.out.mod HM04.out hyB)
  have HD4 : Hid (Cells4 w4 g B A rs.length c w.heap.size (w.heap.size + 1) #[.int .i64 k, .int .i64 n, .string s] #[.int .i64 k', .int .i64 n', .string s']) := Lib.hid ⟨HBG.out, HBX.out, HBY.out⟩
  have HOW := Lib.hid (HD.out.own.mod HM04.out (fun b e => by
    rintro rfl
    exact HD.out.ne_B e))
  have hend := put_end HS.out HD.out HM.out HFN.out HM04.out HMAP4.out ⟨k', n', s'⟩ HLK.out HOK.out HKY.out hrn
  have HEND0 := Lib.hid hend
  clear hend
  go_wp2_with fail
  refine wp_region_noPanic ?_
  obtain ⟨i0, hi, hz0, hz1, hz2⟩ := info_parts info_R
  refine AnyBut.start (S := fun w' => w'.cell? ⟨g, 1, none⟩ = some (.slice A rs.length c) ∧ w'.cell? ⟨w.heap.size, 0, none⟩ = some (.int .i64 k) ∧ w'.cell? ⟨w.heap.size, 1, none⟩ = some (.int .i64 n) ∧ w'.cell? ⟨w.heap.size, 2, none⟩ = some (.string s) ∧ w'.cell? ⟨w.heap.size + 1, 0, none⟩ = some (.int .i64 k') ∧ w'.cell? ⟨w.heap.size + 1, 1, none⟩ = some (.int .i64 n') ∧ w'.cell? ⟨w.heap.size + 1, 2, none⟩ = some (.string s')) 12 (by kernel_rfl) (HD4.out.held (by exact (by repeat (first | exact Below.refl _ _ | assumption | refine Below.setCell ?_ (by first | (simp; done) | (simp; omega) | omega) _ | refine below_drewN ?_ _ | refine Below.drew ?_ | refine Below.alloc ?_ (by first | (simp; done) | (simp; omega) | omega) _)))) (fun hHeld => ?_)
  have HO4 : Hid (Own w4.drew 73 7 (.slice A rs.length c) rs.length (rcs rs)) := Lib.hid (HOW.out.new (by exact (by repeat (first | exact Below.refl _ _ | assumption | refine Below.setCell ?_ (by first | (simp; done) | (simp; omega) | omega) _ | refine below_drewN ?_ _ | refine Below.drew ?_ | refine Below.alloc ?_ (by first | (simp; done) | (simp; omega) | omega) _))))
  have HD4' : Hid (Cells4 w4.drew g B A rs.length c w.heap.size (w.heap.size + 1) #[.int .i64 k, .int .i64 n, .string s] #[.int .i64 k', .int .i64 n', .string s']) := Lib.hid (HD4.out.new (by exact (by repeat (first | exact Below.refl _ _ | assumption | refine Below.setCell ?_ (by first | (simp; done) | (simp; omega) | omega) _ | refine below_drewN ?_ _ | refine Below.drew ?_ | refine Below.alloc ?_ (by first | (simp; done) | (simp; omega) | omega) _))))
  have HEND : Hid (∀ v9 w9, Own w9 73 7 v9 (rs.length + 1) (rcs rs ++ Row.cs (some (⟨k, n, s⟩, ⟨k', n', s'⟩))) → (w4.drew.alloc (.cells (Row.cs (some (⟨k, n, s⟩, ⟨k', n', s'⟩))).toArray 73)).grownBy w9 (Value.slice A rs.length c).ownBlock → (v9.ownBlock = (Value.slice A rs.length c).ownBlock ∨ v9.ownBlock = some (w4.drew.alloc (.cells (Row.cs (some (⟨k, n, s⟩, ⟨k', n', s'⟩))).toArray 73)).heap.size) → PutDone S g w L ⟨k, n, s⟩ ⟨k', n', s'⟩ (w9.setCell ⟨g, 1, none⟩ v9)) := Lib.hid HEND0.out
  have HF : Hid (Apart4 w4.drew g w.heap.size (w.heap.size + 1) (Value.slice A rs.length c)) := Lib.hid (HD4'.out.apart HO4.out)
  clear HEND0 HOW HD4
  have HD4 := HD4'
  have HALL : Hid (∀ w', Below w4.drew.heap.size w4.drew w' → (fun w' => w'.cell? ⟨g, 1, none⟩ = some (.slice A rs.length c) ∧ w'.cell? ⟨w.heap.size, 0, none⟩ = some (.int .i64 k) ∧ w'.cell? ⟨w.heap.size, 1, none⟩ = some (.int .i64 n) ∧ w'.cell? ⟨w.heap.size, 2, none⟩ = some (.string s) ∧ w'.cell? ⟨w.heap.size + 1, 0, none⟩ = some (.int .i64 k') ∧ w'.cell? ⟨w.heap.size + 1, 1, none⟩ = some (.int .i64 n') ∧ w'.cell? ⟨w.heap.size + 1, 2, none⟩ = some (.string s')) w') := Lib.hid fun w' hb => HD4.out.held hb
  clear HD4'
  generalize w4.drew = Wd at *
  refine AnyBut.take (i := 0) (v := ?_) (by rw [List.getElem?_toArray]; rfl) (by kernel_rfl) (by kernel_rfl) (by kernel_rfl) (by kernel_rfl) (fun _ _ _ h => h) (Or.inl ⟨by rfl, ?_⟩) (by assumption) ?_
  rotate_left 1
  · (intro w_ hSw; (try dsimp only at hSw); go_simp; try with_reducible rfl)
  try simp only [Act.put, List.setIfInBounds_toArray, List.set_cons_zero, List.set_cons_succ]
  refine AnyBut.take (i := 1) (v := ?_) (by rw [List.getElem?_toArray]; rfl) (by kernel_rfl) (by kernel_rfl) (by kernel_rfl) (by kernel_rfl) (fun _ _ _ h => h) (Or.inl ⟨by rfl, ?_⟩) (by assumption) ?_
  rotate_left 1
  · (intro w_ hSw; (try dsimp only at hSw); go_simp; try with_reducible rfl)
  try simp only [Act.put, List.setIfInBounds_toArray, List.set_cons_zero, List.set_cons_succ]
  refine AnyBut.take (i := 2) (v := ?_) (by rw [List.getElem?_toArray]; rfl) (by kernel_rfl) (by kernel_rfl) (by kernel_rfl) (by kernel_rfl) (fun _ _ _ h => h) (Or.inl ⟨by rfl, ?_⟩) (by assumption) ?_
  rotate_left 1
  · (intro w_ hSw; (try dsimp only at hSw); go_simp; try with_reducible rfl)
  try simp only [Act.put, List.setIfInBounds_toArray, List.set_cons_zero, List.set_cons_succ]
  refine AnyBut.take (i := 3) (v := ?_) (by rw [List.getElem?_toArray]; rfl) (by kernel_rfl) (by kernel_rfl) (by kernel_rfl) (by kernel_rfl) (fun _ _ _ h => h) (Or.inl ⟨by rfl, ?_⟩) (by assumption) ?_
  rotate_left 1
  · (intro w_ hSw; (try dsimp only at hSw); go_simp; try with_reducible rfl)
  try simp only [Act.put, List.setIfInBounds_toArray, List.set_cons_zero, List.set_cons_succ]
  refine AnyBut.take (i := 4) (v := ?_) (by rw [List.getElem?_toArray]; rfl) (by kernel_rfl) (by kernel_rfl) (by kernel_rfl) (by kernel_rfl) (fun _ _ _ h => h) (Or.inl ⟨by rfl, ?_⟩) (by assumption) ?_
  rotate_left 1
  · (intro w_ hSw; (try dsimp only at hSw); go_simp; try with_reducible rfl)
  try simp only [Act.put, List.setIfInBounds_toArray, List.set_cons_zero, List.set_cons_succ]
  refine AnyBut.take (i := 5) (v := ?_) (by rw [List.getElem?_toArray]; rfl) (by kernel_rfl) (by kernel_rfl) (by kernel_rfl) (by kernel_rfl) (fun _ _ _ h => h) (Or.inl ⟨by rfl, ?_⟩) (by assumption) ?_
  rotate_left 1
  · (intro w_ hSw; (try dsimp only at hSw); go_simp; try with_reducible rfl)
  try simp only [Act.put, List.setIfInBounds_toArray, List.set_cons_zero, List.set_cons_succ]
  refine AnyBut.take (i := 6) (v := ?_) (by rw [List.getElem?_toArray]; rfl) (by kernel_rfl) (by kernel_rfl) (by kernel_rfl) (by kernel_rfl) (fun _ _ _ h => h) (Or.inl ⟨by rfl, ?_⟩) (by assumption) ?_
  rotate_left 1
  · (intro w_ hSw; (try dsimp only at hSw); go_simp; try with_reducible rfl)
  try simp only [Act.put, List.setIfInBounds_toArray, List.set_cons_zero, List.set_cons_succ]
  refine AnyBut.take (i := 7) (v := ?_) (by rw [List.getElem?_toArray]; rfl) (by kernel_rfl) (by kernel_rfl) (by kernel_rfl) (by kernel_rfl) (fun _ _ _ h => h) (Or.inl ⟨by rfl, ?_⟩) (by assumption) ?_
  rotate_left 1
  · (intro w_ hSw; (try dsimp only at hSw); go_simp; try with_reducible rfl)
  try simp only [Act.put, List.setIfInBounds_toArray, List.set_cons_zero, List.set_cons_succ]
  refine AnyBut.ready (rs := [8]) (by kernel_rfl) (by simp) ?_
  refine ReadyBut.cons (by rw [List.getElem?_toArray]; rfl) (fun K hK => ?_) ReadyBut.nil
  go_simp
  refine hK.out _ _ (HALL.out _ (by exact (by repeat (first | exact Below.refl _ _ | assumption | refine Below.setCell ?_ (by first | (simp; done) | (simp; omega) | omega) _ | refine below_drewN ?_ _ | refine Below.drew ?_ | refine Below.alloc ?_ (by first | (simp; done) | (simp; omega) | omega) _)))) (fun hHeld => ?_)
  clear hK K
  try simp only [Act.put, List.setIfInBounds_toArray, List.set_cons_zero, List.set_cons_succ]
  refine AnyBut.ready (rs := [9]) (by kernel_rfl) (by simp) ?_
  refine ReadyBut.cons (by rw [List.getElem?_toArray]; rfl) (fun K hK => ?_) ReadyBut.nil
  refine step_append_Own _ rfl (.tmp 69) (.tmp 73) 69 rfl 73 i0 _ 7 72 Try.underlying69 hi hz0 hz1 hz2 rfl (.slice A rs.length c) rs.length (rcs rs) rfl (by exact HO4.out.new (by exact (by repeat (first | exact Below.refl _ _ | assumption | refine Below.setCell ?_ (by first | (simp; done) | (simp; omega) | omega) _ | refine below_drewN ?_ _ | refine Below.drew ?_ | refine Below.alloc ?_ (by first | (simp; done) | (simp; omega) | omega) _)))) (some ⟨Wd.heap.size, 0, none⟩) 1 1 (Row.cs (some (⟨k, n, s⟩, ⟨k', n', s'⟩))) rfl (by exact row_rd Wd _) (by exact row_one _) (by omega) (by omega) ?_
  intro v9 w9 own9 grow9 at9
  obtain ⟨A9, k9, rfl, -, -⟩ := Own.rd own9
  have B9 := Lib.hid (HD4.out.after HF.out own9 grow9)
  have HS9 := Lib.hid (And.intro own9 (And.intro grow9 at9))
  clear own9 grow9 at9
  have f9 : w9.frozen? ⟨g, 1, none⟩ = false := B9.out.1.frozen 1
  refine hK.out _ _ B9.out.2 (fun hHeld => ?_)
  clear hK K
  try simp only [Act.put, List.setIfInBounds_toArray, List.set_cons_zero, List.set_cons_succ]
  refine AnyBut.ready (rs := [10]) (by kernel_rfl) (by simp) ?_
  refine ReadyBut.cons (by rw [List.getElem?_toArray]; rfl) (fun K hK => ?_) ReadyBut.nil
  go_simp
  refine hK.out _ _ hHeld (fun hHeld => ?_)
  clear hK K
  try simp only [Act.put, List.setIfInBounds_toArray, List.set_cons_zero, List.set_cons_succ]
  refine AnyBut.take (i := 11) (v := ?_) (by rw [List.getElem?_toArray]; rfl) (by kernel_rfl) (by kernel_rfl) (by kernel_rfl) (by kernel_rfl) (fun _ _ _ h => h) (Or.inl ⟨by rfl, ?_⟩) (by assumption) ?_
  rotate_left 1
  · (intro w_ hSw; (try dsimp only at hSw); go_simp; try with_reducible rfl)
  try simp only [Act.put, List.setIfInBounds_toArray, List.set_cons_zero, List.set_cons_succ]
  refine AnyBut.ready (rs := [12]) (by kernel_rfl) (by simp) ?_
  refine ReadyBut.last (by rw [List.getElem?_toArray]; rfl) (fun K hK => ?_)
  have c9 := hHeld.1
  go_simp
  refine hK.out _ _ ?_
  clear hK K
  try simp only [Act.put, List.setIfInBounds_toArray, List.set_cons_zero, List.set_cons_succ]
  refine AnyBut.done (by kernel_rfl) ?_ _
  refine NoPanic.normal ?_
  go_wp2_with fail
  go_ret
  exact ⟨rfl, HEND.out _ w9 HS9.out.1 HS9.out.2.1 HS9.out.2.2⟩
set_option maxRecDepth 100000 in
set_option maxHeartbeats 2000000 in
theorem put_new1 {w : World} {S : Nat → Prop} {g B : Nat} {v : Value} {rs0 : List Row} {f0 : V → Option Nat} {L : List (V × V)} (hD : DictAt w g B v rs0 f0 L) (hS : S g ∧ S B ∧ (∀ b, v.ownBlock = some b → S b ∨ w.heap.size ≤ b) ∧ (∀ i, S i → i < w.heap.size)) (x y : V) (hx : x.Ok) (hno : f0 x = none) (hk : isKey x = true) (hlen : L.length < 4096) (hp : 2 * L.length + 8 < rs0.length) :
    Calls Try.prog 15 #[.pointer (some ⟨g, 0, none⟩), .agg #[.int .i64 x.k, .int .i64 x.n, .string x.s], .agg #[.int .i64 y.k, .int .i64 y.n, .string y.s]] w fun e w' => e = .returned (.bool true) ∧ PutDone S g w L x y w' := by
  have hb := hD.blk.lt
  have c0 := hD.blk.cell 0
  have hl0 := hD.map.look hx
  rw [hno] at hl0
  have hrn0 := hD.rows
  simp only [List.getElem?_toArray, List.getElem?_cons_zero] at c0
  obtain ⟨k, n, s⟩ := x
  obtain ⟨k', n', s'⟩ := y
  have hl : ∀ o1 o2 q, (Instr.lookup 68 (.map (some B)) (.agg #[.int .i64 k, .int .i64 n, .string s]) true).run Try.prog (((w.alloc o1).alloc o2).drewN q) = .ok (.tuple #[.int .i64 0, .bool false]) (((w.alloc o1).alloc o2).drewN q) := fun o1 o2 q => by
    have := (hD.map.new (w' := ((w.alloc o1).alloc o2).drewN q) (by repeat (first | exact Below.refl _ _ | assumption | refine Below.setCell ?_ (by first | (simp; done) | (simp; omega) | omega) _ | refine below_drewN ?_ _ | refine Below.drew ?_ | refine Below.alloc ?_ (by first | (simp; done) | (simp; omega) | omega) _))).look hx
    rw [hno] at this
    exact this
  have HD0 := Lib.hid hD
  have HKY := Lib.hid hk
  have HOK := Lib.hid hx
  have HFN := Lib.hid hno
  have HS := Lib.hid hS
  have HLK := Lib.hid hlen
  clear hD hx hno hk hS hl0
  go_enter Try.func15, Try.ntmps15
  go_wp2_with fail
  go_quiet (fail)
  have HX0 := Lib.hid ((Blk.new w 24 #[.int .i64 k, .int .i64 n, .string s]).alloc (.cells #[.int .i64 k', .int .i64 n', .string s'] 24))
  have HY0 : Hid (Blk ((w.alloc (.cells #[.int .i64 k, .int .i64 n, .string s] 24)).alloc (.cells #[.int .i64 k', .int .i64 n', .string s'] 24)) (w.heap.size + 1) 24 #[.int .i64 k', .int .i64 n', .string s']) := Lib.hid (by
    have hh := Blk.new (w.alloc (.cells #[.int .i64 k, .int .i64 n, .string s] 24)) 24 #[.int .i64 k', .int .i64 n', .string s']
    rw [World.size_alloc] at hh
    exact hh)
  go_wp2_with (go_at_call 27; refine (dkey_any k n s _).mono ?_; rintro e w1 ⟨rfl, hb1⟩; rw [HKY.out]; have hb0 := (show Below w.heap.size w _ from (by repeat (first | exact Below.refl _ _ | assumption | refine Below.setCell ?_ (by first | (simp; done) | (simp; omega) | omega) _ | refine below_drewN ?_ _ | refine Below.drew ?_ | refine Below.alloc ?_ (by first | (simp; done) | (simp; omega) | omega) _))).trans (hb1.mono (by simp; omega)); have HX := Lib.hid (HX0.out.new' (w' := w1) ⟨hb1.os, hb1.tape, hb1.output, hb1.size, hb1.block⟩); have HY := Lib.hid (HY0.out.new' (w' := w1) ⟨hb1.os, hb1.tape, hb1.output, hb1.size, hb1.block⟩); have HD := Lib.hid (HD0.out.mod (T := fun _ => False) (Mod.new hb0) id id (fun _ _ => id)); have cg1 := (hb0.cell (p := ⟨g, 0, none⟩) hb).trans c0; have hln := HD.out.map.len; have HM := Lib.hid (Mod.new (S := S) hb0); clear hb1 hb0 c0 hl HX0 HY0)
  obtain ⟨b, c, rfl⟩ : ∃ b c, v = .slice (some ⟨b, 0, none⟩) rs0.length c := by
    rcases HD.out.own.2 with ⟨_, h0⟩ | ⟨b, c, _, e, _⟩
    · omega
    · exact ⟨b, c, e⟩
  have cg2 := HD.out.blk.cell 1
  simp only [List.getElem?_toArray, List.getElem?_cons_succ, List.getElem?_cons_zero] at cg2
  have hgw1 := HD.out.blk.lt
  have hlen := HLK.out
  have hln1 : ∀ (ty : TypeId) q, (Builtin.len_ #[68] ty #[.map (some B)]).run Try.prog (w1.drewN q) = .ok (.int .i64 L.length) (w1.drewN q) := fun ty q => (HD.out.map.new (w' := w1.drewN q) (by repeat (first | exact Below.refl _ _ | assumption | refine Below.setCell ?_ (by first | (simp; done) | (simp; omega) | omega) _ | refine below_drewN ?_ _ | refine Below.drew ?_ | refine Below.alloc ?_ (by first | (simp; done) | (simp; omega) | omega) _))).len ty
  clear hln
  go_quiet (fail)
  go_wp2_with fail
  refine (pack_any (HD.out.mod (w' := w1.drewN nq) (T := fun _ => False) (Mod.new (by repeat (first | exact Below.refl _ _ | assumption | refine Below.setCell ?_ (by first | (simp; done) | (simp; omega) | omega) _ | refine below_drewN ?_ _ | refine Below.drew ?_ | refine Below.alloc ?_ (by first | (simp; done) | (simp; omega) | omega) _))) id id (fun _ _ => id))).mono ?_
  rintro e W ⟨rfl, f1, hd1, hm1⟩
  obtain ⟨s1, s2, s3, s4⟩ := HS.out
  have hx1 := HX.out.lt
  have hy1 := HY.out.lt
  have hgw : g < w.heap.size := hb
  have hne : ∀ i, w.heap.size ≤ i → ∀ t cs, Blk w1 i t cs → t ≠ 73 → ¬ (i = g ∨ i = B ∨ i = b) := fun i hi t cs hk ht e => by
    rcases e with rfl | rfl | rfl
    · omega
    · exact HD.out.map.ne_blk hk rfl
    · exact own_blk_ne HD.out.own hk (Ne.symm ht) rfl
  obtain ⟨A, rs, f, HD2, HFN2, hrn, HS2⟩ : ∃ A rs f, Hid (DictAt W g B (.slice A rs.length c) rs f L) ∧ Hid (f ⟨k, n, s⟩ = none) ∧ rs.length ≤ 8200 ∧ Hid (S g ∧ S B ∧ (∀ b, (Value.slice A rs.length c).ownBlock = some b → S b ∨ w.heap.size ≤ b) ∧ (∀ i, S i → i < w.heap.size)) := by
    refine ⟨some ⟨b, 0, none⟩, L.map some, f1, ?_, ?_, ?_, s1, s2, fun b' e => s3 b' e, s4⟩
    · rw [List.length_map]; exact hd1
    · show f1 _ = none
      cases e : f1 ⟨k, n, s⟩ with
      | none => rfl
      | some i =>
        obtain ⟨z, hz⟩ := (hd1.keys _ _).1 e
        have h1 := hd1.keys.find hz
        rw [hd1.live, ← HD0.out.live, HD0.out.keys.no HFN.out] at h1
        cases h1
    · rw [List.length_map]; omega
  have HX2 := Lib.hid ((HX.out.new' (w' := w1.drewN nq) (by repeat (first | exact Below.refl _ _ | assumption | refine Below.setCell ?_ (by first | (simp; done) | (simp; omega) | omega) _ | refine below_drewN ?_ _ | refine Below.drew ?_ | refine Below.alloc ?_ (by first | (simp; done) | (simp; omega) | omega) _))).mod hm1 (hne _ (Nat.le_refl _) _ _ HX.out (by decide)))
  have HY2 := Lib.hid ((HY.out.new' (w' := w1.drewN nq) (by repeat (first | exact Below.refl _ _ | assumption | refine Below.setCell ?_ (by first | (simp; done) | (simp; omega) | omega) _ | refine below_drewN ?_ _ | refine Below.drew ?_ | refine Below.alloc ?_ (by first | (simp; done) | (simp; omega) | omega) _))).mod hm1 (hne _ (by omega) _ _ HY.out (by decide)))
  have HM2 : Hid (Mod S w W) := Lib.hid ((show Mod (fun i => S i ∨ w.heap.size ≤ i) w W from ((HM.out.drewN nq).mono (fun i _ h => Or.inl h)).trans hm1 (fun i _ e => by
    rcases e with rfl | rfl | rfl
    · exact .inl s1
    · exact .inl s2
    · exact s3 _ rfl)).mono (fun i hi e => e.elim id (fun h => absurd hi (by omega))))
  clear HD HX HY HM cg1 cg2 hgw1 hlen hln1 HD0 HFN HS hne hd1 hm1 s1 s2 s3 s4 hx1 hy1 hgw
  obtain ⟨HD, HX, HY, HM, HFN, HS⟩ := And.intro HD2 (And.intro HX2 (And.intro HY2 (And.intro HM2 (And.intro HFN2 HS2))))
  clear HD2 HX2 HY2 HM2 HFN2 HS2
  have cg0 := HD.out.blk.cell 0
  have cg1 := HD.out.blk.cell 1
  have x0 := HX.out.cell 0
  have x1 := HX.out.cell 1
  have x2 := HX.out.cell 2
  simp only [List.getElem?_toArray, List.getElem?_cons_zero, List.getElem?_cons_succ] at cg0 cg1 x0 x1 x2
  have hgl := HD.out.blk.lt
  have hxl := HX.out.lt
  have hyl := HY.out.lt
  have hgB := HD.out.ne_gB
  have hxB : ¬ w.heap.size = B := fun e => HD.out.map.ne_blk HX.out e.symm
  have hyB : ¬ w.heap.size + 1 = B := fun e => HD.out.map.ne_blk HY.out e.symm
  obtain ⟨w4, hrun4, map4, mod4⟩ := MapAt.store (x := ⟨k, n, s⟩) (HD.out.map.new (w' := W.drew) (by repeat (first | exact Below.refl _ _ | assumption | refine Below.setCell ?_ (by first | (simp; done) | (simp; omega) | omega) _ | refine below_drewN ?_ _ | refine Below.drew ?_ | refine Below.alloc ?_ (by first | (simp; done) | (simp; omega) | omega) _))) HOK.out (i := rs.length) (by omega) (by unfold maxLen; omega)
  simp only [V.v] at hrun4
  rw [HFN.out] at map4
  simp only [Option.isSome_none, Bool.false_eq_true, if_false] at map4
  have m04 : Mod (· = B) W w4 := ⟨mod4.os, mod4.tape, mod4.output, mod4.size, mod4.block⟩
  have HK4 := Lib.hid (And.intro ((m04.cell (p := ⟨g, 0, none⟩) hgl hgB).trans cg0) (And.intro ((m04.cell (p := ⟨g, 1, none⟩) hgl hgB).trans cg1) (And.intro ((m04.cell (p := ⟨w.heap.size, 0, none⟩) hxl hxB).trans x0) (And.intro ((m04.cell (p := ⟨w.heap.size, 1, none⟩) hxl hxB).trans x1) ((m04.cell (p := ⟨w.heap.size, 2, none⟩) hxl hxB).trans x2)))))
  have HMAP4 := Lib.hid map4
  have HM04 := Lib.hid m04
  clear map4 mod4 m04
  go_wp2_with fail
  go_region_held3 (fun w' => w'.cell? ⟨g, 0, none⟩ = some (.map (some B)) ∧ w'.cell? ⟨g, 1, none⟩ = some (.slice A rs.length c) ∧ w'.cell? ⟨w.heap.size, 0, none⟩ = some (.int .i64 k) ∧ w'.cell? ⟨w.heap.size, 1, none⟩ = some (.int .i64 n) ∧ w'.cell? ⟨w.heap.size, 2, none⟩ = some (.string s)) (first | exact HK4.out | go_keep)
    (fail)
  clear cg0 cg1 x0 x1 x2 hrun4
  have HBG := Lib.hid (HD.out.blk.mod HM04.out hgB)
  have HBX := Lib.hid (HX.out.mod HM04.out hxB)
  have HBY := Lib.hid (HY.out.mod HM04.out hyB)
  have HD4 : Hid (Cells4 w4 g B A rs.length c w.heap.size (w.heap.size + 1) #[.int .i64 k, .int .i64 n, .string s] #[.int .i64 k', .int .i64 n', .string s']) := Lib.hid ⟨HBG.out, HBX.out, HBY.out⟩
  have HOW := Lib.hid (HD.out.own.mod HM04.out (fun b e => by
    rintro rfl
    exact HD.out.ne_B e))
  have hend := put_end HS.out HD.out HM.out HFN.out HM04.out HMAP4.out ⟨k', n', s'⟩ HLK.out HOK.out HKY.out hrn
  have HEND0 := Lib.hid hend
  clear hend
  go_wp2_with fail
  refine wp_region_noPanic ?_
  obtain ⟨i0, hi, hz0, hz1, hz2⟩ := info_parts info_R
  refine AnyBut.start (S := fun w' => w'.cell? ⟨g, 1, none⟩ = some (.slice A rs.length c) ∧ w'.cell? ⟨w.heap.size, 0, none⟩ = some (.int .i64 k) ∧ w'.cell? ⟨w.heap.size, 1, none⟩ = some (.int .i64 n) ∧ w'.cell? ⟨w.heap.size, 2, none⟩ = some (.string s) ∧ w'.cell? ⟨w.heap.size + 1, 0, none⟩ = some (.int .i64 k') ∧ w'.cell? ⟨w.heap.size + 1, 1, none⟩ = some (.int .i64 n') ∧ w'.cell? ⟨w.heap.size + 1, 2, none⟩ = some (.string s')) 12 (by kernel_rfl) (HD4.out.held (by exact (by repeat (first | exact Below.refl _ _ | assumption | refine Below.setCell ?_ (by first | (simp; done) | (simp; omega) | omega) _ | refine below_drewN ?_ _ | refine Below.drew ?_ | refine Below.alloc ?_ (by first | (simp; done) | (simp; omega) | omega) _)))) (fun hHeld => ?_)
  have HO4 : Hid (Own w4.drew 73 7 (.slice A rs.length c) rs.length (rcs rs)) := Lib.hid (HOW.out.new (by exact (by repeat (first | exact Below.refl _ _ | assumption | refine Below.setCell ?_ (by first | (simp; done) | (simp; omega) | omega) _ | refine below_drewN ?_ _ | refine Below.drew ?_ | refine Below.alloc ?_ (by first | (simp; done) | (simp; omega) | omega) _))))
  have HD4' : Hid (Cells4 w4.drew g B A rs.length c w.heap.size (w.heap.size + 1) #[.int .i64 k, .int .i64 n, .string s] #[.int .i64 k', .int .i64 n', .string s']) := Lib.hid (HD4.out.new (by exact (by repeat (first | exact Below.refl _ _ | assumption | refine Below.setCell ?_ (by first | (simp; done) | (simp; omega) | omega) _ | refine below_drewN ?_ _ | refine Below.drew ?_ | refine Below.alloc ?_ (by first | (simp; done) | (simp; omega) | omega) _))))
  have HEND : Hid (∀ v9 w9, Own w9 73 7 v9 (rs.length + 1) (rcs rs ++ Row.cs (some (⟨k, n, s⟩, ⟨k', n', s'⟩))) → (w4.drew.alloc (.cells (Row.cs (some (⟨k, n, s⟩, ⟨k', n', s'⟩))).toArray 73)).grownBy w9 (Value.slice A rs.length c).ownBlock → (v9.ownBlock = (Value.slice A rs.length c).ownBlock ∨ v9.ownBlock = some (w4.drew.alloc (.cells (Row.cs (some (⟨k, n, s⟩, ⟨k', n', s'⟩))).toArray 73)).heap.size) → PutDone S g w L ⟨k, n, s⟩ ⟨k', n', s'⟩ (w9.setCell ⟨g, 1, none⟩ v9)) := Lib.hid HEND0.out
  have HF : Hid (Apart4 w4.drew g w.heap.size (w.heap.size + 1) (Value.slice A rs.length c)) := Lib.hid (HD4'.out.apart HO4.out)
  clear HEND0 HOW HD4
  have HD4 := HD4'
  have HALL : Hid (∀ w', Below w4.drew.heap.size w4.drew w' → (fun w' => w'.cell? ⟨g, 1, none⟩ = some (.slice A rs.length c) ∧ w'.cell? ⟨w.heap.size, 0, none⟩ = some (.int .i64 k) ∧ w'.cell? ⟨w.heap.size, 1, none⟩ = some (.int .i64 n) ∧ w'.cell? ⟨w.heap.size, 2, none⟩ = some (.string s) ∧ w'.cell? ⟨w.heap.size + 1, 0, none⟩ = some (.int .i64 k') ∧ w'.cell? ⟨w.heap.size + 1, 1, none⟩ = some (.int .i64 n') ∧ w'.cell? ⟨w.heap.size + 1, 2, none⟩ = some (.string s')) w') := Lib.hid fun w' hb => HD4.out.held hb
  clear HD4'
  generalize w4.drew = Wd at *
  refine AnyBut.take (i := 0) (v := ?_) (by rw [List.getElem?_toArray]; rfl) (by kernel_rfl) (by kernel_rfl) (by kernel_rfl) (by kernel_rfl) (fun _ _ _ h => h) (Or.inl ⟨by rfl, ?_⟩) (by assumption) ?_
  rotate_left 1
  · (intro w_ hSw; (try dsimp only at hSw); go_simp; try with_reducible rfl)
  try simp only [Act.put, List.setIfInBounds_toArray, List.set_cons_zero, List.set_cons_succ]
  refine AnyBut.take (i := 1) (v := ?_) (by rw [List.getElem?_toArray]; rfl) (by kernel_rfl) (by kernel_rfl) (by kernel_rfl) (by kernel_rfl) (fun _ _ _ h => h) (Or.inl ⟨by rfl, ?_⟩) (by assumption) ?_
  rotate_left 1
  · (intro w_ hSw; (try dsimp only at hSw); go_simp; try with_reducible rfl)
  try simp only [Act.put, List.setIfInBounds_toArray, List.set_cons_zero, List.set_cons_succ]
  refine AnyBut.take (i := 2) (v := ?_) (by rw [List.getElem?_toArray]; rfl) (by kernel_rfl) (by kernel_rfl) (by kernel_rfl) (by kernel_rfl) (fun _ _ _ h => h) (Or.inl ⟨by rfl, ?_⟩) (by assumption) ?_
  rotate_left 1
  · (intro w_ hSw; (try dsimp only at hSw); go_simp; try with_reducible rfl)
  try simp only [Act.put, List.setIfInBounds_toArray, List.set_cons_zero, List.set_cons_succ]
  refine AnyBut.take (i := 3) (v := ?_) (by rw [List.getElem?_toArray]; rfl) (by kernel_rfl) (by kernel_rfl) (by kernel_rfl) (by kernel_rfl) (fun _ _ _ h => h) (Or.inl ⟨by rfl, ?_⟩) (by assumption) ?_
  rotate_left 1
  · (intro w_ hSw; (try dsimp only at hSw); go_simp; try with_reducible rfl)
  try simp only [Act.put, List.setIfInBounds_toArray, List.set_cons_zero, List.set_cons_succ]
  refine AnyBut.take (i := 4) (v := ?_) (by rw [List.getElem?_toArray]; rfl) (by kernel_rfl) (by kernel_rfl) (by kernel_rfl) (by kernel_rfl) (fun _ _ _ h => h) (Or.inl ⟨by rfl, ?_⟩) (by assumption) ?_
  rotate_left 1
  · (intro w_ hSw; (try dsimp only at hSw); go_simp; try with_reducible rfl)
  try simp only [Act.put, List.setIfInBounds_toArray, List.set_cons_zero, List.set_cons_succ]
  refine AnyBut.take (i := 5) (v := ?_) (by rw [List.getElem?_toArray]; rfl) (by kernel_rfl) (by kernel_rfl) (by kernel_rfl) (by kernel_rfl) (fun _ _ _ h => h) (Or.inl ⟨by rfl, ?_⟩) (by assumption) ?_
  rotate_left 1
  · (intro w_ hSw; (try dsimp only at hSw); go_simp; try with_reducible rfl)
  try simp only [Act.put, List.setIfInBounds_toArray, List.set_cons_zero, List.set_cons_succ]
  refine AnyBut.take (i := 6) (v := ?_) (by rw [List.getElem?_toArray]; rfl) (by kernel_rfl) (by kernel_rfl) (by kernel_rfl) (by kernel_rfl) (fun _ _ _ h => h) (Or.inl ⟨by rfl, ?_⟩) (by assumption) ?_
  rotate_left 1
  · (intro w_ hSw; (try dsimp only at hSw); go_simp; try with_reducible rfl)
  try simp only [Act.put, List.setIfInBounds_toArray, List.set_cons_zero, List.set_cons_succ]
  refine AnyBut.take (i := 7) (v := ?_) (by rw [List.getElem?_toArray]; rfl) (by kernel_rfl) (by kernel_rfl) (by kernel_rfl) (by kernel_rfl) (fun _ _ _ h => h) (Or.inl ⟨by rfl, ?_⟩) (by assumption) ?_
  rotate_left 1
  · (intro w_ hSw; (try dsimp only at hSw); go_simp; try with_reducible rfl)
  try simp only [Act.put, List.setIfInBounds_toArray, List.set_cons_zero, List.set_cons_succ]
  refine AnyBut.ready (rs := [8]) (by kernel_rfl) (by simp) ?_
  refine ReadyBut.cons (by rw [List.getElem?_toArray]; rfl) (fun K hK => ?_) ReadyBut.nil
  go_simp
  refine hK.out _ _ (HALL.out _ (by exact (by repeat (first | exact Below.refl _ _ | assumption | refine Below.setCell ?_ (by first | (simp; done) | (simp; omega) | omega) _ | refine below_drewN ?_ _ | refine Below.drew ?_ | refine Below.alloc ?_ (by first | (simp; done) | (simp; omega) | omega) _)))) (fun hHeld => ?_)
  clear hK K
  try simp only [Act.put, List.setIfInBounds_toArray, List.set_cons_zero, List.set_cons_succ]
  refine AnyBut.ready (rs := [9]) (by kernel_rfl) (by simp) ?_
  refine ReadyBut.cons (by rw [List.getElem?_toArray]; rfl) (fun K hK => ?_) ReadyBut.nil
  refine step_append_Own _ rfl (.tmp 69) (.tmp 73) 69 rfl 73 i0 _ 7 72 Try.underlying69 hi hz0 hz1 hz2 rfl (.slice A rs.length c) rs.length (rcs rs) rfl (by exact HO4.out.new (by exact (by repeat (first | exact Below.refl _ _ | assumption | refine Below.setCell ?_ (by first | (simp; done) | (simp; omega) | omega) _ | refine below_drewN ?_ _ | refine Below.drew ?_ | refine Below.alloc ?_ (by first | (simp; done) | (simp; omega) | omega) _)))) (some ⟨Wd.heap.size, 0, none⟩) 1 1 (Row.cs (some (⟨k, n, s⟩, ⟨k', n', s'⟩))) rfl (by exact row_rd Wd _) (by exact row_one _) (by omega) (by omega) ?_
  intro v9 w9 own9 grow9 at9
  obtain ⟨A9, k9, rfl, -, -⟩ := Own.rd own9
  have B9 := Lib.hid (HD4.out.after HF.out own9 grow9)
  have HS9 := Lib.hid (And.intro own9 (And.intro grow9 at9))
  clear own9 grow9 at9
  have f9 : w9.frozen? ⟨g, 1, none⟩ = false := B9.out.1.frozen 1
  refine hK.out _ _ B9.out.2 (fun hHeld => ?_)
  clear hK K
  try simp only [Act.put, List.setIfInBounds_toArray, List.set_cons_zero, List.set_cons_succ]
  refine AnyBut.ready (rs := [10]) (by kernel_rfl) (by simp) ?_
  refine ReadyBut.cons (by rw [List.getElem?_toArray]; rfl) (fun K hK => ?_) ReadyBut.nil
  go_simp
  refine hK.out _ _ hHeld (fun hHeld => ?_)
  clear hK K
  try simp only [Act.put, List.setIfInBounds_toArray, List.set_cons_zero, List.set_cons_succ]
  refine AnyBut.take (i := 11) (v := ?_) (by rw [List.getElem?_toArray]; rfl) (by kernel_rfl) (by kernel_rfl) (by kernel_rfl) (by kernel_rfl) (fun _ _ _ h => h) (Or.inl ⟨by rfl, ?_⟩) (by assumption) ?_
  rotate_left 1
  · (intro w_ hSw; (try dsimp only at hSw); go_simp; try with_reducible rfl)
  try simp only [Act.put, List.setIfInBounds_toArray, List.set_cons_zero, List.set_cons_succ]
  refine AnyBut.ready (rs := [12]) (by kernel_rfl) (by simp) ?_
  refine ReadyBut.last (by rw [List.getElem?_toArray]; rfl) (fun K hK => ?_)
  have c9 := hHeld.1
  go_simp
  refine hK.out _ _ ?_
  clear hK K
  try simp only [Act.put, List.setIfInBounds_toArray, List.set_cons_zero, List.set_cons_succ]
  refine AnyBut.done (by kernel_rfl) ?_ _
  refine NoPanic.normal ?_
  go_wp2_with fail
  go_ret
  exact ⟨rfl, HEND.out _ w9 HS9.out.1 HS9.out.2.1 HS9.out.2.2⟩
theorem IsDict.mono {w : World} {S T : Nat → Prop} {g : Nat} {L : List (V × V)} (h : IsDict w S g L) (hST : ∀ i, S i → T i) (hT : ∀ i, T i → i < w.heap.size) : IsDict w T g L := by
  obtain ⟨B, v, rs, f, h, h1, h2, h3, _⟩ := h
  exact ⟨B, v, rs, f, h, hST _ h1, hST _ h2, fun b e => hST _ (h3 b e), hT⟩
theorem IsDict.lt {w : World} {S : Nat → Prop} {g : Nat} {L : List (V × V)} (h : IsDict w S g L) : ∀ i, S i → i < w.heap.size := by
  obtain ⟨_, _, _, _, _, _, _, _, h⟩ := h
  exact h
theorem IsDict.grew {w w' : World} {S : Nat → Prop} {g : Nat} {L : List (V × V)} (h : IsDict w' S g L) : IsDict w' (Grew S w w') g L := h.mono (fun i hi => .inl hi) (fun _ hi => hi.elim (fun h' => h.lt _ h') (fun h' => h'.2))
theorem put_new {w : World} {S : Nat → Prop} {g : Nat} {L : List (V × V)} (h : IsDict w S g L) (x y : V) (hx : x.Ok) (hno : findL L x = none) (hk : isKey x = true) (hlen : L.length < 4096) :
    Calls Try.prog 15 #[.pointer (some ⟨g, 0, none⟩), .agg #[.int .i64 x.k, .int .i64 x.n, .string x.s], .agg #[.int .i64 y.k, .int .i64 y.n, .string y.s]] w fun e w' => e = .returned (.bool true) ∧ IsDict w' (Grew S w w') g (L ++ [(x, y)]) ∧ Mod S w w' := by
  obtain ⟨B, v, rs, f, hD, s1, s2, s3, s4⟩ := h
  have hf : f x = none := by
    cases e : f x with
    | none => rfl
    | some i =>
      obtain ⟨z, hz⟩ := (hD.keys _ _).1 e
      have := hD.keys.find hz
      rw [hD.live, hno] at this
      cases this
  by_cases hp : rs.length ≤ 2 * L.length + 8
  · exact put_new0 hD ⟨s1, s2, fun b e => .inl (s3 b e), s4⟩ x y hx hf hk hlen hp
  · exact put_new1 hD ⟨s1, s2, fun b e => .inl (s3 b e), s4⟩ x y hx hf hk hlen (by omega)
/-- what Put does to the pairs -/
def putOk (L : List (V × V)) (x : V) : Bool := (findL L x).isSome || (isKey x && decide (L.length < 4096))
def putR (L : List (V × V)) (x y : V) : List (V × V) := if (findL L x).isSome then putL L x y else if isKey x && decide (L.length < 4096) then L ++ [(x, y)] else L
theorem put_any {w : World} {S : Nat → Prop} {g : Nat} {L : List (V × V)} (h : IsDict w S g L) (x y : V) (hx : x.Ok) :
    Calls Try.prog 15 #[.pointer (some ⟨g, 0, none⟩), .agg #[.int .i64 x.k, .int .i64 x.n, .string x.s], .agg #[.int .i64 y.k, .int .i64 y.n, .string y.s]] w fun e w' => e = .returned (.bool (putOk L x)) ∧ IsDict w' (Grew S w w') g (putR L x y) ∧ Mod S w w' := by
  cases e : (findL L x).isSome with
  | true =>
    refine (put_there h x y hx e).mono ?_
    rintro e' w' ⟨rfl, h1, h2⟩
    exact ⟨by simp [putOk, e], by simp only [putR, e, if_true]; exact h1.grew, h2⟩
  | false =>
    have hno : findL L x = none := by simpa using e
    by_cases hk : isKey x = true ∧ L.length < 4096
    · refine (put_new h x y hx hno hk.1 hk.2).mono ?_
      rintro e' w' ⟨rfl, h1, h2⟩
      exact ⟨by simp [putOk, e, hk.1, hk.2], by simp only [putR, e, hk.1, hk.2, decide_true, Bool.and_self, if_true, Bool.false_eq_true, if_false]; exact h1, h2⟩
    · have hk' : isKey x = false ∨ 4096 ≤ L.length := by
        cases hh : isKey x with
        | false => exact .inl rfl
        | true => exact .inr (by rcases Nat.lt_or_ge L.length 4096 with h' | h'; exact absurd ⟨hh, h'⟩ hk; exact h')
      have hb : (isKey x && decide (L.length < 4096)) = false := by
        rcases hk' with h' | h'
        · simp [h']
        · simp; intro _; omega
      refine (put_no h x y hx hno hk').mono ?_
      rintro e' w' ⟨rfl, h1⟩
      exact ⟨by simp [putOk, e, hb], by simp only [putR, e, hb, Bool.false_eq_true, if_false]; exact (h.new h1).grew, Mod.new h1⟩
end Go.Proofs.Ytfdihmbmlhlkgaa
