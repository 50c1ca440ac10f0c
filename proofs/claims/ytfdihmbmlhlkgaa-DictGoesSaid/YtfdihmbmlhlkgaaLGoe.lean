/- DictGoes: the walk. -/
import Derived.Test.YtfdihmbmlhlkgaaQrd
import Derived.Outline
namespace Go.Proofs.Ytfdihmbmlhlkgaa
open Go.RowKit Go.Shelf
attribute [local go_sem] Oper.semAt_some
attribute [local go_sem high] guardV eqV neqV guardP neqP

/-- what stays, while the law goes over the pairs -/
structure GoK (w0 : World) (b0 b8 b10 be : Nat) (A1 : Option Addr) (n1 c1 : Nat) (s : Nat) (g : Nat) (Aw : Option Addr) (cw : Nat) (L : List (V × V)) (W : World) : Prop where
  p4 : Blk W b0 22 #[.slice A1 n1 c1]
  p5 : Blk W (b0 + 1) 5 #[.int .u8 s]
  p6 : Blk W (b0 + 1 + 1) 4 #[.bool false]
  p8 : Blk W b8 27 #[.pointer (some ⟨g, 0, none⟩)]
  p10 : Blk W b10 39 #[.slice Aw L.length cw]
  pe : Blk W be 27 #[.pointer (some ⟨g, 0, none⟩)]
  was : Own W 42 6 (.slice Aw L.length cw) L.length (pcs L)
  d : ∃ M, NewD w0 W g M
section
variable {w0 W W' : World} {b0 b8 b10 be n1 c1 s g cw : Nat} {A1 Aw : Option Addr} {L : List (V × V)}
theorem GoK.new (h : GoK w0 b0 b8 b10 be A1 n1 c1 s g Aw cw L W) (hb : Below W.heap.size W W') : GoK w0 b0 b8 b10 be A1 n1 c1 s g Aw cw L W' := by
  obtain ⟨M, hd⟩ := h.d
  exact ⟨h.p4.new' hb, h.p5.new' hb, h.p6.new' hb, h.p8.new' hb, h.p10.new' hb, h.pe.new' hb, Own.new h.was hb, M, hd.new hb⟩
theorem GoK.on {B0 : Nat} {row : Option Nat} (h : GoK w0 b0 b8 b10 be A1 n1 c1 s g Aw cw L W) (hw : w0.heap.size ≤ B0) (hgB : g ≤ B0) (hg : W.grownBy W' row) (hr : ∀ r, row = some r → B0 ≤ r ∧ ∃ o : Obj, W.heap[r]? = some o ∧ o.isCells = false) : GoK w0 b0 b8 b10 be A1 n1 c1 s g Aw cw L W' := by
  obtain ⟨M, hd⟩ := h.d
  exact ⟨h.p4.on hg hr, h.p5.on hg hr, h.p6.on hg hr, h.p8.on hg hr, h.p10.on hg hr, h.pe.on hg hr, Own.on h.was hg hr, M, hd.on hw hgB hg hr⟩
/-- a box of ints is stored into -/
theorem GoK.set (h : GoK w0 b0 b8 b10 be A1 n1 c1 s g Aw cw L W) {b : Nat} {cs : Array Value} (hb : Blk W b 3 cs) (hb0 : w0.heap.size ≤ b) (u : Value) : GoK w0 b0 b8 b10 be A1 n1 c1 s g Aw cw L (W.setCell ⟨b, 0, none⟩ u) := by
  obtain ⟨M, hd⟩ := h.d
  have hm : Mod (· = b) W (W.setCell ⟨b, 0, none⟩ u) := (Mod.refl (· = b) W).setCell (p := ⟨b, 0, none⟩) (fun _ => rfl) _
  refine ⟨h.p4.mod hm (Blk.ne_ h.p4 hb (by decide)), h.p5.mod hm (Blk.ne_ h.p5 hb (by decide)), h.p6.mod hm (Blk.ne_ h.p6 hb (by decide)), h.p8.mod hm (Blk.ne_ h.p8 hb (by decide)), h.p10.mod hm (Blk.ne_ h.p10 hb (by decide)), h.pe.mod hm (Blk.ne_ h.pe hb (by decide)), Own.mod h.was hm (fun b' e e' => own_blk_ne h.was hb (by decide) (by rw [e, e'])), M, hd.set hb (by decide) (by decide) hb0 0 u⟩
/-- the dict is turned -/
theorem GoK.foot {S : Nat → Prop} {M M' : List (V × V)} (h : GoK w0 b0 b8 b10 be A1 n1 c1 s g Aw cw L W) (hd : NewD w0 W g M) (hd' : IsDict W' (Grew (Foot W g) W W') g M') (hm : Mod (Foot W g) W W') (hS : IsDict W S g M) : GoK w0 b0 b8 b10 be A1 n1 c1 s g Aw cw L W' :=
  ⟨foot_blk hS hm h.p4 (by decide) (by decide), foot_blk hS hm h.p5 (by decide) (by decide), foot_blk hS hm h.p6 (by decide) (by decide), foot_blk hS hm h.p8 (by decide) (by decide), foot_blk hS hm h.p10 (by decide) (by decide), foot_blk hS hm h.pe (by decide) (by decide), foot_own hS hm h.was (by decide) (by decide), M', hd.put hd' hm⟩
end
/-- .. and the count so far -/
structure GoSt (w0 : World) (b0 b8 b10 be bn : Nat) (A1 : Option Addr) (n1 c1 : Nat) (s : Nat) (g : Nat) (Aw : Option Addr) (cw : Nat) (L : List (V × V)) (pre : List (V × V)) (W : World) : Prop where
  k : GoK w0 b0 b8 b10 be A1 n1 c1 s g Aw cw L W
  n : Blk W bn 3 #[.int .i64 pre.length]
  pre : pre <+: L

section
variable {w0 W W' : World} {b0 b8 b10 be bn n1 c1 s g cw : Nat} {A1 Aw : Option Addr} {L pre : List (V × V)}
theorem GoSt.new (h : GoSt w0 b0 b8 b10 be bn A1 n1 c1 s g Aw cw L pre W) (hb : Below W.heap.size W W') : GoSt w0 b0 b8 b10 be bn A1 n1 c1 s g Aw cw L pre W' := ⟨h.k.new hb, h.n.new' hb, h.pre⟩
theorem GoSt.on {B0 : Nat} {row : Option Nat} (h : GoSt w0 b0 b8 b10 be bn A1 n1 c1 s g Aw cw L pre W) (hw : w0.heap.size ≤ B0) (hgB : g ≤ B0) (hg : W.grownBy W' row) (hr : ∀ r, row = some r → B0 ≤ r ∧ ∃ o : Obj, W.heap[r]? = some o ∧ o.isCells = false) : GoSt w0 b0 b8 b10 be bn A1 n1 c1 s g Aw cw L pre W' := ⟨h.k.on hw hgB hg hr, h.n.on hg hr, h.pre⟩
end
/-- a store into a box of another type keeps the rest -/
theorem box_kp {W W' : World} {b g B : Nat} {t : TypeId} {cs : Array Value} (n1 : t ≠ 71) (n2 : t ≠ 73) (h : Blk W b t cs) (hm : Mod (· = b) W W') : KeepsFrom B W W' ∧ KpRows g W W' :=
  ⟨hm.from B fun i o hi ho => .inl (by subst hi; unfold Blk at h; rw [h] at ho; cases ho; rfl), .of_same hm.size fun b' t' cs' hb ht => hb.mod hm (by
    rintro rfl
    refine Blk.ne_ hb h ?_ rfl
    rcases ht with rfl | rfl <;> first | exact Ne.symm n1 | exact Ne.symm n2)⟩
theorem GoSt.step {w0 W : World} {b0 b8 b10 be bn n1 c1 s g cw B : Nat} {A1 Aw : Option Addr} {L pre : List (V × V)} {x : V × V} (hk : GoK w0 b0 b8 b10 be A1 n1 c1 s g Aw cw L W) (hn : Blk W bn 3 #[.int .i64 pre.length]) (hb0 : w0.heap.size ≤ bn) (hpx : pre ++ [x] <+: L) :
    KeepsFrom B W (W.setCell ⟨bn, 0, none⟩ (.int .i64 (pre.length + 1))) ∧ KpRows g W (W.setCell ⟨bn, 0, none⟩ (.int .i64 (pre.length + 1))) ∧ GoSt w0 b0 b8 b10 be bn A1 n1 c1 s g Aw cw L (pre ++ [x]) (W.setCell ⟨bn, 0, none⟩ (.int .i64 (pre.length + 1))) := by
  have hm : Mod (· = bn) W (W.setCell ⟨bn, 0, none⟩ (.int .i64 (pre.length + 1))) := (Mod.refl (· = bn) W).setCell (p := ⟨bn, 0, none⟩) (fun _ => rfl) _
  obtain ⟨h1, h2⟩ := box_kp (B := B) (g := g) (by decide) (by decide) hn hm
  refine ⟨h1, h2, hk.set hn hb0 _, ?_, hpx⟩
  have := hn.set_ 0 (.int .i64 (pre.length + 1))
  rw [List.length_append, List.length_singleton]
  exact this
/-- what holds while it is gone over anew: part of them so far -/
structure GoEnd (w0 : World) (b0 b8 b10 be bn bp D : Nat) (A1 : Option Addr) (n1 c1 : Nat) (s : Nat) (g : Nat) (Aw : Option Addr) (cw : Nat) (L M : List (V × V)) (part : Nat) (W : World) : Prop where
  k : GoK w0 b0 b8 b10 be A1 n1 c1 s g Aw cw L W
  n : Blk W bn 3 #[.int .i64 L.length]
  p : Blk W bp 3 #[.int .i64 part]
  d : NewD w0 W g M
  mark : W.heap[D]? = some (.deferred (some []))
section
variable {w0 W W' : World} {b0 b8 b10 be bn bp D n1 c1 s g cw part : Nat} {A1 Aw : Option Addr} {L M : List (V × V)}
theorem GoEnd.on {B0 : Nat} {row : Option Nat} (h : GoEnd w0 b0 b8 b10 be bn bp D A1 n1 c1 s g Aw cw L M part W) (hw : w0.heap.size ≤ B0) (hgB : g ≤ B0) (hD : D < B0) (hg : W.grownBy W' row) (hr : ∀ r, row = some r → B0 ≤ r ∧ ∃ o : Obj, W.heap[r]? = some o ∧ o.isCells = false) : GoEnd w0 b0 b8 b10 be bn bp D A1 n1 c1 s g Aw cw L M part W' :=
  ⟨h.k.on hw hgB hg hr, h.n.on hg hr, h.p.on hg hr, h.d.on hw hgB hg hr, (hg.block D (Array.getElem?_eq_some_iff.1 h.mark).1 (fun e => by have := (hr D e.symm).1; omega)).trans h.mark⟩
theorem GoEnd.step {B : Nat} (h : GoEnd w0 b0 b8 b10 be bn bp D A1 n1 c1 s g Aw cw L M part W) (hb0 : w0.heap.size ≤ bp ∧ bn ≠ bp) :
    KeepsFrom B W (W.setCell ⟨bp, 0, none⟩ (.int .i64 (part + 1))) ∧ KpRows g W (W.setCell ⟨bp, 0, none⟩ (.int .i64 (part + 1))) ∧ GoEnd w0 b0 b8 b10 be bn bp D A1 n1 c1 s g Aw cw L M (part + 1) (W.setCell ⟨bp, 0, none⟩ (.int .i64 (part + 1))) := by
  have hm : Mod (· = bp) W (W.setCell ⟨bp, 0, none⟩ (.int .i64 (part + 1))) := (Mod.refl (· = bp) W).setCell (p := ⟨bp, 0, none⟩) (fun _ => rfl) _
  obtain ⟨h1, h2⟩ := box_kp (B := B) (g := g) (by decide) (by decide) h.p hm
  refine ⟨h1, h2, h.k.set h.p hb0.1 _, h.n.mod hm hb0.2, h.p.set_ 0 (.int .i64 (part + 1)), h.d.set h.p (by decide) (by decide) hb0.1 0 _, (hm.block D (Array.getElem?_eq_some_iff.1 h.mark).1 ?_).trans h.mark⟩
  rintro rfl
  have h3 := h.p
  have h4 := h.mark
  unfold Blk at h3
  rw [h3] at h4
  cases h4
end
theorem GoEnd.fin {w w0 W : World} {b0 b8 b10 be bn bp D D2 n1 c1 s g cw part : Nat} {A1 Aw : Option Addr} {L M : List (V × V)} (h : GoEnd w0 b0 b8 b10 be bn bp D A1 n1 c1 s g Aw cw L M part W) (hb0 : w.heap.size ≤ b0) (hb : Below w.heap.size w w0) (hdef2 : W.heap[D2]? = some (.deferred (some []))) (hD : w.heap.size ≤ D) (hD2 : D < D2) :
    Marks w (W.setCell ⟨b0 + 1 + 1, 0, none⟩ (.bool true)) [D2, D] ∧ Below w.heap.size w (W.setCell ⟨b0 + 1 + 1, 0, none⟩ (.bool true)) ∧ Blk (W.setCell ⟨b0 + 1 + 1, 0, none⟩ (.bool true)) (b0 + 1 + 1) 4 #[.bool true] := by
  have hm : Mod (· = b0 + 1 + 1) W (W.setCell ⟨b0 + 1 + 1, 0, none⟩ (.bool true)) := (Mod.refl (· = b0 + 1 + 1) W).setCell (p := ⟨b0 + 1 + 1, 0, none⟩) (fun _ => rfl) _
  have hne : ∀ E, W.heap[E]? = some (.deferred (some [])) → ¬ E = b0 + 1 + 1 := by
    rintro E hE rfl
    have h3 := h.k.p6
    unfold Blk at h3
    rw [h3] at hE
    cases hE
  have hbW : Below w.heap.size w W := hb.trans (h.d.tight.2.2.mono hb.size)
  refine ⟨⟨by simp; omega, fun E hE => ?_, fun E hE => ?_⟩, hbW.setCell (show w.heap.size ≤ b0 + 1 + 1 by omega) _, h.k.p6.set_ 0 (.bool true)⟩
  · simp only [List.mem_cons, List.not_mem_nil, or_false] at hE
    rcases hE with rfl | rfl
    · exact (hm.block _ (Array.getElem?_eq_some_iff.1 hdef2).1 (hne _ hdef2)).trans hdef2
    · exact (hm.block _ (Array.getElem?_eq_some_iff.1 h.mark).1 (hne _ h.mark)).trans h.mark
  · simp only [List.mem_cons, List.not_mem_nil, or_false] at hE
    omega
set_option maxRecDepth 100000 in
set_option maxHeartbeats 8000000 in
theorem goes_walk (A0 : Option Addr) (n0 c0 : Nat) (l0 : List CallD) (A1 : Option Addr) (n1 c1 : Nat) (l1 : List CallD) (s : Nat) (w : World) (h0 : RdC w A0 n0 c0 l0) (h1 : RdC w A1 n1 c1 l1) (hs : s ≤ 255) :
    Calls Try.prog 5 #[.slice A0 n0 c0, .slice A1 n1 c1, .int .u8 s] w fun e w' => e = .returned (.bool true) ∧ Below w.heap.size w w' := by
  have H0 := Lib.hid h0
  have H1 := Lib.hid h1
  have hn1 := h1.le
  clear h0 h1
  have hnf : ∀ (W : World) (e : Nat), (binOp .eql 45 (.func (.func 36) #[] #[.pointer (some ⟨e, 0, none⟩)]) .nilFunc).run Try.prog W = .ok (.bool false) W := fun W e => by kernel_rfl
  refine (callsIn_wide (n := 9)).1 ?_
  refine callsIn_of_wp_marks Try.func5 rfl trivial ?_ rfl
  simp only [Try.ntmps5, List.size_toArray, List.length_cons, List.length_nil, Nat.reduceAdd, Nat.reduceSub, Array.replicate_succ, Array.replicate_zero, List.push_toArray, List.append_toArray, List.nil_append, List.cons_append]
  refine wpIn_wide.2 ?_
  go_wp2_with fail
  obtain ⟨W0, hW0⟩ : ∃ W0, W0 = ((w.alloc (.cells #[.slice A1 n1 c1] 22)).alloc (.cells #[.int .u8 s] 5)).alloc (.cells #[.bool false] 4) := ⟨_, rfl⟩
  have hbW : Below w.heap.size w W0 := by rw [hW0]; exact (by repeat (first | exact Below.refl _ _ | assumption | refine Below.setCell ?_ (by first | (simp; done) | (simp; omega) | omega) _ | refine below_drewN ?_ _ | refine Below.drew ?_ | refine Below.alloc ?_ (by first | (simp; done) | (simp; omega) | omega) _))
  have p4 : Blk W0 w.heap.size 22 #[.slice A1 n1 c1] := by rw [hW0]; exact ((Blk.new w 22 _).alloc _).alloc _
  have p5 : Blk W0 (w.heap.size + 1) 5 #[.int .u8 s] := by
    have hh := (Blk.new (w.alloc (.cells #[.slice A1 n1 c1] 22)) 5 #[.int .u8 s]).alloc (.cells #[.bool false] 4)
    rw [World.size_alloc] at hh
    rw [hW0]; exact hh
  have p6 : Blk W0 (w.heap.size + 2) 4 #[.bool false] := by
    have hh := Blk.new ((w.alloc (.cells #[.slice A1 n1 c1] 22)).alloc (.cells #[.int .u8 s] 5)) 4 #[.bool false]
    simp only [World.size_alloc] at hh
    rw [hW0]; exact hh
  rw [← hW0]
  clear hW0
  refine (shown_any _).mono ?_
  rintro e w0 ⟨rfl, hb0⟩
  have hb1 := hbW.trans (hb0.mono hbW.size)
  have p4 := p4.new' hb0
  have p5 := p5.new' hb0
  have p6 := p6.new' hb0
  clear hbW hb0
  go_wp2_with fail
  refine (made_any A0 n0 c0 l0 w0 (H0.out.new hb1)).mono ?_
  rintro e w1 ⟨g, y, S, rfl, hB⟩
  have hD := hB.dict
  have hf := hB.facts
  generalize madeAll (l0.take 40) = L at *
  have p4 := p4.new' hB.z.bel
  have p5 := p5.new' hB.z.bel
  have p6 := p6.new' hB.z.bel
  have HBW := Lib.hid hb1
  clear hB H0 hb1
  have hb8 : Below w1.heap.size w1 (w1.alloc (.cells #[.pointer (some ⟨g, 0, none⟩)] 27)) := (by repeat (first | exact Below.refl _ _ | assumption | refine Below.setCell ?_ (by first | (simp; done) | (simp; omega) | omega) _ | refine below_drewN ?_ _ | refine Below.drew ?_ | refine Below.alloc ?_ (by first | (simp; done) | (simp; omega) | omega) _))
  have p8 := Blk.new w1 27 #[.pointer (some ⟨g, 0, none⟩)]
  have hD := hD.new hb8
  have P4 := Lib.hid (p4.new' hb8)
  have P5 := Lib.hid (p5.new' hb8)
  have P6 := Lib.hid (p6.new' hb8)
  have P8 := Lib.hid p8
  have c8 := p8.cell 0
  simp only [List.getElem?_toArray, List.getElem?_cons_zero] at c8
  clear p4 p5 p6 p8 hb8
  go_wp2_with fail
  refine (pairs_any hD.d).mono ?_
  rintro e w2 ⟨vw, rfl, hN⟩
  obtain ⟨Aw, cw, rfl, -, -⟩ := Own.rd hN.own
  have hb2 := hN.bel
  have hD := hD.new hb2
  have Q4 := Lib.hid (P4.out.new' hb2)
  have Q5 := Lib.hid (P5.out.new' hb2)
  have Q6 := Lib.hid (P6.out.new' hb2)
  have Q8 := Lib.hid (P8.out.new' hb2)
  have HN := Lib.hid hN.own
  have HN0 := Lib.hid hD.z.bel
  have c8 := Q8.out.cell 0
  simp only [List.getElem?_toArray, List.getElem?_cons_zero] at c8
  have l8 := Q8.out.lt
  clear P4 P5 P6 P8 hN hb2
  go_wp2_with fail
  refine (all_any g _).mono ?_
  rintro e w3 ⟨rfl, rfl⟩
  go_wp2_with fail
  have hW3 : ∃ W3, W3 = ((w2.alloc (.cells #[.slice Aw L.length cw] 39)).alloc (.cells #[.pointer (some ⟨g, 0, none⟩)] 27)).alloc (.cells #[.int .i64 0] 3) := ⟨_, rfl⟩
  obtain ⟨W3, hW3⟩ := hW3
  have hb3 : Below w2.heap.size w2 W3 := by rw [hW3]; exact (by repeat (first | exact Below.refl _ _ | assumption | refine Below.setCell ?_ (by first | (simp; done) | (simp; omega) | omega) _ | refine below_drewN ?_ _ | refine Below.drew ?_ | refine Below.alloc ?_ (by first | (simp; done) | (simp; omega) | omega) _))
  have p10 : Blk W3 w2.heap.size 39 #[.slice Aw L.length cw] := by rw [hW3]; exact ((Blk.new w2 39 _).alloc _).alloc _
  have pe : Blk W3 (w2.heap.size + 1) 27 #[.pointer (some ⟨g, 0, none⟩)] := by
    have hh := (Blk.new (w2.alloc (.cells #[.slice Aw L.length cw] 39)) 27 #[.pointer (some ⟨g, 0, none⟩)]).alloc (.cells #[.int .i64 0] 3)
    rw [World.size_alloc] at hh
    rw [hW3]; exact hh
  have p12 : Blk W3 (w2.heap.size + 2) 3 #[.int .i64 0] := by
    have hh := Blk.new ((w2.alloc (.cells #[.slice Aw L.length cw] 39)).alloc (.cells #[.pointer (some ⟨g, 0, none⟩)] 27)) 3 #[.int .i64 0]
    simp only [World.size_alloc] at hh
    rw [hW3]; exact hh
  have hz3 : W3.heap.size = w2.heap.size + 3 := by rw [hW3]; simp
  rw [← hW3]
  clear hW3
  have hD := hD.new hb3
  have hgd : IsDict W3 S g L := hD.d
  have hnd : NewD w0 W3 g L := ⟨S, hgd, hD.z.own, hD.z.bel⟩
  have hK : GoK w0 w.heap.size w1.heap.size w2.heap.size (w2.heap.size + 1) A1 n1 c1 s g Aw cw L W3 := ⟨Q4.out.new' hb3, Q5.out.new' hb3, Q6.out.new' hb3, Q8.out.new' hb3, p10, pe, Own.new HN.out hb3, L, hnd⟩
  have hI0 : GoSt w0 w.heap.size w1.heap.size w2.heap.size (w2.heap.size + 1) (w2.heap.size + 1 + 1) A1 n1 c1 s g Aw cw L [] W3 := ⟨hK, p12, List.nil_prefix⟩
  obtain ⟨hkd, hko, hkl⟩ := hf
  have HHK := Lib.hid (And.intro hkd (And.intro hko hkl))
  have hwW : w0.heap.size ≤ W3.heap.size := hD.z.bel.size
  have hgW : g ≤ W3.heap.size := by
    obtain ⟨B, v, rs, f, hDA, hg, -, -, h4⟩ := hgd
    exact Nat.le_of_lt (h4 g hg)
  have hl3 : w2.heap.size + 1 + 1 < W3.heap.size := p12.lt
  have hl2 : w0.heap.size ≤ w2.heap.size := HN0.out.size
  have hl1 : w1.heap.size < w2.heap.size := l8
  clear hnd hK p10 p12 Q4 Q5 Q6 Q8 HN hb3 c8 l8 hkd hko hkl
  refine (wpIn_wide (n := 9)).1 ?_
  refine wpIn_rangeFunc_ownH rfl (by omega) (gf := 36) (lb := #[.pointer (some ⟨w2.heap.size + 1, 0, none⟩)]) rfl trivial (enters_of Try.func36 (by kernel_rfl) rfl)
    (all_stops 8 (by omega) (w2.heap.size + 1) g g S S L L W3 hgd hgd pe) (fun h k => h.trans k) (fun W l o o' _ h1 h2 _ => KpRows.put W l o o' h1 h2) (Below.refl _ _) (fun _ => rfl)
    (fun (pre : List (V × V)) (W : World) => GoSt w0 w.heap.size w1.heap.size w2.heap.size (w2.heap.size + 1) (w2.heap.size + 1 + 1) A1 n1 c1 s g Aw cw L pre W)
    (fun _ pre _ => ¬ pre <+: L)
    (fun s A B row hs hg hr => hs.on hwW hgW hg hr) (fun c s A B row hs hg hr => hs) hI0
    (fun x a' W => ∃ bx bz, a' = { tmps := #[.slice A0 n0 c0, .slice A1 n1 c1, .int .u8 s, undef, .pointer (some ⟨w.heap.size, 0, none⟩), .pointer (some ⟨w.heap.size + 1, 0, none⟩), .pointer (some ⟨w.heap.size + 1 + 1, 0, none⟩), .bool true, .pointer (some ⟨w1.heap.size, 0, none⟩), .pointer (some ⟨y, 0, none⟩), .pointer (some ⟨w2.heap.size, 0, none⟩), .func (.func 36) #[] #[.pointer (some ⟨w2.heap.size + 1, 0, none⟩)], .pointer (some ⟨w2.heap.size + 1 + 1, 0, none⟩), .pointer (some ⟨bx, 0, none⟩), .pointer (some ⟨bz, 0, none⟩), undef, undef, undef, .bool true, .tuple #[.pointer (some ⟨g, 0, none⟩), .pointer (some ⟨y, 0, none⟩)], .slice A0 n0 c0, .tuple #[.pointer (some ⟨g, 0, none⟩), .pointer (some ⟨y, 0, none⟩)], .pointer (some ⟨g, 0, none⟩), .pointer (some ⟨y, 0, none⟩), .bool true, .bool false, .bool false, .pointer (some ⟨g, 0, none⟩), .bool false, .bool false, .pointer (some ⟨g, 0, none⟩), .slice Aw L.length cw, .pointer (some ⟨g, 0, none⟩), .func (.func 36) #[] #[.pointer (some ⟨w2.heap.size + 1, 0, none⟩)], .func (.func 36) #[] #[.pointer (some ⟨w2.heap.size + 1, 0, none⟩)], .bool false, .func (.func 36) #[] #[.pointer (some ⟨w2.heap.size + 1, 0, none⟩)], V.v x.1, V.v x.2, undef, undef, undef, undef, undef, undef, undef, undef, undef, undef, undef, undef, undef, undef, undef, undef, undef, undef, undef, undef, undef, undef, undef, undef, undef, undef, undef, undef, undef, undef, undef, undef, undef, undef, undef, undef, undef, undef, undef, undef, undef, undef, undef, undef, undef, undef, undef, undef, undef, undef, undef, undef, undef, undef, undef, undef, undef, undef, undef, undef, undef, undef, undef, undef, undef, undef, undef, undef, undef, undef], defers := [] } ∧ Blk W bx 24 #[.int .i64 x.1.k, .int .i64 x.1.n, .string x.1.s] ∧ Blk W bz 24 #[.int .i64 x.2.k, .int .i64 x.2.n, .string x.2.s])
    (fun x a' s A B row hs hg hr => by obtain ⟨bx, bz, h1, h2, h3⟩ := hs; exact ⟨bx, bz, h1, h2.on hg hr, h3.on hg hr⟩)
    ?assign ?body ?done ?stop
  case assign =>
    rintro l pre ⟨⟨k1, m1, s1⟩, ⟨k2, m2, s2⟩⟩ W K hI hK
    have hb : Below W.heap.size W ((W.alloc (.cells #[.int .i64 k1, .int .i64 m1, .string s1] 24)).alloc (.cells #[.int .i64 k2, .int .i64 m2, .string s2] 24)) := (by repeat (first | exact Below.refl _ _ | assumption | refine Below.setCell ?_ (by first | (simp; done) | (simp; omega) | omega) _ | refine below_drewN ?_ _ | refine Below.drew ?_ | refine Below.alloc ?_ (by first | (simp; done) | (simp; omega) | omega) _))
    have hx2 : Blk ((W.alloc (.cells #[.int .i64 k1, .int .i64 m1, .string s1] 24)).alloc (.cells #[.int .i64 k2, .int .i64 m2, .string s2] 24)) (W.heap.size + 1) 24 #[.int .i64 k2, .int .i64 m2, .string s2] := by
      have hh := Blk.new (W.alloc (.cells #[.int .i64 k1, .int .i64 m1, .string s1] 24)) 24 #[.int .i64 k2, .int .i64 m2, .string s2]
      rw [World.size_alloc] at hh
      exact hh
    have HK := hK _ _ (below_grew hb _) (KpRows.new hb) (hI.new hb) ⟨W.heap.size, W.heap.size + 1, rfl, (Blk.new W 24 #[.int .i64 k1, .int .i64 m1, .string s1]).alloc _, hx2⟩
    have HK' := Lib.hid HK
    clear HK hK hx2
    simp only [encP, V.v]
    gi_wp2
    simp only [V.v] at HK'
    exact HK'.out
  case body =>
    rintro l pre ⟨⟨k1, m1, s1⟩, ⟨k2, m2, s2⟩⟩ a' W hl hlr hI ⟨bx, bz, rfl, hbx, hbz⟩ hlen
    have x0 := hbx.cell 0
    have x1 := hbx.cell 1
    have x2 := hbx.cell 2
    have y0 := hbz.cell 0
    have y1 := hbz.cell 1
    have y2 := hbz.cell 2
    have q12 := hI.n.cell 0
    have q10 := hI.k.p10.cell 0
    have f6 := hI.k.p6.frozen 0
    have q6 := hI.k.p6.cell 0
    simp only [List.getElem?_toArray, List.getElem?_cons_zero, List.getElem?_cons_succ] at x0 x1 x2 y0 y1 y2 q12 q10 q6
    have hlx := hbx.lt
    have hlz := hbz.lt
    have hl12 := hI.n.lt
    obtain ⟨p, hp⟩ : ∃ p, L[pre.length]? = some p := ⟨_, List.getElem?_eq_getElem hlen⟩
    obtain ⟨b1, e1, q1, hb1, hc1⟩ := ownP_at hI.k.was hp
    obtain ⟨⟨r1, r2, r3⟩, ⟨r4, r5, r6⟩⟩ := p
    simp only [Value.slice.injEq, true_and] at q1
    obtain ⟨rfl, rfl⟩ := q1
    have z0 := hc1 0 (.int .i64 r1) rfl
    have z1 := hc1 1 (.int .i64 r2) rfl
    have z2 := hc1 2 (.string r3) rfl
    have z3 := hc1 3 (.int .i64 r4) rfl
    have z4 := hc1 4 (.int .i64 r5) rfl
    have z5 := hc1 5 (.string r6) rfl
    simp only [Nat.add_zero] at z0
    have HI := Lib.hid hI
    clear hI hbx hbz hlr hc1
    have hi0 : (0 : Int) ≤ (pre.length : Int) := by omega
    have hi1 : (pre.length : Int) < (L.length : Int) := by omega
    have hi2 : (pre.length : Int) < 9223372036854775807 := by have := HHK.out.2.2; omega
    have hdg : decide (L.length ≤ pre.length) = false := decide_eq_false (by omega)
    simp only [V.v]
    cases hs : sameP (⟨r1, r2, r3⟩, ⟨r4, r5, r6⟩) (⟨k1, m1, s1⟩, ⟨k2, m2, s2⟩) with
    | false =>
      have hne := sameP_not.1 hs
      have HX : Hid (¬ pre ++ [((⟨k1, m1, s1⟩, ⟨k2, m2, s2⟩) : V × V)] <+: L) := Lib.hid fun hpx => hne (by
        obtain ⟨t, ht⟩ := hpx
        rw [← ht, List.append_assoc, List.getElem?_append_right (Nat.le_refl _), Nat.sub_self] at hp
        exact (Option.some.inj hp).symm)
      clear hne hp
      gi_wp2
      refine wpIn_quiet_round (by kernel_rfl) (by kernel_rfl) (by kernel_rfl) ?_
      repeat (gi_big_quiet_step (fail))
      refine wpQuietIn_nil ?_
      intro _ hw'
      obtain ⟨nq, hw''⟩ := hw'
      subst hw''
      have hm6 : Mod (· = w.heap.size + 1 + 1) W ((W.drewN nq).setCell ⟨w.heap.size + 1 + 1, 0, none⟩ (.bool false)) := ((Mod.refl (· = w.heap.size + 1 + 1) W).drewN nq).setCell (p := ⟨w.heap.size + 1 + 1, 0, none⟩) (fun _ => rfl) _
      have HE := Lib.hid (box_kp (B := W3.heap.size) (g := g) (by decide) (by decide) HI.out.k.p6 hm6)
      clear hm6
      gi_wp2
      exact ⟨HE.out.1, HX.out⟩
    | true =>
      obtain hpq := sameP_iff.1 hs
      simp only [Prod.mk.injEq, V.mk.injEq] at hpq
      obtain ⟨⟨rfl, rfl, rfl⟩, rfl, rfl, rfl⟩ := hpq
      have HX : Hid (pre ++ [((⟨r1, r2, r3⟩, ⟨r4, r5, r6⟩) : V × V)] <+: L) := Lib.hid (by
        obtain ⟨t, ht⟩ := HI.out.pre
        subst ht
        rw [List.getElem?_append_right (Nat.le_refl _), Nat.sub_self] at hp
        cases t with
        | nil => cases hp
        | cons q t =>
          obtain rfl : q = _ := Option.some.inj hp
          exact ⟨t, by simp⟩)
      clear hp
      gi_wp2
      refine wpIn_quiet_round (by kernel_rfl) (by kernel_rfl) (by kernel_rfl) ?_
      repeat (gi_big_quiet_step (fail))
      refine wpQuietIn_nil ?_
      intro _ hw'
      obtain ⟨nq, hw''⟩ := hw'
      subst hw''
      have hbq : Below W.heap.size W (W.drewN nq) := (by repeat (first | exact Below.refl _ _ | assumption | refine Below.setCell ?_ (by first | (simp; done) | (simp; omega) | omega) _ | refine below_drewN ?_ _ | refine Below.drew ?_ | refine Below.alloc ?_ (by first | (simp; done) | (simp; omega) | omega) _))
      have HI4 := Lib.hid (HI.out.new hbq)
      have HK4 := Lib.hid (And.intro (below_grew hbq W3.heap.size) (KpRows.new (g := g) hbq))
      clear x0 x1 x2 y0 y1 y2 q12 q10 f6 q6 z0 z1 z2 z3 z4 z5 hdg hs HI hb1 hbq hlx hlz hl12 hl
      generalize W.drewN nq = W4 at *
      have c12 := HI4.out.n.cell 0
      have c4 := HI4.out.k.p4.cell 0
      simp only [List.getElem?_toArray, List.getElem?_cons_zero] at c12 c4
      have hl12 := HI4.out.n.lt
      have hl4 := HI4.out.k.p4.lt
      by_cases hlt : pre.length < n1
      · skip
        have hbw4 : Below w.heap.size w W4 := by
          obtain ⟨M, hd⟩ := HI4.out.k.d
          exact HBW.out.trans (hd.tight.2.2.mono HBW.out.size)
        obtain ⟨b, o, xx, rfl, hb, hx, hok, hc⟩ := (H1.out.new hbw4).at_ hlt
        obtain ⟨d, ⟨t1, t2, t3⟩, ⟨t4, t5, t6⟩, raw⟩ := xx
        have z0 := hc 0 (.int .i64 d) rfl
        have z1 := hc 1 (.int .i64 t1) rfl
        have z2 := hc 2 (.int .i64 t2) rfl
        have z3 := hc 3 (.string t3) rfl
        have z4 := hc 4 (.int .i64 t4) rfl
        have z5 := hc 5 (.int .i64 t5) rfl
        have z6 := hc 6 (.string t6) rfl
        have z7 := hc 7 (.bool raw) rfl
        simp only [Nat.add_zero] at z0
        have HOK := Lib.hid hok
        have HFO := Lib.hid (CallD.fit_ok (c := ⟨d, ⟨t1, t2, t3⟩, ⟨t4, t5, t6⟩, raw⟩) HOK.out)
        clear hc hx hok hbw4
        gi_wp2
        refine ⟨trivial, ?_⟩
        refine (CallsIn.inRound l ((callsIn_wide (n := 6)).2 (fitc_any ⟨d, ⟨t1, t2, t3⟩, ⟨t4, t5, t6⟩, raw⟩ HOK.out.2.2 _))).mono ?_
        rintro e W5 ⟨rfl, hb5⟩
        generalize CallD.fit ⟨d, ⟨t1, t2, t3⟩, ⟨t4, t5, t6⟩, raw⟩ = f at *
        obtain ⟨fd, ⟨f1, f2, f3⟩, ⟨f4, f5, f6⟩, fr⟩ := f
        dsimp only [CallD.cs]
        have hb6 : Below W5.heap.size W5 (W5.alloc (.cells #[.int .i64 fd, .int .i64 f1, .int .i64 f2, .string f3, .int .i64 f4, .int .i64 f5, .string f6, .bool fr] 48)) := (by repeat (first | exact Below.refl _ _ | assumption | refine Below.setCell ?_ (by first | (simp; done) | (simp; omega) | omega) _ | refine below_drewN ?_ _ | refine Below.drew ?_ | refine Below.alloc ?_ (by first | (simp; done) | (simp; omega) | omega) _))
        have hb46 := hb5.trans (hb6.mono hb5.size)
        have HI6 := Lib.hid (HI4.out.new hb46)
        have HK6 := Lib.hid (And.intro (HK4.out.1.trans (below_grew hb46 W3.heap.size)) (HK4.out.2.trans (KpRows.new (g := g) hb46)))
        have kb := Blk.new W5 48 #[.int .i64 fd, .int .i64 f1, .int .i64 f2, .string f3, .int .i64 f4, .int .i64 f5, .string f6, .bool fr]
        clear z0 z1 z2 z3 z4 z5 z6 z7 hb HOK HI4 HK4 hb5 hb46 hb6 c12 c4 hl12 hl4
        have q0 := kb.cell 0
        have q1 := kb.cell 1
        have q2 := kb.cell 2
        have q3 := kb.cell 3
        have q4 := kb.cell 4
        have q5 := kb.cell 5
        have q6 := kb.cell 6
        have q8 := HI6.out.k.p8.cell 0
        simp only [List.getElem?_toArray, List.getElem?_cons_zero, List.getElem?_cons_succ] at q0 q1 q2 q3 q4 q5 q6 q8
        have hlk := kb.lt
        have hl8 := HI6.out.k.p8.lt
        clear kb
        obtain ⟨M, hd⟩ := HI6.out.k.d
        by_cases hw : bits BinOp.and .i64 fd 1 = 0
        · skip
          gi_wp2
          refine ⟨trivial, ?_⟩
          refine (CallsIn.inRound l ((callsIn_wide (n := 6)).2 (put_any hd.tight.1 ⟨f1, f2, f3⟩ ⟨f4, f5, f6⟩ HFO.out))).mono ?_
          rintro e W7 ⟨rfl, hd', hm'⟩
          have n7 := foot_blk hd.tight.1 hm' HI6.out.n (by decide) (by decide)
          have HK7 := Lib.hid (HI6.out.k.foot hd hd' hm' hd.tight.1)
          have hkk := foot_keeps hd.tight.1 hd' hm' W3.heap.size hgW
          have HKK := Lib.hid (And.intro (HK6.out.1.trans hkk.1) (HK6.out.2.trans hkk.2))
          have HS := Lib.hid (GoSt.step (B := W3.heap.size) HK7.out n7 (by omega) HX.out)
          have c12 := n7.cell 0
          simp only [List.getElem?_toArray, List.getElem?_cons_zero] at c12
          have f12 := n7.frozen 0
          have hl12 := n7.lt
          clear hd' hm' hkk n7 q0 q1 q2 q3 q4 q5 q6 q8 hlk hl8 hw hd
          gi_wp2
          exact ⟨HKK.out.1.trans HS.out.1, HKK.out.2.trans HS.out.2.1, HS.out.2.2⟩
        · have hw : bits BinOp.and .i64 fd 1 = 1 := by
            obtain ⟨a, ha, e⟩ := and_small fd 1 (by omega)
            have e' : bits BinOp.and .i64 fd 1 = (a : Int) := e
            omega
          gi_wp2
          refine ⟨trivial, ?_⟩
          refine (CallsIn.inRound l ((callsIn_wide (n := 6)).2 (del_any hd.tight.1 ⟨f1, f2, f3⟩ HFO.out))).mono ?_
          rintro e W7 ⟨rfl, hd', hm'⟩
          have hd' := hd'.grew (w := W5.alloc (.cells #[.int .i64 fd, .int .i64 f1, .int .i64 f2, .string f3, .int .i64 f4, .int .i64 f5, .string f6, .bool fr] 48))
          have n7 := foot_blk hd.tight.1 hm' HI6.out.n (by decide) (by decide)
          have HK7 := Lib.hid (HI6.out.k.foot hd hd' hm' hd.tight.1)
          have hkk := foot_keeps hd.tight.1 hd' hm' W3.heap.size hgW
          have HKK := Lib.hid (And.intro (HK6.out.1.trans hkk.1) (HK6.out.2.trans hkk.2))
          have HS := Lib.hid (GoSt.step (B := W3.heap.size) HK7.out n7 (by omega) HX.out)
          have c12 := n7.cell 0
          simp only [List.getElem?_toArray, List.getElem?_cons_zero] at c12
          have f12 := n7.frozen 0
          have hl12 := n7.lt
          clear hd' hm' hkk n7 q0 q1 q2 q3 q4 q5 q6 q8 hlk hl8 hw hd
          gi_wp2
          exact ⟨HKK.out.1.trans HS.out.1, HKK.out.2.trans HS.out.2.1, HS.out.2.2⟩
      · have f12 := HI4.out.n.frozen 0
        have HS := Lib.hid (GoSt.step (B := W3.heap.size) HI4.out.k HI4.out.n (by omega) HX.out)
        gi_wp2
        exact ⟨HK4.out.1.trans HS.out.1, HK4.out.2.trans HS.out.2.1, HS.out.2.2⟩
  case done =>
    rintro D xs W hD hxs hI hdef
    obtain rfl : L = xs := Eq.symm hxs
    obtain ⟨M, hd⟩ := hI.k.d
    have q8 := hI.k.p8.cell 0
    simp only [List.getElem?_toArray, List.getElem?_cons_zero] at q8
    have m8 := hI.k.p8.lt
    have HI := Lib.hid hI
    have hww := HBW.out.size
    clear hI hI0 pe hgd
    go_wp2_with fail
    refine (pairs_any hd.tight.1).mono ?_
    rintro e w4 ⟨vn, rfl, hN⟩
    obtain ⟨An, cn, rfl, -, -⟩ := Own.rd hN.own
    have hn4 := HI.out.new hN.bel
    have hd4 := hd.new hN.bel
    have hdef4 := (hN.bel.block D (Array.getElem?_eq_some_iff.1 hdef).1).trans hdef
    clear hN hdef hd q8 m8 HI
    go_wp2_with fail
    have hb5 : Below w4.heap.size w4 (w4.alloc (.cells #[.int .i64 0] 3)) := (by repeat (first | exact Below.refl _ _ | assumption | refine Below.setCell ?_ (by first | (simp; done) | (simp; omega) | omega) _ | refine below_drewN ?_ _ | refine Below.drew ?_ | refine Below.alloc ?_ (by first | (simp; done) | (simp; omega) | omega) _))
    have h17 := Blk.new w4 3 #[.int .i64 0]
    have hE0 : GoEnd w0 w.heap.size w1.heap.size w2.heap.size (w2.heap.size + 1) (w2.heap.size + 1 + 1) w4.heap.size D A1 n1 c1 s g Aw cw L M 0 (w4.alloc (.cells #[.int .i64 0] 3)) := ⟨hn4.k.new hb5, hn4.n.new' hb5, h17, hd4.new hb5, (hb5.block D (Array.getElem?_eq_some_iff.1 hdef4).1).trans hdef4⟩
    have hz5 : (w4.alloc (.cells #[.int .i64 0] 3)).heap.size = w4.heap.size + 1 := by simp
    have hD4 := (Array.getElem?_eq_some_iff.1 hdef4).1
    have hn4l := hn4.n.lt
    clear hn4 hd4 hdef4 hb5 h17
    generalize w4.alloc (.cells #[.int .i64 0] 3) = W5 at *
    have hdM := hE0.d.tight.1
    have hw05 : w0.heap.size ≤ W5.heap.size := hE0.d.tight.2.2.size
    have hg5 : g ≤ W5.heap.size := by
      obtain ⟨B, v, rs, f, hDA, hg, -, -, h4⟩ := hdM
      exact Nat.le_of_lt (h4 g hg)
    refine (wpIn_wide (n := 9)).1 ?_
    refine wpIn_rangeFunc_ownH rfl (by omega) (gf := 36) (lb := #[.pointer (some ⟨w2.heap.size + 1, 0, none⟩)]) rfl trivial (enters_of Try.func36 (by kernel_rfl) rfl)
      (all_stops 8 (by omega) (w2.heap.size + 1) g g _ _ M M W5 hdM hdM hE0.k.pe) (fun h k => h.trans k) (fun W l o o' _ h1 h2 _ => KpRows.put W l o o' h1 h2) (Below.refl _ _) (fun _ => rfl)
      (fun (pre : List (V × V)) (W : World) => GoEnd w0 w.heap.size w1.heap.size w2.heap.size (w2.heap.size + 1) (w2.heap.size + 1 + 1) w4.heap.size D A1 n1 c1 s g Aw cw L M pre.length W ∧ pre.length ≤ s)
      (fun c pre W => c = .exit 2 ∧ pre.length = s + 1 ∧ GoEnd w0 w.heap.size w1.heap.size w2.heap.size (w2.heap.size + 1) (w2.heap.size + 1 + 1) w4.heap.size D A1 n1 c1 s g Aw cw L M s W)
      (fun s' A B row hs hg hr => ⟨hs.1.on hw05 hg5 (by omega) hg hr, hs.2⟩) (fun c s' A B row hs hg hr => ⟨hs.1, hs.2.1, hs.2.2.on hw05 hg5 (by omega) hg hr⟩) ⟨hE0, Nat.zero_le _⟩
      (fun x a' W => a' = { tmps := #[.slice A0 n0 c0, .slice A1 n1 c1, .int .u8 s, undef, .pointer (some ⟨w.heap.size, 0, none⟩), .pointer (some ⟨w.heap.size + 1, 0, none⟩), .pointer (some ⟨w.heap.size + 1 + 1, 0, none⟩), .bool true, .pointer (some ⟨w1.heap.size, 0, none⟩), .pointer (some ⟨y, 0, none⟩), .pointer (some ⟨w2.heap.size, 0, none⟩), .func (.func 36) #[] #[.pointer (some ⟨w2.heap.size + 1, 0, none⟩)], .pointer (some ⟨w2.heap.size + 1 + 1, 0, none⟩), undef, undef, undef, .slice An M.length cn, .pointer (some ⟨w4.heap.size, 0, none⟩), .bool true, .tuple #[.pointer (some ⟨g, 0, none⟩), .pointer (some ⟨y, 0, none⟩)], .slice A0 n0 c0, .tuple #[.pointer (some ⟨g, 0, none⟩), .pointer (some ⟨y, 0, none⟩)], .pointer (some ⟨g, 0, none⟩), .pointer (some ⟨y, 0, none⟩), .bool true, .bool false, .bool false, .pointer (some ⟨g, 0, none⟩), .bool false, .bool false, .pointer (some ⟨g, 0, none⟩), .slice Aw L.length cw, .pointer (some ⟨g, 0, none⟩), .func (.func 36) #[] #[.pointer (some ⟨w2.heap.size + 1, 0, none⟩)], .func (.func 36) #[] #[.pointer (some ⟨w2.heap.size + 1, 0, none⟩)], .bool false, .func (.func 36) #[] #[.pointer (some ⟨w2.heap.size + 1, 0, none⟩)], undef, undef, undef, undef, undef, undef, undef, undef, undef, undef, undef, undef, undef, undef, undef, undef, undef, undef, undef, undef, undef, undef, undef, undef, undef, undef, undef, undef, undef, undef, undef, undef, undef, undef, undef, undef, undef, undef, undef, undef, undef, .pointer (some ⟨g, 0, none⟩), .slice An M.length cn, .func (.func 36) #[] #[.pointer (some ⟨w2.heap.size + 1, 0, none⟩)], V.v x.1, V.v x.2, undef, undef, undef, undef, undef, undef, undef, undef, undef, undef, undef, undef, undef, undef, undef, undef, undef, undef, undef, undef, undef, undef, undef, undef, undef, undef], defers := [] })
      (fun x a' s A B row hs hg hr => hs)
      ?assign2 ?body2 ?done2 ?stop2
    case assign2 =>
      rintro l pre ⟨⟨k1, m1, s1⟩, ⟨k2, m2, s2⟩⟩ W K hI hK
      have HK := hK _ _ (KeepsFrom.refl _ _) (KpRows.refl _ _) hI rfl
      have HK' := Lib.hid HK
      clear HK hK
      simp only [encP, V.v]
      gi_wp2
      simp only [V.v] at HK'
      exact HK'.out
    case body2 =>
      rintro l pre ⟨⟨k1, m1, s1⟩, ⟨k2, m2, s2⟩⟩ a' W hl hlr ⟨hE, hps⟩ rfl hlen
      have q5 := hE.k.p5.cell 0
      have q17 := hE.p.cell 0
      have f17 := hE.p.frozen 0
      simp only [List.getElem?_toArray, List.getElem?_cons_zero] at q5 q17
      have m5 := hE.k.p5.lt
      have m17 := hE.p.lt
      simp only [V.v]
      by_cases hpe : pre.length = s
      · have HE := Lib.hid hE
        have HPE := Lib.hid hpe
        subst hpe
        clear hE
        gi_wp2
        exact ⟨KeepsFrom.refl _ _, rfl, by simp, HE.out⟩
      · have HS := Lib.hid (hE.step (B := W5.heap.size) (by omega))
        have hpe' : ¬ ((pre.length : Int) = (s : Int)) := by omega
        clear hE
        gi_wp2
        refine ⟨HS.out.1, HS.out.2.1, ?_, ?_⟩
        · show GoEnd _ _ _ _ _ _ _ _ _ _ _ _ _ _ _ _ _ (pre ++ [_]).length _
          rw [List.length_append, List.length_singleton]
          exact HS.out.2.2
        · rw [List.length_append, List.length_singleton]; omega
    case done2 =>
      rintro D2 ys W hD2 hys ⟨hE, hps⟩ hdef2
      obtain rfl : M = ys := Eq.symm hys
      have q5 := hE.k.p5.cell 0
      have q6 := hE.k.p6.cell 0
      have f6 := hE.k.p6.frozen 0
      have q8 := hE.k.p8.cell 0
      have q10 := hE.k.p10.cell 0
      have q12 := hE.n.cell 0
      have q17 := hE.p.cell 0
      simp only [List.getElem?_toArray, List.getElem?_cons_zero] at q5 q6 q8 q10 q12 q17
      have m5 := hE.k.p5.lt
      have m6 := hE.k.p6.lt
      have m8 := hE.k.p8.lt
      have m10 := hE.k.p10.lt
      have m12 := hE.n.lt
      have m17 := hE.p.lt
      have HL := Lib.hid (len_any hE.d.tight.1)
      have HF := Lib.hid (hE.fin (Nat.le_refl w.heap.size) HBW.out hdef2 (by omega) (by omega))
      clear hE hdef2 hdM
      rcases Nat.lt_or_ge M.length s with hms | hms
      · skip
        go_wp2_with (go_at_call 23; refine HL.out.mono ?_; rintro e w9 ⟨rfl, rfl⟩)
        refine leaves_marks (v := .bool true) [D2, D] _ HF.out.1 fun W'' hk => ?_
        have c6 := ((HF.out.2.2.mod hk.mod (HF.out.1.ne_cells HF.out.2.2 fun x e => by cases e)).cell 0)
        simp only [List.getElem?_toArray, List.getElem?_cons_zero] at c6
        have m6' := (HF.out.2.2.mod hk.mod (HF.out.1.ne_cells HF.out.2.2 fun x e => by cases e)).lt
        exact ⟨by simp [results, Try.results5, go_sem, c6], rfl, hk.below HF.out.1 HF.out.2.1⟩
      · obtain hms : M.length = s := by omega
        subst hms
        go_wp2_with (go_at_call 23; refine HL.out.mono ?_; rintro e w9 ⟨rfl, rfl⟩)
        refine leaves_marks (v := .bool true) [D2, D] _ HF.out.1 fun W'' hk => ?_
        have c6 := ((HF.out.2.2.mod hk.mod (HF.out.1.ne_cells HF.out.2.2 fun x e => by cases e)).cell 0)
        simp only [List.getElem?_toArray, List.getElem?_cons_zero] at c6
        have m6' := (HF.out.2.2.mod hk.mod (HF.out.1.ne_cells HF.out.2.2 fun x e => by cases e)).lt
        exact ⟨by simp [results, Try.results5, go_sem, c6], rfl, hk.below HF.out.1 HF.out.2.1⟩
    case stop2 =>
      rintro D2 c pre W hD2 hpre ⟨rfl, hps, hE⟩ hdef2
      have hms : s < M.length := by have := hpre.length_le; omega
      have q5 := hE.k.p5.cell 0
      have q6 := hE.k.p6.cell 0
      have f6 := hE.k.p6.frozen 0
      have q8 := hE.k.p8.cell 0
      have q10 := hE.k.p10.cell 0
      have q12 := hE.n.cell 0
      have q17 := hE.p.cell 0
      simp only [List.getElem?_toArray, List.getElem?_cons_zero] at q5 q6 q8 q10 q12 q17
      have m5 := hE.k.p5.lt
      have m6 := hE.k.p6.lt
      have m8 := hE.k.p8.lt
      have m10 := hE.k.p10.lt
      have m12 := hE.n.lt
      have m17 := hE.p.lt
      have HL := Lib.hid (len_any hE.d.tight.1)
      have HF := Lib.hid (hE.fin (Nat.le_refl w.heap.size) HBW.out hdef2 (by omega) (by omega))
      clear hE hdef2 hdM
      apply wpIn_exit
      go_wp2_with (go_at_call 23; refine HL.out.mono ?_; rintro e w9 ⟨rfl, rfl⟩)
      refine leaves_marks (v := .bool true) [D2, D] _ HF.out.1 fun W'' hk => ?_
      have c6 := ((HF.out.2.2.mod hk.mod (HF.out.1.ne_cells HF.out.2.2 fun x e => by cases e)).cell 0)
      simp only [List.getElem?_toArray, List.getElem?_cons_zero] at c6
      have m6' := (HF.out.2.2.mod hk.mod (HF.out.1.ne_cells HF.out.2.2 fun x e => by cases e)).lt
      exact ⟨by simp [results, Try.results5, go_sem, c6], rfl, hk.below HF.out.1 HF.out.2.1⟩
  case stop =>
    rintro D c pre W _ h1 h2
    exact (h2 h1).elim
end Go.Proofs.Ytfdihmbmlhlkgaa
