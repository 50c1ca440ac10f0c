/- in.code. -/
import Derived.Test.YtcfelfhjhkenaaaDoorCni
namespace Go.Proofs.YtcfelfhjhkenaaaDoor
open Go.RowKit
set_option linter.unusedVariables false
set_option linter.unusedSimpArgs false
attribute [local go_sem] Oper.semAt_some

theorem took_cases {α : Type} {w : World} {x : Nat} {V : World → α → Value → Prop} {r : Except Int (α × List UInt8)} {e : Ending} {w' : World} (h : Took w x V r e w') :
    (∃ y, r = .error y ∧ e = .panicked [{ v := .iface 24 (.int .i64 y), recovered := false }] ∧ Mod (fun i => i = x) w w') ∨
    (∃ a l v, r = .ok (a, l) ∧ e = .returned v ∧ V w' a v ∧ Blk w' x 70 #[.string (bstr l)] ∧ Mod (fun i => i = x) w w') := by
  obtain ⟨h1, h2⟩ := h
  cases r with
  | error y => exact .inl ⟨y, rfl, h2, h1⟩
  | ok v =>
    obtain ⟨a, l⟩ := v
    obtain ⟨⟨v, h3, h4⟩, h5⟩ := h2
    exact .inr ⟨a, l, v, rfl, h3, h4, h5, h1⟩
def CodeV (w : World) (c : CodeD) (v : Value) : Prop := ∃ v5 v6 v7 v8 v9 v10, v = .agg #[.string c.name, .int .i64 c.kind, .int .i64 c.params, .int .i64 c.defaults, .bool c.gen, v5, v6, v7, v8, v9, v10] ∧
  ListV w c.locals v5 ∧ ListV w c.cells v6 ∧ ListV w c.free v7 ∧ ListV w c.names v8 ∧ Own w 77 3 v9 c.consts.length (c.consts.flatMap valCs) ∧ Own w 64 2 v10 c.ins.length (c.ins.flatMap insCs)
def codeP2 (nm : ByteArray) (kd pa de : Nat) (ge : UInt8) (lo ce fr na : List ByteArray) : Par CodeD := bindP (cntP valP 4096) fun consts => bindP (cntP insP 65536) fun ins => okP ⟨nm, kd, pa, de, ge == 1, lo, ce, fr, na, consts, ins⟩
def codeP1 (nm : ByteArray) (kd pa de : Nat) (ge : UInt8) : Par CodeD := bindP listP fun lo => bindP listP fun ce => bindP listP fun fr => bindP listP fun na => codeP2 nm kd pa de ge lo ce fr na
theorem codeP_eq : codeP = bindP textP fun nm => bindP (numP 2147483647) fun kd => bindP (numP 2147483647) fun pa => bindP (numP 2147483647) fun de => bindP (amongP 0 1) fun ge => codeP1 nm kd pa de ge := rfl
theorem step_ok {α β : Type} {R : Except Int (β × List UInt8)} {p : Par α} {K : α → Par β} {l q : List UInt8} {x : α} (h : R = bindP p K l) (hx : p l = .ok (x, q)) : R = K x q := h.trans (bindP_ok hx)
theorem step_err {α β : Type} {R : Except Int (β × List UInt8)} {p : Par α} {K : α → Par β} {l : List UInt8} {y : Int} (h : R = bindP p K l) (hx : p l = .error y) : R = .error y := h.trans (bindP_error hx)
theorem rep4_ok {β : Type} {p : Par (List ByteArray)} {K : List ByteArray → List ByteArray → List ByteArray → List ByteArray → Par β} {l r : List UInt8} {ls : List (List ByteArray)} (h : repP p 4 l = .ok (ls, r)) :
    ∃ a b c d, ls = [a, b, c, d] ∧ bindP p (fun a => bindP p fun b => bindP p fun c => bindP p fun d => K a b c d) l = K a b c d r := by
  obtain ⟨a, l1, h1, h⟩ := bindP_inv h
  obtain ⟨t1, l2, h2, h3⟩ := bindP_inv h
  cases h3
  obtain ⟨b, l3, h4, h⟩ := bindP_inv h2
  obtain ⟨t2, l4, h5, h6⟩ := bindP_inv h
  cases h6
  obtain ⟨c, l5, h7, h⟩ := bindP_inv h5
  obtain ⟨t3, l6, h8, h9⟩ := bindP_inv h
  cases h9
  obtain ⟨d, l7, h10, h⟩ := bindP_inv h8
  obtain ⟨t4, l8, h11, h12⟩ := bindP_inv h
  cases h11
  cases h12
  exact ⟨a, b, c, d, rfl, by rw [bindP_ok h1, bindP_ok h4, bindP_ok h7, bindP_ok h10]⟩
theorem rep4_err {β : Type} {p : Par (List ByteArray)} {K : List ByteArray → List ByteArray → List ByteArray → List ByteArray → Par β} {l : List UInt8} {y : Int} (h : repP p 4 l = .error y) :
    bindP p (fun a => bindP p fun b => bindP p fun c => bindP p fun d => K a b c d) l = .error y := by
  rcases bindP_err h with h1 | ⟨_, _, h1, h⟩
  · exact bindP_error h1
  rw [bindP_ok h1]
  have h := (bindP_err h).resolve_right (by rintro ⟨_, _, _, h0⟩; cases h0)
  rcases bindP_err h with h1 | ⟨_, _, h1, h⟩
  · exact bindP_error h1
  rw [bindP_ok h1]
  have h := (bindP_err h).resolve_right (by rintro ⟨_, _, _, h0⟩; cases h0)
  rcases bindP_err h with h1 | ⟨_, _, h1, h⟩
  · exact bindP_error h1
  rw [bindP_ok h1]
  have h := (bindP_err h).resolve_right (by rintro ⟨_, _, _, h0⟩; cases h0)
  rcases bindP_err h with h1 | ⟨_, _, h1, h⟩
  · exact bindP_error h1
  have h := (bindP_err h).resolve_right (by rintro ⟨_, _, _, h0⟩; cases h0)
  cases h

theorem own_modx {w w' : World} {x : Nat} {s : Value} {t : TypeId} {sz n : Nat} {v : Value} {cs : List Value} (h : Own w t sz v n cs) (hB : Blk w x 70 #[s]) (ht : t ≠ 70) (hm : Mod (fun i => i = x) w w') : Own w' t sz v n cs :=
  h.mod hm fun b e e' => own_blk_ne h hB ht (by rw [← e']; exact e)
theorem own_far {w : World} {g t' : Nat} {bs : Array Value} {t : TypeId} {sz n : Nat} {v : Value} {cs : List Value} (h : Own w t sz v n cs) (hB : Blk w g t' bs) (ht : t ≠ t') (i : Nat) (u : Value) : Own (w.setCell ⟨g, i, none⟩ u) t sz v n cs :=
  h.keep fun b e => Below.heap_setCell _ _ _ _ (by rintro rfl; exact own_blk_ne h hB ht e)
/-- the lists that are read so far -/
def RowsL (w : World) (ls : List (List ByteArray)) (vs : List Value) : Prop := ∀ (m : Nat) (l : List ByteArray) (v : Value), ls[m]? = some l → vs[m]? = some v → ListV w l v
theorem RowsL.modx {w w' : World} {x : Nat} {s : Value} {ls : List (List ByteArray)} {vs : List Value} (h : RowsL w ls vs) (hB : Blk w x 70 #[s]) (hm : Mod (fun i => i = x) w w') : RowsL w' ls vs := fun m l v h1 h2 => own_modx (h m l v h1 h2) hB (by decide) hm
theorem RowsL.far {w : World} {g : Nat} {bs : Array Value} {ls : List (List ByteArray)} {vs : List Value} (h : RowsL w ls vs) (hB : Blk w g 49 bs) (i : Nat) (u : Value) : RowsL (w.setCell ⟨g, i, none⟩ u) ls vs := fun m l v h1 h2 => own_far (h m l v h1 h2) hB (by decide) i u
theorem RowsL.snoc {w : World} {ls : List (List ByteArray)} {vs : List Value} {l : List ByteArray} {v : Value} (h : RowsL w ls vs) (hl : ListV w l v) : RowsL w (ls ++ [l]) (vs.set ls.length v) := fun m l' v' h1 h2 => by
  rcases Nat.lt_trichotomy m ls.length with hm | hm | hm
  · rw [List.getElem?_append_left hm] at h1
    rw [List.getElem?_set_ne (by omega)] at h2
    exact h m l' v' h1 h2
  · subst hm
    rw [List.getElem?_append_right (Nat.le_refl _), Nat.sub_self] at h1
    obtain rfl : l = l' := by simpa using h1
    obtain ⟨hlt, h3⟩ := List.getElem?_eq_some_iff.1 h2
    rw [List.getElem_set_self] at h3
    exact h3 ▸ hl
  · rw [List.getElem?_eq_none (by simp; omega)] at h1
    cases h1

theorem row_modx {w w' : World} {x B : Nat} {s : Value} {t : TypeId} {sz n : Nat} {v : Value} {cs : List Value} (h : w.ownsRow B t sz v n cs) (hB : Blk w x 70 #[s]) (ht : t ≠ 70) (hm : Mod (fun i => i = x) w w') : w'.ownsRow B t sz v n cs :=
  row_keep h fun b e => hm.block b ((row_own h).lt e) fun e' => own_blk_ne (row_own h) hB ht (by rw [← e']; exact e)
theorem row_far {w : World} {g t' B : Nat} {bs : Array Value} {t : TypeId} {sz n : Nat} {v : Value} {cs : List Value} (h : w.ownsRow B t sz v n cs) (hB : Blk w g t' bs) (ht : t ≠ t') (i : Nat) (u : Value) : (w.setCell ⟨g, i, none⟩ u).ownsRow B t sz v n cs :=
  row_keep h fun b e => Below.heap_setCell _ _ _ _ (by rintro rfl; exact own_blk_ne (row_own h) hB ht e)
theorem row_grown {w w' : World} {B : Nat} {t t' : TypeId} {sz n sz' n' : Nat} {v v' : Value} {cs cs' : List Value} (h : w.ownsRow B t sz v n cs) (ho : w.ownsRow B t' sz' v' n' cs') (ht : t ≠ t') (hg : w.grownBy w' v'.ownBlock) : w'.ownsRow B t sz v n cs :=
  row_keep h fun b e => hg.block b ((row_own h).lt e) fun e' => own_own_ne (row_own ho) (row_own h) (Ne.symm ht) e'.symm e
/-- where in.code stands: its parts read so far, its result's variable, what is to be read -/
structure St (w wr : World) (x vb : Nat) (q : List UInt8) (C : Array Value) (ls : List (List ByteArray)) (vs : List Value) : Prop where
  blk : Blk wr vb 49 C
  rows : RowsL wr ls vs
  res : Blk wr w.heap.size 49 #[.string ⟨#[]⟩, .int .i64 0, .int .i64 0, .int .i64 0, .bool false, .slice none 0 0, .slice none 0 0, .slice none 0 0, .slice none 0 0, .slice none 0 0, .slice none 0 0]
  inb : Blk wr x 70 #[.string (bstr q)]
  mod : Mod (fun i => i = x) w wr
  hx : x < w.heap.size
  hv : w.heap.size < vb
section
variable {w wr w' : World} {x vb : Nat} {q q' : List UInt8} {C : Array Value} {ls : List (List ByteArray)} {vs : List Value}
theorem St.took (h : St w wr x vb q C ls vs) (hm : Mod (fun i => i = x) wr w') (hB : Blk w' x 70 #[.string (bstr q')]) : St w w' x vb q' C ls vs :=
  ⟨h.blk.mod hm (by have := h.hx; have := h.hv; omega), h.rows.modx h.inb hm, h.res.mod hm (by have := h.hx; omega), hB, mod_trans h.mod hm, h.hx, h.hv⟩
theorem St.new (h : St w wr x vb q C ls vs) (hb : Below wr.heap.size wr w') : St w w' x vb q C ls vs :=
  ⟨h.blk.new' hb, h.rows.modx h.inb (Mod.new hb), h.res.new' hb, h.inb.new' hb, mod_trans h.mod (Mod.new hb), h.hx, h.hv⟩
theorem St.grown {t : TypeId} {sz n : Nat} {v : Value} {cs : List Value} (h : St w wr x vb q C ls vs) (ho : wr.ownsRow w.heap.size t sz v n cs) (h1 : t ≠ 49) (h2 : t ≠ 70) (h3 : t ≠ 9) (hg : wr.grownBy w' v.ownBlock) : St w w' x vb q C ls vs :=
  ⟨h.blk.grown hg (fun e => own_blk_ne (row_own ho) h.blk h1 e.symm),
   fun m l v' e1 e2 => (h.rows m l v' e1 e2).keep fun b e => hg.block b ((h.rows m l v' e1 e2).lt e) fun e' => own_own_ne (row_own ho) (h.rows m l v' e1 e2) h3 e'.symm e,
   h.res.grown hg (fun e => own_blk_ne (row_own ho) h.res h1 e.symm), h.inb.grown hg (fun e => own_blk_ne (row_own ho) h.inb h2 e.symm),
   h.mod.grown hg fun k e hk => absurd (row_base ho e) (by omega), h.hx, h.hv⟩
theorem St.set (h : St w wr x vb q C ls vs) (i : Nat) (u : Value) : St w (wr.setCell ⟨vb, i, none⟩ u) x vb q (C.setIfInBounds i u) ls vs :=
  ⟨h.blk.set_ i u, h.rows.far h.blk i u, h.res.far (p := ⟨vb, i, none⟩) (by have := h.hv; show w.heap.size ≠ vb; omega) u, h.inb.far (p := ⟨vb, i, none⟩) (by have := h.hv; have := h.hx; show x ≠ vb; omega) u,
   h.mod.setCell (p := ⟨vb, i, none⟩) (fun h' => by have h' : vb < w.heap.size := h'; have := h.hv; omega) u, h.hx, h.hv⟩
end
theorem number_top {w : World} {x : Nat} {l : List UInt8} (h : Blk w x 70 #[.string (bstr l)]) : Calls Tryd.prog 52 #[.pointer (some ⟨x, 0, none⟩), .int .i64 2147483647] w (Took w x NatV (numP 2147483647 l)) := number_in h 2147483647 (Nat.le_refl _)
theorem info_I : (Tryd.prog.info? 64).map (fun i => (i.zero, i.size, i.bytes)) = some (some (.agg #[.int .i64 0, .int .i64 0]), 2, 16) := by kernel_rfl
theorem ins_oneCell (v : Int × Int) : ∀ u ∈ insCs v, u.oneCell' = true := by
  intro u hu
  simp only [insCs, List.mem_cons, List.not_mem_nil, or_false] at hu
  rcases hu with rfl | rfl <;> rfl
theorem ins_cells (w : World) (v : Int × Int) : ∀ j u, (insCs v)[j]? = some u → (w.alloc (.cells #[.int .i64 v.1, .int .i64 v.2] 64)).cell? ((⟨w.heap.size, 0, none⟩ : Addr).add j) = some u := by
  intro j u hu
  rw [show (⟨w.heap.size, 0, none⟩ : Addr).add j = ⟨w.heap.size, j, none⟩ from by unfold Addr.add; split <;> simp_all, (Blk.new w 64 #[.int .i64 v.1, .int .i64 v.2]).cell]
  simpa [insCs] using hu
theorem val_oneCell (v : ValD) : ∀ u ∈ valCs v, u.oneCell' = true := by
  intro u hu
  simp only [valCs, List.mem_cons, List.not_mem_nil, or_false] at hu
  rcases hu with rfl | rfl | rfl <;> rfl
theorem val_cells (w : World) (v : ValD) : ∀ j u, (valCs v)[j]? = some u → (w.alloc (.cells #[.int .i64 v.k, .int .i64 v.n, .string v.s] 77)).cell? ((⟨w.heap.size, 0, none⟩ : Addr).add j) = some u := by
  intro j u hu
  rw [show (⟨w.heap.size, 0, none⟩ : Addr).add j = ⟨w.heap.size, j, none⟩ from by unfold Addr.add; split <;> simp_all, (Blk.new w 77 #[.int .i64 v.k, .int .i64 v.n, .string v.s]).cell]
  simpa [valCs] using hu

set_option maxRecDepth 100000 in
set_option maxHeartbeats 4000000 in
theorem code_in {w : World} {x : Nat} {l : List UInt8} (h : Blk w x 70 #[.string (bstr l)]) :
    Calls Tryd.prog 53 #[.pointer (some ⟨x, 0, none⟩)] w (Took w x CodeV (codeP l)) := by
  have hlt0 := h.lt
  have hb0 : Below w.heap.size w (w.alloc (.cells #[.string ⟨#[]⟩, .int .i64 0, .int .i64 0, .int .i64 0, .bool false, .slice none 0 0, .slice none 0 0, .slice none 0 0, .slice none 0 0, .slice none 0 0, .slice none 0 0] 49)) := (by repeat (first | exact Below.refl _ _ | assumption | refine Below.setCell ?_ (by first | (simp; done) | (simp; omega) | omega) _ | refine below_drewN ?_ _ | refine Below.drew ?_ | refine Below.alloc ?_ (by first | (simp; done) | (simp; omega) | omega) _))
  have HB0 := Lib.hid (h.new' hb0)
  have HR0 := Lib.hid (Blk.new w 49 #[.string ⟨#[]⟩, .int .i64 0, .int .i64 0, .int .i64 0, .bool false, .slice none 0 0, .slice none 0 0, .slice none 0 0, .slice none 0 0, .slice none 0 0, .slice none 0 0])
  have HM0 := Lib.hid (Mod.new (S := fun i => i = x) hb0)
  have ht : codeP l = _ := congrFun codeP_eq l
  generalize codeP l = R at *
  have HT0 := Lib.hid ht
  clear h hb0 ht
  go_enter Tryd.func53, Tryd.ntmps53
  go_wp2_with fail
  generalize w.alloc (.cells #[.string ⟨#[]⟩, .int .i64 0, .int .i64 0, .int .i64 0, .bool false, .slice none 0 0, .slice none 0 0, .slice none 0 0, .slice none 0 0, .slice none 0 0, .slice none 0 0] 49) = W1 at *
  refine (text_in HB0.out).mono ?_
  rintro e w1 ht
  rcases took_cases ht with ⟨y, hx, rfl, hm⟩ | ⟨nm, l1, u, hx, rfl, rfl, hB, hm⟩
  · exact ⟨rfl, mod_trans HM0.out hm, by rw [step_err HT0.out hx]⟩
  have HB1 := Lib.hid hB
  have HM1 := Lib.hid (mod_trans HM0.out hm)
  have HR1 := Lib.hid (HR0.out.mod hm (by omega))
  have HT1 := Lib.hid (step_ok HT0.out hx)
  clear HB0 HM0 HR0 HT0 ht hx hB hm
  go_wp2_with fail
  refine (number_in HB1.out 2147483647 (by omega)).mono ?_
  rintro e w2 ht
  rcases took_cases ht with ⟨y, hx, rfl, hm⟩ | ⟨kd, l2, u, hx, rfl, rfl, hB, hm⟩
  · exact ⟨rfl, mod_trans HM1.out hm, by rw [step_err HT1.out hx]⟩
  have HB2 := Lib.hid hB
  have HM2 := Lib.hid (mod_trans HM1.out hm)
  have HR2 := Lib.hid (HR1.out.mod hm (by omega))
  have HT2 := Lib.hid (step_ok HT1.out hx)
  clear HB1 HM1 HR1 HT1 ht hx hB hm
  go_wp2_with fail
  refine (number_in HB2.out 2147483647 (by omega)).mono ?_
  rintro e w3 ht
  rcases took_cases ht with ⟨y, hx, rfl, hm⟩ | ⟨pa, l3, u, hx, rfl, rfl, hB, hm⟩
  · exact ⟨rfl, mod_trans HM2.out hm, by rw [step_err HT2.out hx]⟩
  have HB3 := Lib.hid hB
  have HM3 := Lib.hid (mod_trans HM2.out hm)
  have HR3 := Lib.hid (HR2.out.mod hm (by omega))
  have HT3 := Lib.hid (step_ok HT2.out hx)
  clear HB2 HM2 HR2 HT2 ht hx hB hm
  go_wp2_with fail
  refine (number_in HB3.out 2147483647 (by omega)).mono ?_
  rintro e w4 ht
  rcases took_cases ht with ⟨y, hx, rfl, hm⟩ | ⟨de, l4, u, hx, rfl, rfl, hB, hm⟩
  · exact ⟨rfl, mod_trans HM3.out hm, by rw [step_err HT3.out hx]⟩
  have HB4 := Lib.hid hB
  have HM4 := Lib.hid (mod_trans HM3.out hm)
  have HR4 := Lib.hid (HR3.out.mod hm (by omega))
  have HT4 := Lib.hid (step_ok HT3.out hx)
  clear HB3 HM3 HR3 HT3 ht hx hB hm
  go_wp2_with fail
  refine (among_any HB4.out 0 1).mono ?_
  rintro e w5 ht
  rcases took_cases ht with ⟨y, hx, rfl, hm⟩ | ⟨ge, l5, u, hx, rfl, rfl, hB, hm⟩
  · exact ⟨rfl, mod_trans HM4.out hm, by rw [step_err HT4.out hx]⟩
  have HB5 := Lib.hid hB
  have HM5 := Lib.hid (mod_trans HM4.out hm)
  have HR5 := Lib.hid (HR4.out.mod hm (by omega))
  have HT5 := Lib.hid (step_ok HT4.out hx)
  clear HB4 HM4 HR4 HT4 ht hx hB hm
  go_wp2_with fail
  have hge : ((ge.toNat : Int) == 1) = (ge == 1) := by
    rw [Bool.eq_iff_iff, beq_iff_eq, beq_iff_eq]
    exact ⟨fun h => UInt8.toNat_inj.1 (by show ge.toNat = 1; omega), fun h => by subst h; rfl⟩
  rw [hge]
  obtain ⟨gg, hgg⟩ : ∃ gg, gg = (ge == 1) := ⟨_, rfl⟩
  rw [← hgg]
  have HG := Lib.hid hgg
  clear hge hgg
  have hb1 : Below w5.heap.size w5 (w5.alloc (.cells #[.string nm, .int .i64 kd, .int .i64 pa, .int .i64 de, .bool gg, .slice none 0 0, .slice none 0 0, .slice none 0 0, .slice none 0 0, .slice none 0 0, .slice none 0 0] 49)) := (by repeat (first | exact Below.refl _ _ | assumption | refine Below.setCell ?_ (by first | (simp; done) | (simp; omega) | omega) _ | refine below_drewN ?_ _ | refine Below.drew ?_ | refine Below.alloc ?_ (by first | (simp; done) | (simp; omega) | omega) _))
  have hz1 : (w5.alloc (.cells #[.string nm, .int .i64 kd, .int .i64 pa, .int .i64 de, .bool gg, .slice none 0 0, .slice none 0 0, .slice none 0 0, .slice none 0 0, .slice none 0 0, .slice none 0 0] 49)).heap.size = w5.heap.size + 1 := by simp
  have hV := Blk.new w5 49 #[.string nm, .int .i64 kd, .int .i64 pa, .int .i64 de, .bool gg, .slice none 0 0, .slice none 0 0, .slice none 0 0, .slice none 0 0, .slice none 0 0, .slice none 0 0]
  have hB := HB5.out.new' hb1
  have hR := HR5.out.new' hb1
  have hM := mod_trans HM5.out (Mod.new hb1)
  have hw5 := HM5.out.size
  have hrl := HR5.out.lt
  clear HB5 HM5 HR5
  generalize w5.alloc (.cells #[.string nm, .int .i64 kd, .int .i64 pa, .int .i64 de, .bool gg, .slice none 0 0, .slice none 0 0, .slice none 0 0, .slice none 0 0, .slice none 0 0, .slice none 0 0] 49) = W2 at *
  have hb2 : Below W2.heap.size W2 (W2.alloc (.cells #[.pointer (some ⟨w5.heap.size, 5, none⟩), .pointer (some ⟨w5.heap.size, 6, none⟩), .pointer (some ⟨w5.heap.size, 7, none⟩), .pointer (some ⟨w5.heap.size, 8, none⟩)] 103)) := (by repeat (first | exact Below.refl _ _ | assumption | refine Below.setCell ?_ (by first | (simp; done) | (simp; omega) | omega) _ | refine below_drewN ?_ _ | refine Below.drew ?_ | refine Below.alloc ?_ (by first | (simp; done) | (simp; omega) | omega) _))
  have hP := Blk.new W2 103 #[.pointer (some ⟨w5.heap.size, 5, none⟩), .pointer (some ⟨w5.heap.size, 6, none⟩), .pointer (some ⟨w5.heap.size, 7, none⟩), .pointer (some ⟨w5.heap.size, 8, none⟩)]
  rw [hz1] at hP
  have HP6 := Lib.hid hP
  have HV6 := Lib.hid (hV.new' hb2)
  have HB6 := Lib.hid (hB.new' hb2)
  have HR6 := Lib.hid (hR.new' hb2)
  have HM6 := Lib.hid (mod_trans hM (Mod.new hb2))
  have hT : R = bindP listP (fun lo => bindP listP fun ce => bindP listP fun fr => bindP listP fun na => codeP2 nm kd pa de ge lo ce fr na) l5 := HT5.out
  have HT6 := Lib.hid hT
  clear hP hV hB hR hM hb1 hb2 hT HT5
  have hpv : w5.heap.size + 1 ≠ w5.heap.size := by omega
  have hrv : w.heap.size < w5.heap.size := hrl
  have hxv : x < w5.heap.size := by omega
  generalize W2.alloc (.cells #[.pointer (some ⟨w5.heap.size, 5, none⟩), .pointer (some ⟨w5.heap.size, 6, none⟩), .pointer (some ⟨w5.heap.size, 7, none⟩), .pointer (some ⟨w5.heap.size, 8, none⟩)] 103) = W3 at *
  generalize w5.heap.size + 1 = pb at *
  generalize w5.heap.size = vb at *
  clear hz1
  go_loopw [25] (fun i wr => ∃ (j : Nat) (ls : List (List ByteArray)) (rest : List UInt8) (v5 v6 v7 v8 : Value), j ≤ 4 ∧ i = .int .i64 j ∧ repP listP j l5 = .ok (ls, rest) ∧ Blk wr vb 49 #[.string nm, .int .i64 kd, .int .i64 pa, .int .i64 de, .bool gg, v5, v6, v7, v8, .slice none 0 0, .slice none 0 0] ∧
    RowsL wr ls [v5, v6, v7, v8] ∧ Blk wr pb 103 #[.pointer (some ⟨vb, 5, none⟩), .pointer (some ⟨vb, 6, none⟩), .pointer (some ⟨vb, 7, none⟩), .pointer (some ⟨vb, 8, none⟩)] ∧ Blk wr w.heap.size 49 #[.string ⟨#[]⟩, .int .i64 0, .int .i64 0, .int .i64 0, .bool false, .slice none 0 0, .slice none 0 0, .slice none 0 0, .slice none 0 0, .slice none 0 0, .slice none 0 0] ∧ Blk wr x 70 #[.string (bstr rest)] ∧ Mod (fun i => i = x) w wr) (fun i _ => 4 - (intOf i).toNat)
  case atStart => exact ⟨0, [], l5, .slice none 0 0, .slice none 0 0, .slice none 0 0, .slice none 0 0, by omega, rfl, rfl, HV6.out, fun m l v h => by simp at h, HP6.out, HR6.out, HB6.out, HM6.out⟩
  case round =>
    clear HV6 HP6 HR6 HB6 HM6
    obtain ⟨j, ls, rest, v5, v6, v7, v8, hj, rfl, hN, hV, hL, hP, hR, hB, hM⟩ := hrel
    by_cases hlt : j < 4
    · have HL := Lib.hid hL
      have HB := Lib.hid hB
      have HM := Lib.hid hM
      have HR := Lib.hid hR
      have HV := Lib.hid hV
      have HP := Lib.hid hP
      have HN := Lib.hid hN
      clear hL hB hM hR hV hP hN
      rcases (show j = 0 ∨ j = 1 ∨ j = 2 ∨ j = 3 by omega) with rfl | rfl | rfl | rfl
      · have p0 := HP.out.cell 0
        have pl := HP.out.lt
        simp only [List.getElem?_toArray, List.getElem?_cons_zero, List.getElem?_cons_succ] at p0
        go_wp2_with fail
        clear p0 pl
        refine (list_in HB.out).mono ?_
        rintro e w7 ht
        rcases took_cases ht with ⟨y, hx, rfl, hm⟩ | ⟨ll, q, u, hx, rfl, hU, hB, hm⟩
        · exact ⟨rfl, mod_trans HM.out hm, by rw [HT6.out, rep4_err (repP_stop HN.out hx (by omega))]⟩
        obtain ⟨A, cc, rfl, -, -⟩ := Own.rd hU
        have hV := HV.out.mod hm (by omega)
        have hP := HP.out.mod hm (by rintro rfl; exact Blk.ne_ HP.out HB.out (by decide) rfl)
        have hR := HR.out.mod hm (by omega)
        have v0 := hV.cell 5
        have vf := hV.frozen 5
        have vl := hV.lt
        simp only [List.getElem?_toArray, List.getElem?_cons_zero, List.getElem?_cons_succ] at v0
        have hll := repP_len HN.out
        have hL := ((HL.out.modx HB.out hm).far hV 5 (.slice A ll.length cc)).snoc (own_far hU hV (by decide) 5 (.slice A ll.length cc))
        rw [hll] at hL
        have HL7 := Lib.hid hL
        have HV7 := Lib.hid (hV.set_ 5 (.slice A ll.length cc))
        have HP7 := Lib.hid (hP.far (p := ⟨vb, 5, none⟩) (by show pb ≠ vb; exact hpv) (.slice A ll.length cc))
        have HR7 := Lib.hid (hR.far (p := ⟨vb, 5, none⟩) (by show w.heap.size ≠ vb; omega) (.slice A ll.length cc))
        have HB7 := Lib.hid (hB.far (p := ⟨vb, 5, none⟩) (by show x ≠ vb; omega) (.slice A ll.length cc))
        have HM7 := Lib.hid ((mod_trans HM.out hm).setCell (p := ⟨vb, 5, none⟩) (fun h => by have h : vb < w.heap.size := h; omega) (.slice A ll.length cc))
        have HN7 := Lib.hid (repP_snoc HN.out hx)
        clear ht hx hU hB hm hV hP hR hL hll HL HB HM HR HV HP HN
        go_wp2
        go_roundw
        case rel => exact ⟨1, ls ++ [ll], q, (.slice A ll.length cc), v6, v7, v8, by omega, rfl, HN7.out, HV7.out, HL7.out, HP7.out, HR7.out, HB7.out, HM7.out⟩
        case measure => simp [intOf]
      · have p0 := HP.out.cell 1
        have pl := HP.out.lt
        simp only [List.getElem?_toArray, List.getElem?_cons_zero, List.getElem?_cons_succ] at p0
        go_wp2_with fail
        clear p0 pl
        refine (list_in HB.out).mono ?_
        rintro e w7 ht
        rcases took_cases ht with ⟨y, hx, rfl, hm⟩ | ⟨ll, q, u, hx, rfl, hU, hB, hm⟩
        · exact ⟨rfl, mod_trans HM.out hm, by rw [HT6.out, rep4_err (repP_stop HN.out hx (by omega))]⟩
        obtain ⟨A, cc, rfl, -, -⟩ := Own.rd hU
        have hV := HV.out.mod hm (by omega)
        have hP := HP.out.mod hm (by rintro rfl; exact Blk.ne_ HP.out HB.out (by decide) rfl)
        have hR := HR.out.mod hm (by omega)
        have v0 := hV.cell 6
        have vf := hV.frozen 6
        have vl := hV.lt
        simp only [List.getElem?_toArray, List.getElem?_cons_zero, List.getElem?_cons_succ] at v0
        have hll := repP_len HN.out
        have hL := ((HL.out.modx HB.out hm).far hV 6 (.slice A ll.length cc)).snoc (own_far hU hV (by decide) 6 (.slice A ll.length cc))
        rw [hll] at hL
        have HL7 := Lib.hid hL
        have HV7 := Lib.hid (hV.set_ 6 (.slice A ll.length cc))
        have HP7 := Lib.hid (hP.far (p := ⟨vb, 6, none⟩) (by show pb ≠ vb; exact hpv) (.slice A ll.length cc))
        have HR7 := Lib.hid (hR.far (p := ⟨vb, 6, none⟩) (by show w.heap.size ≠ vb; omega) (.slice A ll.length cc))
        have HB7 := Lib.hid (hB.far (p := ⟨vb, 6, none⟩) (by show x ≠ vb; omega) (.slice A ll.length cc))
        have HM7 := Lib.hid ((mod_trans HM.out hm).setCell (p := ⟨vb, 6, none⟩) (fun h => by have h : vb < w.heap.size := h; omega) (.slice A ll.length cc))
        have HN7 := Lib.hid (repP_snoc HN.out hx)
        clear ht hx hU hB hm hV hP hR hL hll HL HB HM HR HV HP HN
        go_wp2
        go_roundw
        case rel => exact ⟨2, ls ++ [ll], q, v5, (.slice A ll.length cc), v7, v8, by omega, rfl, HN7.out, HV7.out, HL7.out, HP7.out, HR7.out, HB7.out, HM7.out⟩
        case measure => simp [intOf]
      · have p0 := HP.out.cell 2
        have pl := HP.out.lt
        simp only [List.getElem?_toArray, List.getElem?_cons_zero, List.getElem?_cons_succ] at p0
        go_wp2_with fail
        clear p0 pl
        refine (list_in HB.out).mono ?_
        rintro e w7 ht
        rcases took_cases ht with ⟨y, hx, rfl, hm⟩ | ⟨ll, q, u, hx, rfl, hU, hB, hm⟩
        · exact ⟨rfl, mod_trans HM.out hm, by rw [HT6.out, rep4_err (repP_stop HN.out hx (by omega))]⟩
        obtain ⟨A, cc, rfl, -, -⟩ := Own.rd hU
        have hV := HV.out.mod hm (by omega)
        have hP := HP.out.mod hm (by rintro rfl; exact Blk.ne_ HP.out HB.out (by decide) rfl)
        have hR := HR.out.mod hm (by omega)
        have v0 := hV.cell 7
        have vf := hV.frozen 7
        have vl := hV.lt
        simp only [List.getElem?_toArray, List.getElem?_cons_zero, List.getElem?_cons_succ] at v0
        have hll := repP_len HN.out
        have hL := ((HL.out.modx HB.out hm).far hV 7 (.slice A ll.length cc)).snoc (own_far hU hV (by decide) 7 (.slice A ll.length cc))
        rw [hll] at hL
        have HL7 := Lib.hid hL
        have HV7 := Lib.hid (hV.set_ 7 (.slice A ll.length cc))
        have HP7 := Lib.hid (hP.far (p := ⟨vb, 7, none⟩) (by show pb ≠ vb; exact hpv) (.slice A ll.length cc))
        have HR7 := Lib.hid (hR.far (p := ⟨vb, 7, none⟩) (by show w.heap.size ≠ vb; omega) (.slice A ll.length cc))
        have HB7 := Lib.hid (hB.far (p := ⟨vb, 7, none⟩) (by show x ≠ vb; omega) (.slice A ll.length cc))
        have HM7 := Lib.hid ((mod_trans HM.out hm).setCell (p := ⟨vb, 7, none⟩) (fun h => by have h : vb < w.heap.size := h; omega) (.slice A ll.length cc))
        have HN7 := Lib.hid (repP_snoc HN.out hx)
        clear ht hx hU hB hm hV hP hR hL hll HL HB HM HR HV HP HN
        go_wp2
        go_roundw
        case rel => exact ⟨3, ls ++ [ll], q, v5, v6, (.slice A ll.length cc), v8, by omega, rfl, HN7.out, HV7.out, HL7.out, HP7.out, HR7.out, HB7.out, HM7.out⟩
        case measure => simp [intOf]
      · have p0 := HP.out.cell 3
        have pl := HP.out.lt
        simp only [List.getElem?_toArray, List.getElem?_cons_zero, List.getElem?_cons_succ] at p0
        go_wp2_with fail
        clear p0 pl
        refine (list_in HB.out).mono ?_
        rintro e w7 ht
        rcases took_cases ht with ⟨y, hx, rfl, hm⟩ | ⟨ll, q, u, hx, rfl, hU, hB, hm⟩
        · exact ⟨rfl, mod_trans HM.out hm, by rw [HT6.out, rep4_err (repP_stop HN.out hx (by omega))]⟩
        obtain ⟨A, cc, rfl, -, -⟩ := Own.rd hU
        have hV := HV.out.mod hm (by omega)
        have hP := HP.out.mod hm (by rintro rfl; exact Blk.ne_ HP.out HB.out (by decide) rfl)
        have hR := HR.out.mod hm (by omega)
        have v0 := hV.cell 8
        have vf := hV.frozen 8
        have vl := hV.lt
        simp only [List.getElem?_toArray, List.getElem?_cons_zero, List.getElem?_cons_succ] at v0
        have hll := repP_len HN.out
        have hL := ((HL.out.modx HB.out hm).far hV 8 (.slice A ll.length cc)).snoc (own_far hU hV (by decide) 8 (.slice A ll.length cc))
        rw [hll] at hL
        have HL7 := Lib.hid hL
        have HV7 := Lib.hid (hV.set_ 8 (.slice A ll.length cc))
        have HP7 := Lib.hid (hP.far (p := ⟨vb, 8, none⟩) (by show pb ≠ vb; exact hpv) (.slice A ll.length cc))
        have HR7 := Lib.hid (hR.far (p := ⟨vb, 8, none⟩) (by show w.heap.size ≠ vb; omega) (.slice A ll.length cc))
        have HB7 := Lib.hid (hB.far (p := ⟨vb, 8, none⟩) (by show x ≠ vb; omega) (.slice A ll.length cc))
        have HM7 := Lib.hid ((mod_trans HM.out hm).setCell (p := ⟨vb, 8, none⟩) (fun h => by have h : vb < w.heap.size := h; omega) (.slice A ll.length cc))
        have HN7 := Lib.hid (repP_snoc HN.out hx)
        clear ht hx hU hB hm hV hP hR hL hll HL HB HM HR HV HP HN
        go_wp2
        go_roundw
        case rel => exact ⟨4, ls ++ [ll], q, v5, v6, v7, (.slice A ll.length cc), by omega, rfl, HN7.out, HV7.out, HL7.out, HP7.out, HR7.out, HB7.out, HM7.out⟩
        case measure => simp [intOf]
    · obtain rfl : j = 4 := by omega
      obtain ⟨lo, ce, fr, na, rfl, hT⟩ := rep4_ok (K := codeP2 nm kd pa de ge) hN
      have HT7 := Lib.hid (HT6.out.trans hT)
      have hS : St w wr x vb rest #[.string nm, .int .i64 kd, .int .i64 pa, .int .i64 de, .bool gg, v5, v6, v7, v8, .slice none 0 0, .slice none 0 0] [lo, ce, fr, na] [v5, v6, v7, v8] := ⟨hV, hL, hR, hB, hM, hlt0, hrv⟩
      have HS := Lib.hid hS
      clear hV hL hR hB hM hP hN hT HT6 hS
      obtain ⟨i0, hi, hz0, hz1, hz2⟩ := info_parts info_V
      have HI := Lib.hid (And.intro hi (And.intro hz0 (And.intro hz1 hz2)))
      clear hi hz0 hz1 hz2
      obtain ⟨wo, rfl⟩ : ∃ wo, wo = wr := ⟨_, rfl⟩
      go_wp2_with fail
      refine (number_in HS.out.inb 4096 (by omega)).mono ?_
      rintro e w7 ht
      rcases took_cases ht with ⟨y, hx, rfl, hm⟩ | ⟨n, r1, u, hx, rfl, rfl, hB, hm⟩
      · exact ⟨rfl, mod_trans HS.out.mod hm, by rw [step_err HT7.out (bindP_error hx)]⟩
      have hn : n ≤ 4096 := by
        obtain ⟨_, a, h1, _⟩ := (num_good 4096).inv _ _ _ hx
        exact (cntB_ok h1).1
      have hC : cntP valP 4096 rest = repP valP n r1 := bindP_ok hx
      have HC := Lib.hid hC
      have HS7 := Lib.hid (HS.out.took hm hB)
      clear HS ht hx hB hm hC
      go_wp2_with fail
      go_loopw [36] (fun i wr => ∃ (k : Nat) (vs : List ValD) (q : List UInt8) (v9 : Value), k ≤ n ∧ i = .int .i64 k ∧ repP valP k r1 = .ok (vs, q) ∧ St w wr x vb q #[.string nm, .int .i64 kd, .int .i64 pa, .int .i64 de, .bool gg, v5, v6, v7, v8, v9, .slice none 0 0] [lo, ce, fr, na] [v5, v6, v7, v8] ∧
        wr.ownsRow w.heap.size 77 3 v9 vs.length (vs.flatMap valCs)) (fun i _ => n - (intOf i).toNat)
      case atStart => exact ⟨0, [], r1, .slice none 0 0, by omega, rfl, rfl, HS7.out, ⟨rfl, .inl ⟨rfl, rfl⟩⟩⟩
      case round =>
        clear HS7
        obtain ⟨k, vs, q, v9, hk, rfl, hN, hS, hO⟩ := hrel
        have hvl := repP_len hN
        by_cases hlt : k < n
        · obtain ⟨A, cc, rfl, -, -⟩ := Own.rd (row_own hO)
          have v0 := hS.blk.cell 9
          have vl := hS.blk.lt
          simp only [List.getElem?_toArray, List.getElem?_cons_zero, List.getElem?_cons_succ] at v0
          have hvk : vs.length ≤ 4096 := by omega
          have hwz := hS.mod.size
          have HN := Lib.hid hN
          have HS := Lib.hid hS
          have HO := Lib.hid hO
          have HX := Lib.hid hvl
          clear hN hS hO hvl
          have HD := Lib.hid (HS.out.new (w' := wr.drew) (by repeat (first | exact Below.refl _ _ | assumption | refine Below.setCell ?_ (by first | (simp; done) | (simp; omega) | omega) _ | refine below_drewN ?_ _ | refine Below.drew ?_ | refine Below.alloc ?_ (by first | (simp; done) | (simp; omega) | omega) _)))
          go_wp2_with fail
          go_region_law (first
            | (refine step_append_row rfl (.tmp 39) (.tmp 42) 46 rfl w.heap.size 77 i0 _ 3 32 Tryd.underlying46 HI.out.1 HI.out.2.1 HI.out.2.2.1 HI.out.2.2.2 rfl (by decide) (.slice A vs.length cc) vs.length (vs.flatMap valCs) rfl (by exact row_new HO4.out (by repeat (first | exact Below.refl _ _ | assumption | refine Below.setCell ?_ (by first | (simp; done) | (simp; omega) | omega) _ | refine below_drewN ?_ _ | refine Below.drew ?_ | refine Below.alloc ?_ (by first | (simp; done) | (simp; omega) | omega) _))) ⟨w4.heap.size, 0, none⟩ 1 1 (valCs v) rfl rfl (by exact val_cells w4 v) (val_oneCell v) (by simp only [maxLen]; omega) (by omega) (by simp; omega) ?_; intro v6 w6 ho6 hg6 _; obtain ⟨A6, c6, rfl, -, -⟩ := Own.rd (row_own ho6); have HS6 := Lib.hid ((HS4.out.new (by repeat (first | exact Below.refl _ _ | assumption | refine Below.setCell ?_ (by first | (simp; done) | (simp; omega) | omega) _ | refine below_drewN ?_ _ | refine Below.drew ?_ | refine Below.alloc ?_ (by first | (simp; done) | (simp; omega) | omega) _))).grown (row_new HO4.out (by repeat (first | exact Below.refl _ _ | assumption | refine Below.setCell ?_ (by first | (simp; done) | (simp; omega) | omega) _ | refine below_drewN ?_ _ | refine Below.drew ?_ | refine Below.alloc ?_ (by first | (simp; done) | (simp; omega) | omega) _))) (by decide) (by decide) (by decide) hg6); have HO6 := Lib.hid ho6; have u0 := HS6.out.blk.cell 9; have uf := HS6.out.blk.frozen 9; have ul := HS6.out.blk.lt; simp only [List.getElem?_toArray, List.getElem?_cons_zero, List.getElem?_cons_succ] at u0; clear ho6 hg6)
            | (go_simp; (with_reducible refine (const_in HD.out.inb).mono ?_); rintro e w4 ht; (rcases took_cases ht with ⟨y, hx, rfl, hm⟩ | ⟨v, q2, u, hx, rfl, rfl, hB, hm⟩); (exact ⟨rfl, mod_trans HD.out.mod hm, by rw [step_err HT7.out (HC.out.trans (repP_stop HN.out hx hlt))]⟩); have HS4 := Lib.hid (HD.out.took hm hB); have HO4 := Lib.hid (row_modx (row_new HO.out (w' := wr.drew) (by repeat (first | exact Below.refl _ _ | assumption | refine Below.setCell ?_ (by first | (simp; done) | (simp; omega) | omega) _ | refine below_drewN ?_ _ | refine Below.drew ?_ | refine Below.alloc ?_ (by first | (simp; done) | (simp; omega) | omega) _))) HD.out.inb (by decide) hm); have HN4 := Lib.hid (repP_snoc HN.out hx); have z0 := HS4.out.blk.cell 9; have zl := HS4.out.blk.lt; simp only [List.getElem?_toArray, List.getElem?_cons_zero, List.getElem?_cons_succ] at z0; have hwz4 := HS4.out.mod.size; clear ht hx hB hm; simp only [valV]))
          all_goals
            have hS7 := HS6.out.set 9 (.slice A6 (vs.length + 1) c6)
            have hO7 := row_far HO6.out HS6.out.blk (by decide) 9 (.slice A6 (vs.length + 1) c6)
            have HS7 := Lib.hid hS7
            have HO7 := Lib.hid hO7
            clear hS7 hO7 v0 vl z0 zl u0 uf ul
            go_wp2
            go_roundw
            case rel => exact ⟨k + 1, vs ++ [v], q2, .slice A6 (vs.length + 1) c6, by omega, by go_num, HN4.out, HS7.out, by rw [List.length_append, List.flatMap_append, show [v].flatMap valCs = valCs v from List.append_nil _]; exact HO7.out⟩
            case measure => simp [intOf]; omega
        · obtain rfl : k = n := by omega
          obtain ⟨A, cc, rfl, -, -⟩ := Own.rd (row_own hO)
          have HT8 := Lib.hid (step_ok HT7.out (HC.out.trans hN))
          have HS := Lib.hid hS
          have HO := Lib.hid hO
          clear hN hS hO hvl HC HT7
          obtain ⟨wp, rfl⟩ : ∃ wp, wp = wr := ⟨_, rfl⟩
          go_wp2_with fail
          refine (number_in HS.out.inb 65536 (by omega)).mono ?_
          rintro e w8 ht
          rcases took_cases ht with ⟨y, hx, rfl, hm⟩ | ⟨n2, r2, u, hx, rfl, rfl, hB, hm⟩
          · exact ⟨rfl, mod_trans HS.out.mod hm, by rw [step_err HT8.out (bindP_error hx)]⟩
          have hn2 : n2 ≤ 65536 := by
            obtain ⟨_, a, h1, _⟩ := (num_good 65536).inv _ _ _ hx
            exact (cntB_ok h1).1
          have hC : cntP insP 65536 q = repP insP n2 r2 := bindP_ok hx
          have HC := Lib.hid hC
          have HO8 := Lib.hid (row_modx HO.out HS.out.inb (by decide) hm)
          have HS8 := Lib.hid (HS.out.took hm hB)
          clear HS ht hx hB hm hC HO
          go_wp2_with fail
          go_loopw [48] (fun i wr => ∃ (k : Nat) (is : List (Int × Int)) (q : List UInt8) (v10 : Value), k ≤ n2 ∧ i = .int .i64 k ∧ repP insP k r2 = .ok (is, q) ∧ St w wr x vb q #[.string nm, .int .i64 kd, .int .i64 pa, .int .i64 de, .bool gg, v5, v6, v7, v8, (.slice A vs.length cc), v10] [lo, ce, fr, na] [v5, v6, v7, v8] ∧
            wr.ownsRow w.heap.size 77 3 (.slice A vs.length cc) vs.length (vs.flatMap valCs) ∧ wr.ownsRow w.heap.size 64 2 v10 is.length (is.flatMap insCs)) (fun i _ => n2 - (intOf i).toNat)
          case atStart => exact ⟨0, [], r2, .slice none 0 0, by omega, rfl, rfl, HS8.out, HO8.out, ⟨rfl, .inl ⟨rfl, rfl⟩⟩⟩
          case round =>
            clear HS8 HO8 HI
            obtain ⟨j0, hi, hz0, hz1, hz2⟩ := info_parts info_I
            have HI := Lib.hid (And.intro hi (And.intro hz0 (And.intro hz1 hz2)))
            clear hi hz0 hz1 hz2
            obtain ⟨m, is, q, v10, hk2, rfl, hN, hS, hO, hJ⟩ := hrel
            have hil := repP_len hN
            by_cases hlt2 : m < n2
            · obtain ⟨Ai, ci, rfl, -, -⟩ := Own.rd (row_own hJ)
              have hvk : is.length ≤ 65536 := by omega
              have hwz := hS.mod.size
              have HN := Lib.hid hN
              have HS := Lib.hid hS
              have HO := Lib.hid hO
              have HJ := Lib.hid hJ
              have HX := Lib.hid hil
              clear hN hS hO hJ hil
              go_wp2_with fail
              refine (among_any HS.out.inb 1 56).mono ?_
              rintro e w3 ht
              rcases took_cases ht with ⟨y, hx, rfl, hm⟩ | ⟨ob, q1, u, hx, rfl, rfl, hB, hm⟩
              · exact ⟨rfl, mod_trans HS.out.mod hm, by rw [step_err HT8.out (HC.out.trans (repP_stop HN.out (bindP_error hx) hlt2))]⟩
              have HA := Lib.hid hx
              have HO3 := Lib.hid (row_modx HO.out HS.out.inb (by decide) hm)
              have HJ3 := Lib.hid (row_modx HJ.out HS.out.inb (by decide) hm)
              have HS3 := Lib.hid (HS.out.took hm hB)
              have v0 := HS3.out.blk.cell 10
              have vl := HS3.out.blk.lt
              simp only [List.getElem?_toArray, List.getElem?_cons_zero, List.getElem?_cons_succ] at v0
              have hwz3 := HS3.out.mod.size
              have hob := ob.toNat_lt
              clear HS HO HJ ht hx hB hm
              have HD := Lib.hid (HS3.out.new (w' := w3.drew) (by repeat (first | exact Below.refl _ _ | assumption | refine Below.setCell ?_ (by first | (simp; done) | (simp; omega) | omega) _ | refine below_drewN ?_ _ | refine Below.drew ?_ | refine Below.alloc ?_ (by first | (simp; done) | (simp; omega) | omega) _)))
              go_wp2_with fail
              go_region_law (first
                | (refine step_append_row rfl (.tmp 54) (.tmp 59) 47 rfl w.heap.size 64 j0 _ 2 16 Tryd.underlying47 HI.out.1 HI.out.2.1 HI.out.2.2.1 HI.out.2.2.2 rfl (by decide) (.slice Ai is.length ci) is.length (is.flatMap insCs) rfl (by exact row_new HJ4.out (by repeat (first | exact Below.refl _ _ | assumption | refine Below.setCell ?_ (by first | (simp; done) | (simp; omega) | omega) _ | refine below_drewN ?_ _ | refine Below.drew ?_ | refine Below.alloc ?_ (by first | (simp; done) | (simp; omega) | omega) _))) ⟨w4.heap.size, 0, none⟩ 1 1 (insCs ((ob.toNat : Int), (a : Int))) rfl rfl (by exact ins_cells w4 _) (ins_oneCell _) (by simp only [maxLen]; omega) (by omega) (by simp; omega) ?_; intro v6 w6 ho6 hg6 _; obtain ⟨A6, c6, rfl, -, -⟩ := Own.rd (row_own ho6); have HS6 := Lib.hid ((HS4.out.new (by repeat (first | exact Below.refl _ _ | assumption | refine Below.setCell ?_ (by first | (simp; done) | (simp; omega) | omega) _ | refine below_drewN ?_ _ | refine Below.drew ?_ | refine Below.alloc ?_ (by first | (simp; done) | (simp; omega) | omega) _))).grown (row_new HJ4.out (by repeat (first | exact Below.refl _ _ | assumption | refine Below.setCell ?_ (by first | (simp; done) | (simp; omega) | omega) _ | refine below_drewN ?_ _ | refine Below.drew ?_ | refine Below.alloc ?_ (by first | (simp; done) | (simp; omega) | omega) _))) (by decide) (by decide) (by decide) hg6); have HJ6 := Lib.hid ho6; have HO6 := Lib.hid (row_grown (row_new HO4.out (by repeat (first | exact Below.refl _ _ | assumption | refine Below.setCell ?_ (by first | (simp; done) | (simp; omega) | omega) _ | refine below_drewN ?_ _ | refine Below.drew ?_ | refine Below.alloc ?_ (by first | (simp; done) | (simp; omega) | omega) _))) (row_new HJ4.out (by repeat (first | exact Below.refl _ _ | assumption | refine Below.setCell ?_ (by first | (simp; done) | (simp; omega) | omega) _ | refine below_drewN ?_ _ | refine Below.drew ?_ | refine Below.alloc ?_ (by first | (simp; done) | (simp; omega) | omega) _))) (by decide) hg6); have u0 := HS6.out.blk.cell 10; have uf := HS6.out.blk.frozen 10; have ul := HS6.out.blk.lt; simp only [List.getElem?_toArray, List.getElem?_cons_zero, List.getElem?_cons_succ] at u0; clear ho6 hg6)
                | (go_simp; (with_reducible refine (number_top HD.out.inb).mono ?_); rintro e w4 ht; (rcases took_cases ht with ⟨y, hx, rfl, hm⟩ | ⟨a, q2, u, hx, rfl, rfl, hB, hm⟩); (exact ⟨rfl, mod_trans HD.out.mod hm, by rw [step_err HT8.out (HC.out.trans (repP_stop HN.out (show insP _ = .error y by rw [insP, bindP_ok HA.out, bindP_error hx]) hlt2))]⟩); have HS4 := Lib.hid (HD.out.took hm hB); have HO4 := Lib.hid (row_modx (row_new HO3.out (w' := w3.drew) (by repeat (first | exact Below.refl _ _ | assumption | refine Below.setCell ?_ (by first | (simp; done) | (simp; omega) | omega) _ | refine below_drewN ?_ _ | refine Below.drew ?_ | refine Below.alloc ?_ (by first | (simp; done) | (simp; omega) | omega) _))) HD.out.inb (by decide) hm); have HJ4 := Lib.hid (row_modx (row_new HJ3.out (w' := w3.drew) (by repeat (first | exact Below.refl _ _ | assumption | refine Below.setCell ?_ (by first | (simp; done) | (simp; omega) | omega) _ | refine below_drewN ?_ _ | refine Below.drew ?_ | refine Below.alloc ?_ (by first | (simp; done) | (simp; omega) | omega) _))) HD.out.inb (by decide) hm); have HN4 := Lib.hid (repP_snoc HN.out (show insP _ = .ok (((ob.toNat : Int), (a : Int)), q2) by rw [insP, bindP_ok HA.out, bindP_ok hx]; rfl)); have z0 := HS4.out.blk.cell 10; have zl := HS4.out.blk.lt; simp only [List.getElem?_toArray, List.getElem?_cons_zero, List.getElem?_cons_succ] at z0; have hwz4 := HS4.out.mod.size; clear ht hx hB hm))
              all_goals
                have hS7 := HS6.out.set 10 (.slice A6 (is.length + 1) c6)
                have hO7 := row_far HO6.out HS6.out.blk (by decide) 10 (.slice A6 (is.length + 1) c6)
                have hJ7 := row_far HJ6.out HS6.out.blk (by decide) 10 (.slice A6 (is.length + 1) c6)
                have HS7 := Lib.hid hS7
                have HO7 := Lib.hid hO7
                have HJ7 := Lib.hid hJ7
                clear hS7 hO7 hJ7 v0 vl z0 zl u0 uf ul
                go_wp2
                go_roundw
                case rel => exact ⟨m + 1, is ++ [((ob.toNat : Int), (a : Int))], q2, .slice A6 (is.length + 1) c6, by omega, by go_num, HN4.out, HS7.out, HO7.out, by rw [List.length_append, List.flatMap_append, show [((ob.toNat : Int), (a : Int))].flatMap insCs = insCs ((ob.toNat : Int), (a : Int)) from List.append_nil _]; exact HJ7.out⟩
                case measure => simp [intOf]; omega
            · obtain rfl : m = n2 := by omega
              obtain ⟨Ai, ci, rfl, -, -⟩ := Own.rd (row_own hJ)
              have hT9 := step_ok HT8.out (HC.out.trans hN)
              have hsz : ∀ w : World, (sizeOf 49).run Tryd.prog w = .ok 11 w := fun w => by kernel_rfl
              have hs5 := hS.rows 0 lo v5 rfl rfl
              have hs6 := hS.rows 1 ce v6 rfl rfl
              have hs7 := hS.rows 2 fr v7 rfl rfl
              have hs8 := hS.rows 3 na v8 rfl rfl
              obtain ⟨A5, k5, rfl, -, -⟩ := Own.rd hs5
              obtain ⟨A6, k6, rfl, -, -⟩ := Own.rd hs6
              obtain ⟨A7, k7, rfl, -, -⟩ := Own.rd hs7
              obtain ⟨A8, k8, rfl, -, -⟩ := Own.rd hs8
              have x0 := hS.blk.cell 0
              have x1 := hS.blk.cell 1
              have x2 := hS.blk.cell 2
              have x3 := hS.blk.cell 3
              have x4 := hS.blk.cell 4
              have x5 := hS.blk.cell 5
              have x6 := hS.blk.cell 6
              have x7 := hS.blk.cell 7
              have x8 := hS.blk.cell 8
              have x9 := hS.blk.cell 9
              have x10 := hS.blk.cell 10
              simp only [List.getElem?_toArray, List.getElem?_cons_zero, List.getElem?_cons_succ] at x0 x1 x2 x3 x4 x5 x6 x7 x8 x9 x10
              have vl := hS.blk.lt
              have HSZ := Lib.hid hsz
              have HT9 := Lib.hid hT9
              have HS := Lib.hid hS
              have HO := Lib.hid hO
              have HJ := Lib.hid hJ
              have H5 := Lib.hid hs5
              have H6 := Lib.hid hs6
              have H7 := Lib.hid hs7
              have H8 := Lib.hid hs8
              clear hsz hN hS hO hJ hil hT9 hs5 hs6 hs7 hs8
              go_wp2_with (with_reducible refine wpList_storeBlk _ rfl 49 (.tmp 2) (.tmp 63) rfl w.heap.size 49 _ #[.string nm, .int .i64 kd, .int .i64 pa, .int .i64 de, .bool gg, .slice A5 lo.length k5, .slice A6 ce.length k6, .slice A7 fr.length k7, .slice A8 na.length k8, .slice A vs.length cc, .slice Ai is.length ci] HS.out.res (HSZ.out _) rfl (by simp [Value.oneCell']) rfl rfl ?_; intro w3 hb3 hm3)
              have c0 := hb3.cell 0
              have c1 := hb3.cell 1
              have c2 := hb3.cell 2
              have c3 := hb3.cell 3
              have c4 := hb3.cell 4
              have c5 := hb3.cell 5
              have c6 := hb3.cell 6
              have c7 := hb3.cell 7
              have c8 := hb3.cell 8
              have c9 := hb3.cell 9
              have c10 := hb3.cell 10
              simp only [List.getElem?_toArray, List.getElem?_cons_zero, List.getElem?_cons_succ] at c0 c1 c2 c3 c4 c5 c6 c7 c8 c9 c10
              have hx3 := HS.out.inb.mod hm3 (by omega)
              have hM3 : Mod (fun i => i = x) w w3 := HS.out.mod.trans hm3 fun i hi e => by omega
              have hkeep : ∀ {t : TypeId} {sz n : Nat} {v : Value} {cs : List Value}, Own wr t sz v n cs → t ≠ 49 → Own w3 t sz v n cs := fun h ht => h.mod hm3 fun b e e' => own_blk_ne h HS.out.res ht (by rw [← e']; exact e)
              refine bodyPost_ret (v := .agg #[.string nm, .int .i64 kd, .int .i64 pa, .int .i64 de, .bool gg, .slice A5 lo.length k5, .slice A6 ce.length k6, .slice A7 fr.length k7, .slice A8 na.length k8, .slice A vs.length cc, .slice Ai is.length ci]) (by simp [results, Tryd.results53, go_sem, c0, c1, c2, c3, c4, c5, c6, c7, c8, c9, c10]) rfl ⟨hM3, ?_⟩
              rw [HT9.out]
              refine ⟨⟨_, rfl, _, _, _, _, _, _, by rw [HG.out], hkeep H5.out (by decide), hkeep H6.out (by decide), hkeep H7.out (by decide), hkeep H8.out (by decide), hkeep (row_own HO.out) (by decide), hkeep (row_own HJ.out) (by decide)⟩, hx3⟩
end Go.Proofs.YtcfelfhjhkenaaaDoor
