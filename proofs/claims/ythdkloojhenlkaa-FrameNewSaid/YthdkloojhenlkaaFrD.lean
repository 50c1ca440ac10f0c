/- Take, Enter and Leave. -/
import Derived.Test.YthdkloojhenlkaaFrC
import Derived.Deep.RegionLaw
namespace Go.Proofs.Ythdkloojhenlkaa
open Go.RowKit
attribute [local go_sem high] guardV eqV neqV
attribute [local go_sem] V.v

def Fr.takeOk (F : Fr) (n : Int) : Bool := decide (0 ≤ n ∧ n ≤ F.values.length)
def Fr.taken (F : Fr) (n : Int) : List V := if F.takeOk n then F.values.drop (F.values.length - n.toNat) else []
def Fr.took (F : Fr) (n : Int) : Fr := if F.takeOk n then { F with values := F.values.take (F.values.length - n.toNat) } else F

set_option maxHeartbeats 400000 in
theorem take_any (g : Nat) (F : Fr) (S : Nat → Prop) (k : Int) (w : World) (hF : IsFr 53 85 w S g F) (hlen : F.values.length ≤ 4398046511104) :
    Calls Try.prog 28 #[.pointer (some ⟨g, 0, none⟩), .int .i64 k] w fun e w' => ∃ v, e = .returned (.tuple #[v, .bool (F.takeOk k)]) ∧ OwnV w' v (F.taken k) ∧ (∀ b, v.ownBlock = some b → w.heap.size ≤ b) ∧
      IsFr 53 85 w' (GrewBut S w w' v) g (F.took k) ∧ Mod S w w' := by
  have Hc := Lib.hid (fun w' (hb : Below w.heap.size w w') (k : Nat) (hk : k ≤ F.values.length) => cut_any g F S k w' (hF.new hb) hk)
  have HF := Lib.hid hF
  obtain ⟨L, B, C, X, K, h, hS, hSl⟩ := hF
  have c8 : w.cell? ⟨g, 8, none⟩ = some X := h.blk.cell 8
  have hlt := h.blk.lt
  obtain ⟨A, n, c, rfl, hr, hA⟩ := h.x.rd
  have hn := hr.le
  have hnc := hr.2.1
  have hcc := hr.2.2.1
  have HSl := Lib.hid hSl
  clear hS hA hSl
  by_cases hk : 0 ≤ k ∧ k ≤ (n : Int)
  · obtain ⟨h0, h1⟩ := hk
    obtain ⟨j, rfl⟩ := Int.eq_ofNat_of_zero_le h0
    have hj : j ≤ n := by omega
    clear h0 h1
    have e1 : F.takeOk (j : Int) = true := by simp only [Fr.takeOk, decide_eq_true_eq]; have := hr.1; omega
    have e2 : F.taken (j : Int) = F.values.drop (n - j) := by simp only [Fr.taken, e1, if_true, hr.1, Int.toNat_natCast]
    have e3 : F.took (j : Int) = { F with values := F.values.take (n - j) } := by simp only [Fr.took, e1, if_true, hr.1, Int.toNat_natCast]
    rw [e1, e2, e3]
    clear e1 e2 e3
    have hkk : n - j ≤ F.values.length := by have := hr.1; omega
    have hn2 : n ≤ 4398046511104 := by have := hr.1; omega
    by_cases hcj : c = n - j
    · obtain rfl : j = 0 := by omega
      obtain rfl : c = n := by omega
      have hr1 : RdV w A 0 0 (F.values.drop c) := ⟨by rw [List.length_drop, hr.1]; omega, by rw [List.drop_eq_nil_of_le (by rw [hr.1]; omega)]; exact Rd.nil_.2 (by omega)⟩
      simp only [Nat.sub_zero] at hkk ⊢
      clear hcj hj
      go_enter Try.func28, Try.ntmps28
      go_wp2_with (first
        | (go_at_call 36; refine (clone_any _ _ _ _ _ hr1 (by omega)).mono ?_; rintro e w1 ⟨v, rfl, hv, hvn, hb⟩; obtain ⟨hcl, hfr⟩ := bcell hb; have HB := Lib.hid hb; have Hv := Lib.hid hv; have Hvn := Lib.hid hvn; clear hb hv hvn)
        | (go_at_call 39; skip; refine (Hc.out _ HB.out _ hkk).mono ?_; rintro e w2 ⟨rfl, hF2, hm2⟩; have hM := Lib.hid hm2; have HF2 := Lib.hid hF2; clear hm2 hF2))
      go_ret2
      have hm3 : Mod S w w2 := (Mod.new HB.out).trans hM.out fun _ _ h => h
      refine ⟨v, rfl, Hv.out.mod hM.out fun b e h => by have := HSl.out b h; have := Hvn.out b e; omega, Hvn.out, ?_, hm3⟩
      refine HF2.out.toBut (fun b e => Own.lt Hv.out e) HSl.out HB.out.size hM.out.size
    · have hr1 : RdV w (A.map (·.add ((n - j) * 3))) (n - (n - j)) (c - (n - j)) (F.values.drop (n - j)) := hr.hi (by omega) (fun _ => rfl)
      go_enter Try.func28, Try.ntmps28
      go_wp2_with (first
        | (go_at_call 36; refine (clone_any _ _ _ _ _ hr1 (by omega)).mono ?_; rintro e w1 ⟨v, rfl, hv, hvn, hb⟩; obtain ⟨hcl, hfr⟩ := bcell hb; have HB := Lib.hid hb; have Hv := Lib.hid hv; have Hvn := Lib.hid hvn; clear hb hv hvn)
        | (go_at_call 39; rw [show ((n : Int) - (j : Int)) = ((n - j : Nat) : Int) from by omega]; refine (Hc.out _ HB.out _ hkk).mono ?_; rintro e w2 ⟨rfl, hF2, hm2⟩; have hM := Lib.hid hm2; have HF2 := Lib.hid hF2; clear hm2 hF2))
      go_ret2
      have hm3 : Mod S w w2 := (Mod.new HB.out).trans hM.out fun _ _ h => h
      refine ⟨v, rfl, Hv.out.mod hM.out fun b e h => by have := HSl.out b h; have := Hvn.out b e; omega, Hvn.out, ?_, hm3⟩
      refine HF2.out.toBut (fun b e => Own.lt Hv.out e) HSl.out HB.out.size hM.out.size
  · have e1 : F.takeOk k = false := by simp only [Fr.takeOk, decide_eq_false_iff_not, hr.1]; exact hk
    have e2 : F.taken k = [] := by simp [Fr.taken, e1]
    have e3 : F.took k = F := by simp [Fr.took, e1]
    rw [e1, e2, e3]
    clear e1 e2 e3
    have fin : ∃ v, Ending.returned (.tuple #[.slice none 0 0, .bool false]) = Ending.returned (.tuple #[v, .bool false]) ∧ OwnV w v [] ∧ (∀ b, v.ownBlock = some b → w.heap.size ≤ b) ∧ IsFr 53 85 w (GrewBut S w w v) g F ∧ Mod S w w :=
      ⟨_, rfl, OwnV.nil_ w, fun b e => (by cases e), HF.out.mono (fun _ h => .inl h) (fun i hi => hi.elim (HSl.out i) fun h => h.2.1), Mod.refl S w⟩
    have Fin := Lib.hid fin
    clear fin
    by_cases hk0 : k < 0
    · go_enter Try.func28, Try.ntmps28
      go_wp2
      go_ret2
      exact Fin.out
    · have hk1 : (n : Int) < k := by omega
      go_enter Try.func28, Try.ntmps28
      go_wp2
      go_ret2
      exact Fin.out

theorem info_K : (Try.prog.info? 85).map (fun i => (i.zero, i.size, i.bytes)) = some (some (.agg #[.int .i64 0, .int .i64 0]), 2, 16) := by kernel_rfl

theorem one_rdK (w : World) (p q : Int) : RdK (w.alloc (.cells #[.int .i64 p, .int .i64 q] 85)) (some ⟨w.heap.size, 0, none⟩) 1 1 [(p, q)] := by
  obtain ⟨A, c, e, hr, _⟩ := Own.rd (Own.made (t := 85) (sz := 2) w #[.int .i64 p, .int .i64 q] 1 (by omega) rfl)
  injection e with e1 e2 e3
  subst e1 e3
  exact ⟨rfl, hr⟩

theorem step_appendK {ops : Array Oper} {o : Oper} {a : Act} {K : Act → World → Prop} {Q : Exit → Act → World → Prop} {E : Prop} (w : World) (hgd : o.guard = none) (s x : Operand)
    (ho : o.op = .call { callee := .builtin .append, args := #[s, x], argTypes := #[51, 51] })
    (v : Value) (xs : List (Int × Int)) (hs : a.eval s = v) (hown : OwnK 85 w v xs)
    (A : Option Addr) (m c : Nat) (ys : List (Int × Int)) (hx : a.eval x = .slice A m c) (hr : RdK w A m c ys) (hbound : xs.length + m ≤ 4398046511105)
    (h : ∀ v' w', OwnK 85 w' v' (xs ++ ys) → w.grownBy w' v.ownBlock → (v'.ownBlock = v.ownBlock ∨ v'.ownBlock = some w.heap.size) → K (a.put o.dst v') w') :
    if Region.wanted o (yielded ops a.tmps) = true then Oper.wp Try.prog o a w K Q else E := by
  obtain ⟨i0, hi, hz0, hz1, hz2⟩ := info_parts info_K
  refine step_append_Own w hgd s x _ ho _ i0 _ 2 16 Try.underlying51 hi hz0 hz1 hz2 rfl v xs.length (kcs xs) hs hown A m c (kcs ys) hx hr.2 (kcs_oneCell ys) (by omega) (by omega) (fun v' w' h1 h2 h3 => h v' w' ?_ h2 h3)
  unfold OwnK
  rw [List.length_append, kcs_append, hr.1]
  exact h1

set_option maxHeartbeats 400000 in
theorem enter_any (g : Nat) (F : Fr) (S : Nat → Prop) (p : Int) (w : World) (hF : IsFr 53 85 w S g F) (hlen : F.blocks.length ≤ 4398046511104) :
    Calls Try.prog 21 #[.pointer (some ⟨g, 0, none⟩), .int .i64 p] w fun e w' => e = .returned (.tuple #[]) ∧
      IsFr 53 85 w' (Grew S w w') g { F with blocks := F.blocks ++ [(p, (F.values.length : Int))] } ∧ Mod S w w' := by
  obtain ⟨L, B, C, X, K, h, hS, hSl⟩ := hF
  have c8 : w.cell? ⟨g, 8, none⟩ = some X := h.blk.cell 8
  have c9 : w.cell? ⟨g, 9, none⟩ = some K := h.blk.cell 9
  have hlt := h.blk.lt
  obtain ⟨A, n, c, rfl, hr, hA⟩ := h.x.rd
  obtain ⟨A', n', c', rfl, hr', hA'⟩ := h.k.rd
  have hn := hr.le
  have HS := Lib.hid hS
  have HSl := Lib.hid hSl
  clear hS hA hSl hA'
  rw [hr.1]
  have hb0 : Below w.heap.size w ((w.alloc (.cells #[.int .i64 p, .int .i64 n] 85)).drew) := (by repeat (first | exact Below.refl _ _ | assumption | refine Below.setCell ?_ (by first | (simp; done) | (simp; omega) | omega) _ | refine below_drewN ?_ _ | refine Below.drew ?_ | refine Below.alloc ?_ (by first | (simp; done) | (simp; omega) | omega) _))
  have hk1 : RdK ((w.alloc (.cells #[.int .i64 p, .int .i64 n] 85)).drew) (some ⟨w.heap.size, 0, none⟩) 1 1 [(p, (n : Int))] := one_rdK w p n
  have hk0 : OwnK 85 ((w.alloc (.cells #[.int .i64 p, .int .i64 n] 85)).drew) (.slice A' n' c') F.blocks := Own.new h.k hb0
  have h0 : FrAt 53 85 ((w.alloc (.cells #[.int .i64 p, .int .i64 n] 85)).drew) g F L B C (.slice A n c) (.slice A' n' c') := h.keep fun i hi => hb0.block i (h.lt hi)
  have hgk : (Value.slice A' n' c').ownBlock ≠ some g := own_blk_ne h.k h.blk (by decide)
  have H0 := Lib.hid h0
  have HB := Lib.hid hb0
  have HG := Lib.hid hgk
  clear h0 hb0 hgk
  go_enter Try.func21, Try.ntmps21
  go_region_law (refine step_appendK _ rfl _ _ rfl (.slice A' n' c') F.blocks rfl hk0 (some ⟨w.heap.size, 0, none⟩) 1 1 [(p, (n : Int))] rfl hk1 (by omega) ?_; intro K' w1 hK' hg hb; obtain ⟨A2, n2, c2, rfl, _⟩ := OwnK.rd hK'; have c9' : w1.cell? ⟨g, 9, none⟩ = some (.slice A' n' c') := ((H0.out.blk.grown hg (Ne.symm HG.out)).cell 9); have f9' : w1.frozen? ⟨g, 9, none⟩ = false := ((H0.out.blk.grown hg (Ne.symm HG.out)).frozen 9); have HK' := Lib.hid hK'; have Hg := Lib.hid hg; have Hb := Lib.hid hb; clear hK' hg hb)
  all_goals
    go_end0
    have hm : Mod S w w1 := (Mod.new HB.out).grown Hg.out fun k e _ => HS.out k (.inr (.inr (.inr (.inr (.inr e)))))
    refine ⟨rfl, IsFr.of (set_blocks (by decide) (by decide) (by decide) (by decide) (by decide) H0.out HK'.out Hg.out Hb.out) (by simpa [World.setCell] using hm.size) HSl.out (foot_k2 HS.out fun i e => ?_), hm.setCell (fun _ => HS.out g (.inl rfl)) _⟩
    rcases Hb.out with e' | e' <;> rw [e'] at e
    · exact .inl e
    · exact .inr (by simp at e; omega)

set_option maxHeartbeats 400000 in
theorem leave_any (g : Nat) (F : Fr) (S : Nat → Prop) (w : World) (hF : IsFr 53 85 w S g F) :
    Calls Try.prog 22 #[.pointer (some ⟨g, 0, none⟩)] w fun e w' => e = .returned (.bool (!F.blocks.isEmpty)) ∧
      IsFr 53 85 w' (Grew S w w') g { F with blocks := F.blocks.dropLast } ∧ Mod S w w' := by
  have HF := Lib.hid hF
  obtain ⟨L, B, C, X, K, h, hS, hSl⟩ := hF
  have c9 : w.cell? ⟨g, 9, none⟩ = some K := h.blk.cell 9
  have f9 : w.frozen? ⟨g, 9, none⟩ = false := h.blk.frozen 9
  have hlt := h.blk.lt
  obtain ⟨A', n', c', rfl, hr', hA'⟩ := h.k.rd
  have hn := hr'.2.1
  have hn2 := hr'.2.2.1
  have HS := Lib.hid hS
  have HSl := Lib.hid hSl
  clear hS hSl hA'
  by_cases h0 : n' = 0
  · subst h0
    have e1 : F.blocks = [] := List.eq_nil_of_length_eq_zero hr'.1
    have e2 : (!F.blocks.isEmpty) = false := by rw [e1]; rfl
    have e3 : F.blocks.dropLast = F.blocks := by rw [e1]; rfl
    rw [e2, e3]
    clear e1 e2 e3
    go_enter Try.func22, Try.ntmps22
    go_wp2
    go_ret
    exact ⟨rfl, HF.out.grew (Nat.le_refl _), Mod.refl _ _⟩
  · have e2 : (!F.blocks.isEmpty) = true := by
      have := hr'.1
      cases hb : F.blocks with
      | nil => rw [hb] at this; simp at this; omega
      | cons => rfl
    have e3 : F.blocks.dropLast = F.blocks.take (n' - 1) := by rw [List.dropLast_eq_take, hr'.1]
    rw [e2, e3]
    clear e2 e3
    have hp : 1 ≤ n' := by omega
    go_enter Try.func22, Try.ntmps22
    go_wp2
    go_ret
    refine ⟨rfl, IsFr.of (set_blocks (by decide) (by decide) (by decide) (by decide) (by decide) h (h.k.cut hr'.1 (by omega)) (World.grownBy.refl w _) (.inl ?_)) (by simp [World.setCell]) HSl.out (foot_k HS.out (.inl ?_)), ?_⟩
    · cases A' <;> rfl
    · cases A' <;> rfl
    · exact (Mod.refl S w).setCell (fun _ => HS.out g (.inl rfl)) _
end Go.Proofs.Ythdkloojhenlkaa
