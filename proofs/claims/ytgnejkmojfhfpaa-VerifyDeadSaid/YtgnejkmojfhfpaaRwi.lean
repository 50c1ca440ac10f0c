/- The reference's with: blocks as a row. -/
import Derived.Test.YtgnejkmojfhfpaaPrg
import Derived.Laws.MakeOwn
namespace Go.Proofs.Ytgnejkmojfhfpaa
open Go.RowKit
set_option linter.unusedVariables false
set_option linter.unusedSimpArgs false

def blkCs (b : Int × Int) : List Value := [.int .i64 b.1, .int .i64 b.2]
/-- blocks, the inmost first, as a row with the inmost last -/
def BlAt (w : World) (A : Option Addr) (n c : Nat) (bl : List (Int × Int)) : Prop := RdF blkCs 2 w A n c bl.reverse
theorem BlAt.new {w w' : World} {A : Option Addr} {n c : Nat} {bl : List (Int × Int)} (h : BlAt w A n c bl) (hb : Below w.heap.size w w') : BlAt w' A n c bl := RdF.new h hb
theorem BlAt.len {w : World} {A : Option Addr} {n c : Nat} {bl : List (Int × Int)} (h : BlAt w A n c bl) : bl.length = n := by
  have := h.1
  rwa [List.length_reverse] at this
theorem parts_of {P : Program} {t : TypeId} {z : Value} {s b : Nat} (h : (P.info? t).map (fun i => (i.zero, i.size, i.bytes)) = some (some z, s, b)) : ∃ i, P.info? t = some i ∧ i.zero = some z ∧ i.size = s ∧ i.bytes = b := by
  obtain ⟨i, h1, h2⟩ := Option.map_eq_some_iff.1 h
  simp only [Prod.mk.injEq] at h2
  exact ⟨i, h1, h2.1, h2.2.1, h2.2.2⟩
theorem info48 : (Try.prog.info? 48).map (fun i => (i.zero, i.size, i.bytes)) = some (some (.agg #[.int .i64 0, .int .i64 0]), 2, 16) := by kernel_rfl
theorem blks_one (l : List (Int × Int)) : ∀ u ∈ l.flatMap blkCs, u.oneCell' = true := by
  intro u hu
  rw [List.mem_flatMap] at hu
  obtain ⟨x, _, hx⟩ := hu
  simp [blkCs] at hx
  rcases hx with rfl | rfl <;> rfl
theorem wpList_appendB {ops : Array Oper} {rest : List Oper} {o : Oper} {a : Act} {Q : Exit → Act → World → Prop} (w : World) (hgd : o.guard = none) (s x : Operand)
    (ho : o.op = .call { callee := .builtin .append, args := #[s, x], argTypes := #[39, 39] })
    (v : Value) (n : Nat) (xs : List (Int × Int)) (hs : a.eval s = v) (hown : Own w 48 2 v n (xs.flatMap blkCs))
    (A : Option Addr) (m c : Nat) (ys : List (Int × Int)) (hx : a.eval x = .slice A m c) (hr : RdF blkCs 2 w A m c ys)
    (hbytes : (n + m) * 16 ≤ 140737488355328)
    (h : ∀ v' w', Own w' 48 2 v' (n + m) ((xs ++ ys).flatMap blkCs) → w.grownBy w' v.ownBlock → (v'.ownBlock = v.ownBlock ∨ v'.ownBlock = some w.heap.size) → wpList Try.prog ops Q rest (a.put o.dst v') w') : wpList Try.prog ops Q (o :: rest) a w := by
  obtain ⟨i0, hi, hz0, hz1, hz2⟩ := parts_of info48
  refine wpList_append_Own (P := Try.prog) w hgd s x 39 ho 48 i0 _ 2 16 Try.underlying39 hi hz0 hz1 hz2 rfl v n _ hs hown A m c _ hx hr.2 (blks_one _) hbytes (by omega) fun v' w' h1 h2 h3 => ?_
  rw [← List.flatMap_append] at h1
  exact h v' w' h1 h2 h3
theorem one_blk (w : World) (b : Int × Int) : RdF blkCs 2 (w.alloc (.cells #[.int .i64 b.1, .int .i64 b.2] 48)) (some ⟨w.heap.size, 0, none⟩) 1 1 [b] := by
  obtain ⟨A, c, e, hr, _⟩ := Own.rd (Own.made (t := 48) (sz := 2) w #[.int .i64 b.1, .int .i64 b.2] 1 (by omega) rfl)
  injection e with e1 e2 e3
  subst e1 e3
  exact ⟨rfl, hr⟩
/-- blocks, and one more -/
def WithR (w : World) (bl : List (Int × Int)) (e : Ending) (w' : World) : Prop := Below w.heap.size w w' ∧ ∃ A n c, e = .returned (.slice A n c) ∧ BlAt w' A n c bl ∧ ∀ b o, A = some ⟨b, o, none⟩ → w.heap.size ≤ b
set_option maxRecDepth 100000 in
set_option maxHeartbeats 2000000 in
theorem with_any {w : World} {A : Option Addr} {n c : Nat} {bl : List (Int × Int)} (h : BlAt w A n c bl) (hn : n ≤ 1099511627776) (b1 b2 : Int) :
    Calls Try.prog 31 #[.slice A n c, .agg #[.int .i64 b1, .int .i64 b2]] w (WithR w ((b1, b2) :: bl)) := by
  have H := Lib.hid h
  clear h
  have HB0 : Hid (Below w.heap.size w ((w.alloc (.cells #[.int .i64 b1, .int .i64 b2] 48)).alloc (.cells #[] 48))) := Lib.hid (by repeat (first | exact Below.refl _ _ | assumption | refine Below.setCell ?_ (by first | (simp; done) | (simp; omega) | omega) _ | refine below_drewN ?_ _ | refine Below.drew ?_ | refine Below.alloc ?_ (by first | (simp; done) | (simp; omega) | omega) _))
  have HX := Lib.hid ((Blk.new w 48 #[.int .i64 b1, .int .i64 b2]).alloc (.cells #[] 48))
  have HO : Hid (Own ((w.alloc (.cells #[.int .i64 b1, .int .i64 b2] 48)).alloc (.cells #[] 48)) 48 2 (.slice (some ⟨w.heap.size + 1, 0, none⟩) 0 0) 0 (([] : List (Int × Int)).flatMap blkCs)) := Lib.hid (by
    have := Own.made (t := 48) (sz := 2) (w.alloc (.cells #[.int .i64 b1, .int .i64 b2] 48)) #[] 0 (by omega) rfl
    simpa using this)
  have HR : Hid (RdF blkCs 2 ((w.alloc (.cells #[.int .i64 b1, .int .i64 b2] 48)).alloc (.cells #[] 48)) A n c bl.reverse) := Lib.hid (RdF.new H.out HB0.out)
  generalize hW : (w.alloc (.cells #[.int .i64 b1, .int .i64 b2] 48)).alloc (.cells #[] 48) = W at HB0 HX HO HR
  have HWW := Lib.hid hW
  clear hW
  go_enter Try.func31, Try.ntmps31
  go_wp2_with (first
    | (at_builtin; refine wpList_appendB _ rfl (.tmp 7) (.tmp 8) rfl (.slice (some ⟨w.heap.size + 1, 0, none⟩) 0 0) 0 [] rfl (by have h8 := HO.out; rw [← HWW.out] at h8; exact h8) A n c bl.reverse rfl (by have h8 := HR.out; rw [← HWW.out] at h8; exact h8) (by omega) ?_; rw [HWW.out]; intro v1 w1 hv1 hg1 ha1; rw [Nat.zero_add, List.nil_append] at hv1; have HV1 := Lib.hid hv1; have HG1 := Lib.hid hg1; have HA1 := Lib.hid ha1; have HX1 := Lib.hid (HX.out.grown hg1 (by simp [Value.ownBlock])); have hx1 := HX1.out; have x0 := hx1.cell 0; have x1 := hx1.cell 1; have xl := hx1.lt; simp only [List.getElem?_toArray, List.getElem?_cons_zero, List.getElem?_cons_succ] at x0 x1; clear hv1 hg1 ha1 hx1)
    | (at_builtin; refine wpList_appendB _ rfl (.tmp 10) (.tmp 12) rfl v1 n bl.reverse rfl (HV1.out.new (by exact (by repeat (first | exact Below.refl _ _ | assumption | refine Below.setCell ?_ (by first | (simp; done) | (simp; omega) | omega) _ | refine below_drewN ?_ _ | refine Below.drew ?_ | refine Below.alloc ?_ (by first | (simp; done) | (simp; omega) | omega) _)))) (some ⟨w1.heap.size, 0, none⟩) 1 1 [(b1, b2)] rfl (one_blk w1 (b1, b2)) (by omega) ?_; intro v2 w2 hv2 hg2 ha2; have HV2 := Lib.hid hv2; have HG2 := Lib.hid hg2; have HA2 := Lib.hid ha2; clear hv2 hg2 ha2))
  have hsz := HB0.out.size
  have hs1 := HG1.out.size
  have hM : Mod (fun i => w.heap.size ≤ i) w w2 := by
    refine (((Mod.of_below HB0.out (fun i _ h => h)).grown HG1.out (fun k e _ => ?_)).alloc _).grown HG2.out (fun k e _ => ?_)
    · simp only [Value.ownBlock, Option.some.injEq] at e
      omega
    · rcases HA1.out with h | h
      · rw [h] at e
        simp only [Value.ownBlock, Option.some.injEq] at e
        omega
      · rw [h] at e
        simp only [Option.some.injEq] at e
        omega
  have HBE := Lib.hid (hM.below (Nat.le_refl _) (fun i hi h => absurd h (by omega)))
  obtain ⟨A2, c2, rfl, hr2, ho2⟩ := HV2.out.rd
  have HNW : Hid (∀ b o, A2 = some ⟨b, o, none⟩ → w.heap.size ≤ b) := Lib.hid fun b o e => by
    have e2 := ho2 b o e
    rcases HA2.out with h | h
    · rw [h] at e2
      rcases HA1.out with h | h
      · rw [h] at e2
        simp only [Value.ownBlock, Option.some.injEq] at e2
        omega
      · rw [h] at e2
        simp only [Option.some.injEq] at e2
        omega
    · rw [h] at e2
      simp at e2
      omega
  have hlen := H.out.len
  have HBL : Hid (BlAt w2 A2 (n + 1) c2 ((b1, b2) :: bl)) := Lib.hid ⟨by simp [hlen], by rw [List.reverse_cons]; exact hr2⟩
  clear hM hr2 ho2 hlen hsz hs1
  go_ret
  exact ⟨HBE.out, _, _, _, rfl, HBL.out, HNW.out⟩
end Go.Proofs.Ytgnejkmojfhfpaa
