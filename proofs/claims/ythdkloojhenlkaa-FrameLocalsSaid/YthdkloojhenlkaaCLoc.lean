/- FrameLocals holds: for every byte, number and two values the statement answers true, and leaves all that there was as it was. No condition. -/
import Derived.Test.YthdkloojhenlkaaLLoc
import Derived.Test.YthdkloojhenlkaaOpen
import Derived.Test.YthdkloojhenlkaaRows
namespace Go.Proofs.Ythdkloojhenlkaa
open Go.ChangeShapes Go.WideShapes Go.ChangeAt Go.RowKit Go.WideElems Go.Deep

def mkF (l : List V) (b : List Bool) : Fr := ⟨0, 0, l, b, [], V.zero, [], [], 0, V.zero, -1⟩
theorem empty_is : Fr.empty = mkF [numV 7, V.zero, V.zero] [true, false, false] := rfl

set_option maxHeartbeats 1000000 in
theorem locals_all (iv : Nat) (h : iv < 256) (n : Int) (x y : V) (w : World) :
    Calls Try.prog 8 #[.int .u8 iv, .int .i64 n, .agg #[.int .i64 x.k, .int .i64 x.n, .string x.s, .int .i64 y.k, .int .i64 y.n, .string y.s]] w fun e w' => e = .returned (.bool true) ∧ Below w.heap.size w w' := by
  have h3 : iv % 3 = 0 ∨ iv % 3 = 1 ∨ iv % 3 = 2 := by omega
  rcases h3 with h0 | h0 | h0
  · refine locals_walk iv 0 h h0 n x y (numV 7) true rfl (by rw [empty_is]; rfl) (fun _ => rfl) (by rw [empty_is]; rfl) (mkF [x, V.zero, V.zero] [true, false, false]) (mkF [y, V.zero, V.zero] [true, false, false]) (mkF [V.zero, V.zero, V.zero] [false, false, false]) (mkF [x, V.zero, V.zero] [true, false, false]) (by rw [empty_is]; rfl) (by rw [empty_is]; rfl) rfl rfl rfl rfl rfl rfl rfl rfl rfl rfl rfl rfl rfl rfl ?_ ?_ rfl w
    · intro j hj hk
      obtain rfl | rfl : j = 1 ∨ j = 2 := by omega
      · exact ⟨rfl, fun h => by omega⟩
      · exact ⟨rfl, fun h => by omega⟩
    · intro hn
      have e : ∀ F : Fr, F.locals.length = 3 → F.has n = false := fun F hF => by
        simp only [Fr.has, decide_eq_false_iff_not, hF]
        omega
      exact ⟨e _ rfl, by rw [Fr.isBound, e _ rfl]; rfl⟩
  · refine locals_walk iv 1 h h0 n x y V.zero false rfl (by rw [empty_is]; rfl) (fun h => by cases h) (by rw [empty_is]; rfl) (mkF [numV 7, x, V.zero] [true, true, false]) (mkF [numV 7, y, V.zero] [true, true, false]) (mkF [numV 7, V.zero, V.zero] [true, false, false]) (mkF [numV 7, x, V.zero] [true, true, false]) (by rw [empty_is]; rfl) (by rw [empty_is]; rfl) rfl rfl rfl rfl rfl rfl rfl rfl rfl rfl rfl rfl rfl rfl ?_ ?_ rfl w
    · intro j hj hk
      obtain rfl | rfl : j = 0 ∨ j = 2 := by omega
      · exact ⟨rfl, fun _ => rfl⟩
      · exact ⟨rfl, fun h => by omega⟩
    · intro hn
      have e : ∀ F : Fr, F.locals.length = 3 → F.has n = false := fun F hF => by
        simp only [Fr.has, decide_eq_false_iff_not, hF]
        omega
      exact ⟨e _ rfl, by rw [Fr.isBound, e _ rfl]; rfl⟩
  · refine locals_walk iv 2 h h0 n x y V.zero false rfl (by rw [empty_is]; rfl) (fun h => by cases h) (by rw [empty_is]; rfl) (mkF [numV 7, V.zero, x] [true, false, true]) (mkF [numV 7, V.zero, y] [true, false, true]) (mkF [numV 7, V.zero, V.zero] [true, false, false]) (mkF [numV 7, V.zero, x] [true, false, true]) (by rw [empty_is]; rfl) (by rw [empty_is]; rfl) rfl rfl rfl rfl rfl rfl rfl rfl rfl rfl rfl rfl rfl rfl ?_ ?_ rfl w
    · intro j hj hk
      obtain rfl | rfl : j = 0 ∨ j = 1 := by omega
      · exact ⟨rfl, fun _ => rfl⟩
      · exact ⟨rfl, fun h => by omega⟩
    · intro hn
      have e : ∀ F : Fr, F.locals.length = 3 → F.has n = false := fun F hF => by
        simp only [Fr.has, decide_eq_false_iff_not, hF]
        omega
      exact ⟨e _ rfl, by rw [Fr.isBound, e _ rfl]; rfl⟩

theorem cells68 : Try.prog.cellsOf 68 = 6 := by kernel_rfl
theorem open_V2 {H : Type} {enc : TypeId × Value → H} {w : World} {base : Nat} {spare : Nat → Bool} {held : Bool} {r : Reach} {b0 : Nat} {v : Value} {d : DataW H} {p : List MemPlace}
    (hv : Value.okWide Try.prog w r b0 68 v) (h : DataW.Trod enc Try.prog w base spare held 68 v d p) : ∃ x y : V, v = .agg #[.int .i64 x.k, .int .i64 x.n, .string x.s, .int .i64 y.k, .int .i64 y.n, .string y.s] := by
  simp only [Value.okWide, Try.underlying68] at hv
  obtain ⟨cs, rfl, hs, _⟩ := hv
  obtain ⟨fuel, h⟩ := h
  obtain ⟨xs, m, _, _, _, hl, hi⟩ := DataW.trod_array Try.underlying68 h
  obtain ⟨l⟩ := cs
  have h0 := hi 0 (by omega)
  have h1 := hi 1 (by omega)
  rw [cellsV] at h0 h1
  match xs, hl with
  | [y0, y1], _ =>
    match l, hs.trans cells68 with
    | [c0, c1, c2, c3, c4, c5], _ =>
      obtain ⟨x, e0⟩ := trod_V h0
      obtain ⟨y, e1⟩ := trod_V h1
      simp [Value.cells, V.cs] at e0 e1
      exact ⟨x, y, by simp [e0, e1]⟩

set_option maxRecDepth 100000 in
theorem locals_lifted (os : Os) (started : os.Started) (H : Type) (enc : TypeId × Value → H) :
    ReturnsInHanded {} Try.checked os 8 .any (Rows.frameLocalsSpec.pre6 enc Try.prog Try.f8 Rows.frameLocalsRow.domain false) (Rows.frameLocalsSpec.post enc Try.prog Try.f8 false true false false) := by
  refine returnsInHanded_of_change (C := Try.checked) Try.own started (by kernel_rfl) Try.func8
    (ChangeSpec.witness6 (enc := enc) (C := Try.checked) false ⟨#[], #[.int .u8 0, .int .i64 0, .agg #[.int .i64 0, .int .i64 0, .string ⟨#[]⟩, .int .i64 0, .int .i64 0, .string ⟨#[]⟩]], []⟩ 8 (by kernel_rfl) (by kernel_rfl) (by kernel_rfl) (by kernel_rfl)) ?_
  intro W base args ds gs before hval0 hW hcnd _
  have hval : ∀ (j : Nat) t v, Try.f8.params[j]? = some t → args[j]? = some v → Value.okWide Try.prog W .any base t v := hval0
  have hW' := hW
  obtain ⟨p, q, hA0, hV, rfl, hfz, hnd⟩ := hW
  have hA : DataW.TrodAll enc Try.prog W 0 (fun _ => true) true Try.f8.params.toList args.toList ds p := hA0
  rw [Try.params8] at hA hval
  obtain ⟨v0, v1, v2, d0, d1, d2, p0, p1, p2, rfl, rfl, rfl, h0, h1, h2⟩ := trodAll_three hA
  obtain ⟨a0, rfl, rfl, rfl, w0⟩ := open_int Try.underlying5 (hval 0 5 v0 rfl rfl) h0
  obtain ⟨a1, rfl, rfl, rfl, w1⟩ := open_int Try.underlying3 (hval 1 3 v1 rfl rfl) h1
  obtain ⟨x, y, rfl⟩ := open_V2 (hval 2 68 v2 rfl rfl) h2
  have hb0 : 0 ≤ a0 ∧ a0 ≤ 255 := by
    simp [Lit.wf, IntKind.min, IntKind.max, IntKind.signed, IntKind.bits] at w0
    omega
  obtain ⟨iv, rfl⟩ := Int.eq_ofNat_of_zero_le hb0.1
  refine (locals_all iv (by omega) a1 x y W).mono fun e W' ⟨he, hb⟩ => ?_
  subst he
  exact ⟨_, rfl, law_post Try.laidOut (by rw [Try.params8]; decide +kernel) (by kernel_rfl) Try.underlying4 rfl (by
    intro l hl
    rw [Try.params8] at hl
    match l, hl with
    | [d1, d2, d3], _ => rfl) hW' hb⟩

theorem frameLocals_holds : Rows.FrameLocalsSaid :=
  OpenClaim.holds_of_wide 8 Try.f8 rfl rfl rfl rfl rfl rfl rfl ⟨rfl, rfl, rfl, rfl, rfl⟩ rfl rfl rfl rfl rfl (by kernel_rfl) Try.func8 (by kernel_rfl)
    (of_decide_eq_true (by kernel_rfl)) (by unfold Func.isWrapper; first | (rw [if_pos (by decide +kernel)]; kernel_rfl) | (rw [if_neg (by decide +kernel)]; exact ⟨rfl, rfl⟩))
    (fun os started H enc _ => locals_lifted os started H enc)
#print axioms frameLocals_holds
end Go.Proofs.Ythdkloojhenlkaa
