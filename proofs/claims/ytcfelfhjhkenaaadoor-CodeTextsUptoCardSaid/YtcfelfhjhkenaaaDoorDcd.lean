/- Decode. -/
import Derived.Test.YtcfelfhjhkenaaaDoorPri
namespace Go.Proofs.YtcfelfhjhkenaaaDoor
open Go.RowKit
attribute [local go_sem] Oper.semAt_some

theorem CodesV.far {w : World} {g t' : Nat} {bs : Array Value} {p : List CodeD} {css : List (List Value)} (h : CodesV w p css) (hB : Blk w g t' bs) (ht : t' = 24) (i : Nat) (u : Value) : CodesV (w.setCell ⟨g, i, none⟩ u) p css := by
  subst ht
  refine ⟨h.1, fun j c cs h1 h2 => ?_⟩
  obtain ⟨v5, v6, v7, v8, v9, v10, e, h5, h6, h7, h8, h9, h10⟩ := h.2 j c cs h1 h2
  exact ⟨v5, v6, v7, v8, v9, v10, e, own_far h5 hB (by decide) i u, own_far h6 hB (by decide) i u, own_far h7 hB (by decide) i u, own_far h8 hB (by decide) i u, own_far h9 hB (by decide) i u, own_far h10 hB (by decide) i u⟩
/-- what Decode gives -/
def Decoded (w : World) (r : Except Int (List CodeD)) (e : Ending) (w' : World) : Prop :=
  Below w.heap.size w w' ∧ match r with
  | .ok p => ∃ A n c, e = .returned (.tuple #[.slice A n c, .int .i64 0]) ∧ ProgAt w' A n c p
  | .error x => e = .returned (.tuple #[.slice none 0 0, .int .i64 x])
set_option maxRecDepth 100000 in
set_option maxHeartbeats 1000000 in
theorem decode_any (w : World) (s : ByteArray) : Calls Tryd.prog 22 #[.string s] w (Decoded w (decE s.data.toList)) := by
  have hb0 : Below w.heap.size w ((w.alloc (.cells #[.int .i64 0] 24)).alloc (.cells #[.string s] 70)) := (by repeat (first | exact Below.refl _ _ | assumption | refine Below.setCell ?_ (by first | (simp; done) | (simp; omega) | omega) _ | refine below_drewN ?_ _ | refine Below.drew ?_ | refine Below.alloc ?_ (by first | (simp; done) | (simp; omega) | omega) _))
  have h1 := Blk.new w 24 #[.int .i64 0]
  have h2 : Blk ((w.alloc (.cells #[.int .i64 0] 24)).alloc (.cells #[.string s] 70)) (w.heap.size + 1) 70 #[.string (bstr s.data.toList)] := by
    rw [bstr_data]
    have := Blk.new (w.alloc (.cells #[.int .i64 0] 24)) 70 #[.string s]
    rwa [show (w.alloc (.cells #[.int .i64 0] 24)).heap.size = w.heap.size + 1 by simp] at this
  have HB0 := Lib.hid hb0
  have HR0 := Lib.hid (h1.new' (show Below (w.alloc (.cells #[.int .i64 0] 24)).heap.size (w.alloc (.cells #[.int .i64 0] 24)) ((w.alloc (.cells #[.int .i64 0] 24)).alloc (.cells #[.string s] 70)) from (by repeat (first | exact Below.refl _ _ | assumption | refine Below.setCell ?_ (by first | (simp; done) | (simp; omega) | omega) _ | refine below_drewN ?_ _ | refine Below.drew ?_ | refine Below.alloc ?_ (by first | (simp; done) | (simp; omega) | omega) _))))
  have HX0 := Lib.hid h2
  clear hb0 h1 h2
  go_enter_defers Tryd.func22, Tryd.ntmps22
  go_wp2_with fail
  generalize (w.alloc (.cells #[.int .i64 0] 24)).alloc (.cells #[.string s] 70) = W1 at *
  have hxg : w.heap.size < w.heap.size + 1 := by omega
  generalize w.heap.size + 1 = x at *
  have hx1 := HX0.out.lt
  have hr1 := HR0.out.lt
  have hxr : w.heap.size ≠ x := Blk.ne_ HR0.out HX0.out (by decide)
  refine (program_in HX0.out).mono ?_
  rintro e w1 ⟨hm, hr⟩
  have hB1 := HR0.out.mod hm hxr
  have hbX : Below w.heap.size w w1 := HB0.out.trans (hm.below (B := w.heap.size) (by have := HB0.out.size; omega) fun i hi e => by omega)
  cases hd : decE s.data.toList with
  | error y =>
    rw [hd] at hr
    obtain rfl := hr
    have HE := Lib.hid hd
    clear hd
    have c0 := hB1.cell 0
    have c1 := hB1.frozen 0
    have c2 := hB1.lt
    simp only [List.getElem?_toArray, List.getElem?_cons_zero] at c0
    have hb2 : Below w.heap.size w (w1.setCell ⟨w.heap.size, 0, none⟩ (.int .i64 y)) := hbX.setCell (Nat.le_refl _) _
    refine leaves_cons (f := 23) (args := #[.pointer (some ⟨w.heap.size, 0, none⟩)]) (by simp) (by simp [go_sem]) ?_
    refine (caught_panics ⟨w.heap.size, 0, none⟩ 0 y _ c0 c1).mono ?_
    rintro e u' w'' ⟨rfl, rfl, rfl⟩
    have c3 : (w1.setCell ⟨w.heap.size, 0, none⟩ (.int .i64 y)).cell? ⟨w.heap.size, 0, none⟩ = some (.int .i64 y) := (hB1.set_ 0 (.int .i64 y)).cell 0
    simp [Leaves, settle, results, Tryd.results22, go_sem, c3]
    exact ⟨hb2, rfl⟩
  | ok p =>
    rw [hd] at hr
    obtain ⟨css, v, rfl, hcs, ho⟩ := hr
    have ho' := own_far ho hB1 (by decide) 0 (.int .i64 0)
    obtain ⟨A, c, rfl, hp⟩ := codes_prog (hcs.far hB1 (by decide) 0 (.int .i64 0)) ho'
    have c0 := hB1.cell 0
    have c1 := hB1.frozen 0
    have c2 := hB1.lt
    simp only [List.getElem?_toArray, List.getElem?_cons_zero] at c0
    have hb2 : Below w.heap.size w (w1.setCell ⟨w.heap.size, 0, none⟩ (.int .i64 0)) := hbX.setCell (Nat.le_refl _) _
    have c3 : (w1.setCell ⟨w.heap.size, 0, none⟩ (.int .i64 0)).cell? ⟨w.heap.size, 0, none⟩ = some (.int .i64 0) := (hB1.set_ 0 (.int .i64 0)).cell 0
    have HE := Lib.hid hd
    have HP := Lib.hid hp
    have HQ := Lib.hid hb2
    have HC := Lib.hid c3
    clear hd hp hb2 hB1 hm c3 hcs ho ho'
    go_wp2_with fail
    refine leaves_cons (f := 23) (args := #[.pointer (some ⟨w.heap.size, 0, none⟩)]) (by simp) (by simp [go_sem]) ?_
    refine (caught_idle ⟨w.heap.size, 0, none⟩ _).mono ?_
    rintro e u' w'' ⟨rfl, rfl, rfl⟩
    have c3 := HC.out
    simp [Leaves, settle, results, Tryd.results22, go_sem, c3]
    refine ⟨HQ.out, ?_⟩
    rw [HE.out]
    exact ⟨A, _, c, rfl, HP.out⟩
end Go.Proofs.YtcfelfhjhkenaaaDoor
