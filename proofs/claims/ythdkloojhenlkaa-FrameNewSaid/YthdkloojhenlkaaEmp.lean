/- empty and shown: the statements' own frame, and the document's example. -/
import Derived.Test.YthdkloojhenlkaaNewB
namespace Go.Proofs.Ythdkloojhenlkaa
open Go.RowKit
attribute [local go_sem high] guardV eqV neqV
attribute [local go_sem] V.v

def numV (n : Int) : V := ⟨2, n, ⟨#[]⟩⟩
def names3 : List ByteArray := [⟨#[97]⟩, ⟨#[98]⟩, ⟨#[99]⟩]
def Fr.empty : Fr := Fr.new 0 names3 [] [numV 7] []

theorem blk_rdS {w : World} {b n : Nat} {xs : List ByteArray} (h : Blk w b 9 (scs xs).toArray) (hn : xs.length = n) (hs : n ≤ 1000000) : RdS w (some ⟨b, 0, none⟩) n n xs :=
  ⟨hn, Nat.le_refl _, by omega, by rw [scs_length, hn], fun _ => ⟨b, 0, rfl, h.lt, fun j u hu => by rw [Nat.zero_add, h.cell j]; simpa using hu⟩⟩
theorem nil_rdS (w : World) : RdS w none 0 0 [] := ⟨rfl, Rd.nil_.2 (by omega)⟩
theorem nil_rdV (w : World) : RdV w none 0 0 [] := ⟨rfl, Rd.nil_.2 (by omega)⟩
theorem blk_code {w : World} {b : Nat} {s0 : ByteArray} {k1 k3 p : Int} {b4 : Bool} {AL AC AF A8 A9 A10 : Option Addr} {nL cL nC cC nf cF n8 c8 n9 c9 n10 c10 : Nat} {L C : List ByteArray}
    (h : Blk w b 31 #[.string s0, .int .i64 k1, .int .i64 p, .int .i64 k3, .bool b4, .slice AL nL cL, .slice AC nC cC, .slice AF nf cF, .slice A8 n8 c8, .slice A9 n9 c9, .slice A10 n10 c10])
    (hL : RdS w AL nL cL L) (hC : RdS w AC nC cC C) : CodeAt w (some ⟨b, 0, none⟩) 0 p L C nf :=
  ⟨b, 0, s0, k1, k3, b4, AL, nL, cL, AC, nC, cC, AF, cF, A8, n8, c8, A9, n9, c9, A10, n10, c10, rfl, h.lt, h.cell 0, h.cell 1, h.cell 2, h.cell 3, h.cell 4, h.cell 5, h.cell 6, h.cell 7, h.cell 8, h.cell 9, h.cell 10, hL, hC⟩

set_option maxRecDepth 100000 in
set_option maxHeartbeats 1000000 in
theorem empty_any (w : World) : Calls Try.prog 19 #[] w fun e w' => ∃ g, e = .returned (.pointer (some ⟨g, 0, none⟩)) ∧ IsFr 53 85 w' (Grew (fun _ => False) w w') g Fr.empty ∧ Below w.heap.size w w' := by
  go_enter Try.func19, Try.ntmps19
  go_wp2_with fail
  refine (num_any 7 _).mono ?_
  rintro e w1 ⟨rfl, hb⟩
  have HB := Lib.hid hb
  clear hb
  go_wp2_with fail
  have hb2 : Below w1.heap.size w1 (w1.alloc (Obj.cells #[Value.int IntKind.i64 2, Value.int IntKind.i64 7, Value.string { data := #[] }] 44)) := (by repeat (first | exact Below.refl _ _ | assumption | refine Below.setCell ?_ (by first | (simp; done) | (simp; omega) | omega) _ | refine below_drewN ?_ _ | refine Below.drew ?_ | refine Below.alloc ?_ (by first | (simp; done) | (simp; omega) | omega) _))
  have hs1 := HB.out.size
  simp at hs1
  have hn : Blk (w1.alloc (Obj.cells #[Value.int IntKind.i64 2, Value.int IntKind.i64 7, Value.string { data := #[] }] 44)) w.heap.size 9 (scs names3).toArray := (((Blk.new w 9 _).alloc _).below HB.out (by simp; omega)).alloc _
  have hp := ((Blk.newAt (w := w.alloc (Obj.cells #[Value.string { data := #[97] }, Value.string { data := #[98] }, Value.string { data := #[99] }] 9)) (t := 31) (g := w.heap.size + 1) (cs := #[Value.string { data := #[] }, Value.int IntKind.i64 0, Value.int IntKind.i64 1, Value.int IntKind.i64 0,
          Value.bool false, Value.slice (some { block := w.heap.size, off := 0 }) 3 3, Value.slice none 0 0, Value.slice none 0 0, Value.slice none 0 0, Value.slice none 0 0, Value.slice none 0 0]) (by simp)).below HB.out (by simp)).alloc (Obj.cells #[Value.int IntKind.i64 2, Value.int IntKind.i64 7, Value.string { data := #[] }] 44)
  refine (new_yes _ 1 1 0 names3 [] 0 _ 1 1 [numV 7] _ 0 0 [] _ (by omega) (by omega) (blk_code hp (blk_rdS hn rfl (by omega)) (nil_rdS _)) (one_rdV w1 (numV 7)) (nil_rdV _) (by decide) rfl (by decide) (by decide)).mono ?_
  rintro e w2 ⟨g, rfl, hF, hb3⟩
  have HF := Lib.hid hF
  have HB3 := Lib.hid hb3
  clear hF hb3 hn hp
  go_wp2
  go_ret
  have hall : Below w.heap.size w w2 := (Below.trans (by exact (by repeat (first | exact Below.refl _ _ | assumption | refine Below.setCell ?_ (by first | (simp; done) | (simp; omega) | omega) _ | refine below_drewN ?_ _ | refine Below.drew ?_ | refine Below.alloc ?_ (by first | (simp; done) | (simp; omega) | omega) _))) (HB.out.mono (by simp; omega))).trans ((hb2.mono (by omega)).trans (HB3.out.mono (by simp; omega)))
  refine ⟨g, rfl, HF.out.mono (fun i hi => hi.elim (fun h => h.elim) fun h => .inr ⟨by have := h.1; simp at this; omega, h.2⟩) (fun i hi => hi.elim (fun h => h.elim) fun h => h.2), hall⟩
end Go.Proofs.Ythdkloojhenlkaa
