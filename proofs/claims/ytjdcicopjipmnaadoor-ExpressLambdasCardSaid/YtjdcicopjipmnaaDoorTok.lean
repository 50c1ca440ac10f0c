/- tok: the token so many on. -/
import Derived.Test.YtjdcicopjipmnaaDoorLev
import Derived.Deep.RegionHeld3
import Derived.IntWalk
import Derived.Deep.QuietTactic
import Derived.BigQuiet
import Derived.StillTailTactics
namespace Go.Proofs.YtjdcicopjipmnaaDoor
open Go.RowKit
set_option linter.unusedVariables false
set_option linter.unusedSimpArgs false
/-- a parser's cells -/
def pcs (bb : Nat) (lv : Value) (mb : Nat) (s : PS) : Array Value := #[.pointer (some ⟨bb, 0, none⟩), lv, .int .i64 s.at_, .int .i64 s.bad, .int .i64 s.e, .map (some mb)]
def tcs (t : TokD) : List Value := [.int .i64 t.k, .int .i64 t.at_, .string t.s, .int .i64 t.n]
def tokV (t : TokD) : Value := .agg (tcs t).toArray
set_option maxRecDepth 100000 in
set_option maxHeartbeats 1000000 in
theorem tok_bad {w : World} {pb bb mb n c : Nat} {A : Option Addr} {s : PS} (hP : Blk w pb 98 (pcs bb (.slice A n c) mb s)) (he : s.e ≠ 0) (by_ : Nat) :
    Calls Tryd.prog 76 #[.pointer (some ⟨pb, 0, none⟩), .int .i64 by_] w fun e w' => e = .returned (tokV zeroT) ∧ Below w.heap.size w w' := by
  have c4 := hP.cell 4
  have hlt := hP.lt
  have hfz := hP.frozen 4
  simp only [pcs, List.getElem?_toArray, List.getElem?_cons_zero, List.getElem?_cons_succ] at c4
  have he' : (s.e == 0) = false := by simpa using he
  clear hP
  go_enter Tryd.func76, Tryd.ntmps76
  go_wp2_with fail
  go_quiet (fail)
  go_wp2_with fail
  exact bodyPost_ret (v := tokV zeroT) (by simp [results, Tryd.results76, go_sem]; rfl) rfl ⟨rfl, (by repeat (first | exact Below.refl _ _ | assumption | refine Below.setCell ?_ (by first | (simp; done) | (simp; omega) | omega) _ | refine below_drewN ?_ _ | refine Below.drew ?_ | refine Below.alloc ?_ (by first | (simp; done) | (simp; omega) | omega) _))⟩
set_option maxRecDepth 100000 in
set_option maxHeartbeats 1000000 in
theorem tok_out {w : World} {pb bb mb n c : Nat} {A : Option Addr} {s : PS} (hP : Blk w pb 98 (pcs bb (.slice A n c) mb s)) (he : s.e = 0) (by_ : Nat) (hn : n ≤ s.at_ + by_) (hs : s.at_ + by_ ≤ 9223372036854775807) :
    Calls Tryd.prog 76 #[.pointer (some ⟨pb, 0, none⟩), .int .i64 by_] w fun e w' => e = .returned (tokV zeroT) ∧ Below w.heap.size w w' := by
  have c4 := hP.cell 4
  have c1 := hP.cell 1
  have c2 := hP.cell 2
  have hlt := hP.lt
  simp only [pcs, List.getElem?_toArray, List.getElem?_cons_zero, List.getElem?_cons_succ] at c4 c1 c2
  rw [he] at c4
  have hw : IntKind.i64.wrap ((s.at_ : Int) + (by_ : Int)) = (s.at_ : Int) + (by_ : Int) := IntWalk.i64_in _ (by omega)
  have hd : decide ((n : Int) ≤ (s.at_ : Int) + (by_ : Int)) = true := decide_eq_true (by omega)
  clear hP
  go_enter Tryd.func76, Tryd.ntmps76
  go_wp2_with fail
  go_quiet (fail)
  go_wp2_with fail
  exact bodyPost_ret (v := tokV zeroT) (by simp [results, Tryd.results76, go_sem]; rfl) rfl ⟨rfl, (by repeat (first | exact Below.refl _ _ | assumption | refine Below.setCell ?_ (by first | (simp; done) | (simp; omega) | omega) _ | refine below_drewN ?_ _ | refine Below.drew ?_ | refine Below.alloc ?_ (by first | (simp; done) | (simp; omega) | omega) _))⟩
set_option maxRecDepth 100000 in
set_option maxHeartbeats 1000000 in
theorem tok_in {w : World} {pb bb mb n c b o : Nat} {s : PS} {t : TokD} (hP : Blk w pb 98 (pcs bb (.slice (some ⟨b, o, none⟩) n c) mb s)) (he : s.e = 0) (by_ : Nat) (hn : s.at_ + by_ < n) (hs : n ≤ 9223372036854775807) (hb : b < w.heap.size)
    (hc : ∀ j u, (tcs t)[j]? = some u → w.cell? ⟨b, o + (s.at_ + by_) * 4 + j, none⟩ = some u) :
    Calls Tryd.prog 76 #[.pointer (some ⟨pb, 0, none⟩), .int .i64 by_] w fun e w' => e = .returned (tokV t) ∧ Below w.heap.size w w' := by
  have c4 := hP.cell 4
  have c1 := hP.cell 1
  have c2 := hP.cell 2
  have hlt := hP.lt
  simp only [pcs, List.getElem?_toArray, List.getElem?_cons_zero, List.getElem?_cons_succ] at c4 c1 c2
  rw [he] at c4
  have hw : IntKind.i64.wrap ((s.at_ : Int) + (by_ : Int)) = ((s.at_ + by_ : Nat) : Int) := by rw [IntWalk.i64_in _ (by omega)]; omega
  have hd : decide ((n : Int) ≤ ((s.at_ + by_ : Nat) : Int)) = false := decide_eq_false (by omega)
  have z0 := hc 0 _ rfl
  have z1 := hc 1 _ rfl
  have z2 := hc 2 _ rfl
  have z3 := hc 3 _ rfl
  generalize s.at_ + by_ = k at *
  simp only [Nat.add_zero] at z0
  have HP := Lib.hid hP
  have s9 : IntKind.i64.wrap (k : Int) = (k : Int) := IntWalk.i64_in _ (by omega)
  clear hP hc
  go_enter Tryd.func76, Tryd.ntmps76
  go_wp2_with fail
  go_quiet (fail)
  go_wp2_with fail
  generalize hW : World.drewN (w.alloc _) _ = W1
  have hb1 : Below w.heap.size w W1 := by rw [← hW]; exact (by repeat (first | exact Below.refl _ _ | assumption | refine Below.setCell ?_ (by first | (simp; done) | (simp; omega) | omega) _ | refine below_drewN ?_ _ | refine Below.drew ?_ | refine Below.alloc ?_ (by first | (simp; done) | (simp; omega) | omega) _))
  have hx1 : Blk W1 w.heap.size 39 #[.int .i64 0, .int .i64 0, .string ⟨#[]⟩, .int .i64 0] := by
    rw [← hW]
    exact (Blk.new w 39 _).mod (S := fun _ => False) (by repeat (first | exact Mod.refl _ _ | assumption | refine Mod.setCell ?_ (by intro hx__; first | (simp at hx__; done) | (exfalso; revert hx__; simp; done) | assumption | skip) _ | refine Mod.drewN ?_ _ | refine Mod.drew ?_ | refine Mod.alloc ?_ _)) id
  have hm1 : Mod (fun _ => False) w W1 := Mod.new hb1
  have hP1 := HP.out.mod hm1 id
  have c1 := hP1.cell 1
  have c2 := hP1.cell 2
  have hlt1 := hP1.lt
  simp only [pcs, List.getElem?_toArray, List.getElem?_cons_zero, List.getElem?_cons_succ] at c1 c2
  have z0 := (hm1.cell (p := ⟨b, o + k * 4, none⟩) hb id).trans z0
  have z1 := (hm1.cell (p := ⟨b, o + k * 4 + 1, none⟩) hb id).trans z1
  have z2 := (hm1.cell (p := ⟨b, o + k * 4 + 2, none⟩) hb id).trans z2
  have z3 := (hm1.cell (p := ⟨b, o + k * 4 + 3, none⟩) hb id).trans z3
  have HB1 := Lib.hid hb1
  have HX1 := Lib.hid hx1
  have HW := Lib.hid hW
  clear hW hP1 hb1 hx1 hm1
  go_still_tail 12, (by kernel_rfl)
  change wpList _ _ _ _ _ W1.drew
  have hW := HW.out
  clear HX1 HB1 HW z0 z1 z2 z3 c1 c2 hlt1
  subst hW
  go_wp2_with fail
  exact bodyPost_ret (v := tokV t) (by simp [results, Tryd.results76, go_sem]; rfl) rfl ⟨rfl, (by repeat (first | exact Below.refl _ _ | assumption | refine Below.setCell ?_ (by first | (simp; done) | (simp; omega) | omega) _ | refine below_drewN ?_ _ | refine Below.drew ?_ | refine Below.alloc ?_ (by first | (simp; done) | (simp; omega) | omega) _))⟩
end Go.Proofs.YtjdcicopjipmnaaDoor
