/- The reference's SameCode. -/
import Derived.Test.YtcfelfhjhkenaaaDoorSmc
import Derived.Test.YtcfelfhjhkenaaaDoorSna
import Derived.Test.YtcfelfhjhkenaaaDoorSnb
import Derived.Test.YtcfelfhjhkenaaaDoorSnc
import Derived.Test.YtcfelfhjhkenaaaDoorSnd
import Derived.Test.YtcfelfhjhkenaaaDoorSne
import Derived.Test.YtcfelfhjhkenaaaDoorSnf
namespace Go.Proofs.YtcfelfhjhkenaaaDoor
open Go.RowKit
set_option linter.unusedVariables false
set_option linter.unusedSimpArgs false

theorem alloc2 (w : World) (a b : Obj) : Below w.heap.size w ((w.alloc a).alloc b) := (by repeat (first | exact Below.refl _ _ | assumption | refine Below.setCell ?_ (by first | (simp; done) | (simp; omega) | omega) _ | refine below_drewN ?_ _ | refine Below.drew ?_ | refine Below.alloc ?_ (by first | (simp; done) | (simp; omega) | omega) _))
theorem says_no {w : World} {P : Prop} (h : ¬ P) (e : Ending) (w' : World) (hh : e = .returned (.bool false) ∧ Below w.heap.size w w') : SaysC w P e w' := by
  obtain ⟨rfl, hb⟩ := hh
  exact saysC_no h hb
theorem sameCode_any {w : World} {x y : CodeD} {xs ys : List Value} (hx : CodeAt w x xs) (hy : CodeAt w y ys) :
    Calls Tryd.prog 27 #[.agg xs.toArray, .agg ys.toArray] w (SaysC w (x = y)) := by
  obtain ⟨A1, n1, c1, A2, n2, c2, A3, n3, c3, A4, n4, c4, A5, n5, c5, A6, n6, c6, rfl, h1, h2, h3, h4, h5, h6⟩ := hx.parts
  obtain ⟨B1, m1, d1, B2, m2, d2, B3, m3, d3, B4, m4, d4, B5, m5, d5, B6, m6, d6, rfl, g1, g2, g3, g4, g5, g6⟩ := hy.parts
  clear hx hy
  obtain ⟨nm, kd, pa, de, ge, lo, ce, fr, na, co, is⟩ := x
  obtain ⟨nm', kd', pa', de', ge', lo', ce', fr', na', co', is'⟩ := y
  simp only at h1 h2 h3 h4 h5 h6 g1 g2 g3 g4 g5 g6 ⊢
  rcases Classical.em (nm = nm') with hne | hne
  rotate_left
  · exact (same_no0 nm kd pa de ge lo ce fr na nm' kd' pa' de' ge' lo' ce' fr' na' (alloc2 _ _ _)  hne).mono (says_no fun h => hne (congrArg CodeD.name h))
  subst hne
  rcases Classical.em (kd = kd') with hne | hne
  rotate_left
  · exact (same_no1 nm kd pa de ge lo ce fr na kd' pa' de' ge' lo' ce' fr' na' (alloc2 _ _ _)  hne).mono (says_no fun h => hne (congrArg CodeD.kind h))
  subst hne
  rcases Classical.em (pa = pa') with hne | hne
  rotate_left
  · exact (same_no2 nm kd pa de ge lo ce fr na pa' de' ge' lo' ce' fr' na' (alloc2 _ _ _)  hne).mono (says_no fun h => hne (congrArg CodeD.params h))
  subst hne
  rcases Classical.em (de = de') with hne | hne
  rotate_left
  · exact (same_no3 nm kd pa de ge lo ce fr na de' ge' lo' ce' fr' na' (alloc2 _ _ _)  hne).mono (says_no fun h => hne (congrArg CodeD.defaults h))
  subst hne
  rcases Classical.em (ge = ge') with hne | hne
  rotate_left
  · exact (same_no4 nm kd pa de ge lo ce fr na ge' lo' ce' fr' na' (alloc2 _ _ _)  hne).mono (says_no fun h => hne (congrArg CodeD.gen h))
  subst hne
  rcases Classical.em (lo = lo') with hne | hne
  rotate_left
  · exact (same_no5 nm kd pa de ge lo ce fr na lo' ce' fr' na' (alloc2 _ _ _) h1 g1 hne).mono (says_no fun h => hne (congrArg CodeD.locals h))
  subst hne
  rcases Classical.em (ce = ce') with hne | hne
  rotate_left
  · exact (same_no6 nm kd pa de ge lo ce fr na ce' fr' na' (alloc2 _ _ _) h1 g1 h2 g2 hne).mono (says_no fun h => hne (congrArg CodeD.cells h))
  subst hne
  rcases Classical.em (fr = fr') with hne | hne
  rotate_left
  · exact (same_no7 nm kd pa de ge lo ce fr na fr' na' (alloc2 _ _ _) h1 g1 h2 g2 h3 g3 hne).mono (says_no fun h => hne (congrArg CodeD.free h))
  subst hne
  rcases Classical.em (na = na') with hne | hne
  rotate_left
  · exact (same_no8 nm kd pa de ge lo ce fr na na' (alloc2 _ _ _) h1 g1 h2 g2 h3 g3 h4 g4 hne).mono (says_no fun h => hne (congrArg CodeD.names h))
  subst hne
  rcases Nat.decEq n5 m5 with hne | hne
  · exact (same_no9 nm kd pa de ge lo ce fr na (alloc2 _ _ _) h1 g1 h2 g2 h3 g3 h4 g4 hne).mono (says_no fun h => hne (h5.1.symm.trans ((congrArg (fun c => (CodeD.consts c).length) h).trans g5.1)))
  subst hne
  rcases Nat.decEq n6 m6 with hne | hne
  · exact (same_no10 nm kd pa de ge lo ce fr na (alloc2 _ _ _) h1 g1 h2 g2 h3 g3 h4 g4 hne).mono (says_no fun h => hne (h6.1.symm.trans ((congrArg (fun c => (CodeD.ins c).length) h).trans g6.1)))
  subst hne
  exact same_rest nm kd pa de ge lo ce fr na co is co' is' (alloc2 _ _ _) h1 h2 h3 h4 h5 h6 g1 g2 g3 g4 g5 g6
end Go.Proofs.YtcfelfhjhkenaaaDoor
