/- Parse. -/
import Derived.Test.YtjdcicopjipmnaaDoorExp
namespace Go.Proofs.YtjdcicopjipmnaaDoor
open Go.RowKit
set_option linter.unusedVariables false
set_option linter.unusedSimpArgs false
def nodeOf (r : PS × Int) : Int := if r.1.e ≠ 0 then -1 else r.2
def usedOf (r : PS × Int) : Int := if r.1.e ≠ 0 then r.1.bad else (r.1.at_ : Int)
set_option maxRecDepth 100000 in
set_option maxHeartbeats 4000000 in
theorem parse_any {w : World} {B bb n c m : Nat} {A : Option Addr} {L : List TokD} {r : PS × Int} (hbb : Blk w bb 71 #[.slice none 0 0]) (hB : B ≤ bb) (h0 : 0 < B) (hl : Rd w A n c 4 (L.flatMap tcs)) (hla : ∀ b o, A = some ⟨b, o, none⟩ → b < B) (hn : L.length = n) (hbig : n ≤ 274877906944)
    (hts : ∀ t ∈ L, t.s.size ≤ maxLen) (htab : Asp w) (hr : exprE L m startS = some r) :
    Calls Tryd.prog 34 #[.pointer (some ⟨bb, 0, none⟩), .slice A n c] w fun e w' => e = .returned (.tuple #[.int .i64 (nodeOf r), .int .i64 (usedOf r), .int .i64 r.1.e]) ∧
      (∃ v, Blk w' bb 71 #[v] ∧ (∀ g, v.ownBlock = some g → B ≤ g) ∧ RowN (fun _ => False) w' v r.1.ns) ∧ Keeps B w w' := by
  have hmk := run_makeMap (P := Tryd.prog) 96 w
  have hwB := hbb.lt
  have hb : Below w.heap.size w ((w.alloc (.map #[] 0)).alloc (.cells (pcs bb (.slice A n c) w.heap.size startS) 98)) := (by repeat (first | exact Below.refl _ _ | assumption | refine Below.setCell ?_ (by first | (simp; done) | (simp; omega) | omega) _ | refine below_drewN ?_ _ | refine Below.drew ?_ | refine Below.alloc ?_ (by first | (simp; done) | (simp; omega) | omega) _))
  have hP : PAt ⟨B, w.heap.size + 1, bb, w.heap.size, n, c, A, L⟩ (fun _ => False) ((w.alloc (.map #[] 0)).alloc (.cells (pcs bb (.slice A n c) w.heap.size startS) 98)) startS := by
    refine ⟨?_, hl.bel hb, hla, by simp only; omega, hB, by simp only; omega, by simp; omega, ⟨.slice none 0 0, hbb.bel hb, (fun g e => by cases e), RowN.nil_ _ _⟩, ?_, Nat.zero_le _, rfl, htab.below hb, hn, h0, hbig, hts, fun k hk => hk.elim⟩
    · have := Blk.new (w.alloc (.map #[] 0)) 98 (pcs bb (.slice A n c) w.heap.size startS)
      rw [World.size_alloc] at this
      exact this
    · have h1 := KnAt.made w startS rfl rfl
      exact h1.keep (Below.heap_alloc _ _ _ h1.lt) rfl rfl
  have hg := exprE_gd L m _ _ hr
  have hcap : r.1.ns.length ≤ 1099511627776 := by
    have h1 := hg.1.cnt
    have h2 := hg.1.le (Nat.zero_le _)
    simp only [startS, List.length_nil] at h1
    omega
  have K := Lib.hid (expr_all (X := ⟨B, w.heap.size + 1, bb, w.heap.size, n, c, A, L⟩) hn hbig m (fun _ => False) startS r hr hcap _ hP)
  have HB := Lib.hid hb
  clear hbb hl hla hts htab hr hP hb hg hcap
  by_cases he : r.1.e = 0
  · have e1 : nodeOf r = r.2 := by unfold nodeOf; rw [if_neg (by simpa using he)]
    have e2 : usedOf r = (r.1.at_ : Int) := by unfold usedOf; rw [if_neg (by simpa using he)]
    rw [e1, e2]
    have HE := Lib.hid (And.intro e1 e2)
    clear e1 e2
    go_enter Tryd.func34, Tryd.ntmps34
    go_wp2_with (go_at_call 55; go_must (refine K.out.mono ?_); rintro e w1 ⟨rfl, hp, hk⟩; obtain ⟨c2, c4, c5, hlt⟩ := hp.cells; have c3 := hp.p.cell 3; simp only [pcs, List.getElem?_toArray, List.getElem?_cons_zero, List.getElem?_cons_succ] at c2 c3 c4 hlt; rw [he] at c4; have HP := Lib.hid hp; have HK := Lib.hid hk; clear hp hk c5)
    go_quiet (fail)
    go_wp2_with fail
    refine bodyPost_ret (v := .tuple #[.int .i64 r.2, .int .i64 r.1.at_, .int .i64 0]) (by first | (simp [results, Tryd.results34, go_sem]; done) | (simp [results, Tryd.results34, go_sem]; rfl)) rfl ?_
    refine ⟨by rw [he], ?_, ?_⟩
    · obtain ⟨v, h1, h2, h3⟩ := (HP.out.bel_ (by repeat (first | exact Below.refl _ _ | assumption | refine Below.setCell ?_ (by first | (simp; done) | (simp; omega) | omega) _ | refine below_drewN ?_ _ | refine Below.drew ?_ | refine Below.alloc ?_ (by first | (simp; done) | (simp; omega) | omega) _))).t
      exact ⟨v, h1, h2, h3⟩
    · exact ((KeepE.of_below B (fun _ => False) HB.out).trans HK.out).trans (KeepE.of_below B (fun _ => False) (by repeat (first | exact Below.refl _ _ | assumption | refine Below.setCell ?_ (by first | (simp; done) | (simp; omega) | omega) _ | refine below_drewN ?_ _ | refine Below.drew ?_ | refine Below.alloc ?_ (by first | (simp; done) | (simp; omega) | omega) _)))
  · have he' : (r.1.e == 0) = false := by simpa using he
    have e1 : nodeOf r = -1 := by unfold nodeOf; rw [if_pos he]
    have e2 : usedOf r = r.1.bad := by unfold usedOf; rw [if_pos he]
    rw [e1, e2]
    clear e1 e2
    go_enter Tryd.func34, Tryd.ntmps34
    go_wp2_with (go_at_call 55; go_must (refine K.out.mono ?_); rintro e w1 ⟨rfl, hp, hk⟩; obtain ⟨c2, c4, c5, hlt⟩ := hp.cells; have c3 := hp.p.cell 3; simp only [pcs, List.getElem?_toArray, List.getElem?_cons_zero, List.getElem?_cons_succ] at c2 c3 c4 hlt; have HP := Lib.hid hp; have HK := Lib.hid hk; clear hp hk c5)
    go_quiet (fail)
    go_wp2_with fail
    refine bodyPost_ret (v := .tuple #[.int .i64 (-1), .int .i64 r.1.bad, .int .i64 r.1.e]) (by first | (simp [results, Tryd.results34, go_sem]; done) | (simp [results, Tryd.results34, go_sem]; rfl)) rfl ?_
    refine ⟨rfl, ?_, ?_⟩
    · obtain ⟨v, h1, h2, h3⟩ := (HP.out.bel_ (by repeat (first | exact Below.refl _ _ | assumption | refine Below.setCell ?_ (by first | (simp; done) | (simp; omega) | omega) _ | refine below_drewN ?_ _ | refine Below.drew ?_ | refine Below.alloc ?_ (by first | (simp; done) | (simp; omega) | omega) _))).t
      exact ⟨v, h1, h2, h3⟩
    · exact ((KeepE.of_below B (fun _ => False) HB.out).trans HK.out).trans (KeepE.of_below B (fun _ => False) (by repeat (first | exact Below.refl _ _ | assumption | refine Below.setCell ?_ (by first | (simp; done) | (simp; omega) | omega) _ | refine below_drewN ?_ _ | refine Below.drew ?_ | refine Below.alloc ?_ (by first | (simp; done) | (simp; omega) | omega) _)))
end Go.Proofs.YtjdcicopjipmnaaDoor
