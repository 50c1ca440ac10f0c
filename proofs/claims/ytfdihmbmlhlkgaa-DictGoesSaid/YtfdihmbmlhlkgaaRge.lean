/- The reference's Get, and what a place says. -/
import Derived.Test.YtfdihmbmlhlkgaaCln
import Derived.BigQuiet
namespace Go.Proofs.Ytfdihmbmlhlkgaa
open Go.RowKit
attribute [local go_sem high] guardV eqV neqV
attribute [local go_sem] V.v

/-- keys apart -/
def Keyed (L : List (V × V)) : Prop := L.Pairwise (fun p q => p.1 ≠ q.1)
theorem split_pair {L : List (V × V)} {i : Nat} {p : V × V} (h : L[i]? = some p) : L = L.take i ++ p :: L.drop (i + 1) := by
  obtain ⟨hl, rfl⟩ := List.getElem?_eq_some_iff.1 h
  rw [← List.drop_eq_getElem_cons hl, List.take_append_drop]
theorem Keyed.far {L : List (V × V)} (h : Keyed L) {i : Nat} {p : V × V} (hp : L[i]? = some p) : (∀ q ∈ L.take i, q.1 ≠ p.1) ∧ (∀ q ∈ L.drop (i + 1), q.1 ≠ p.1) := by
  unfold Keyed at h
  rw [split_pair hp, List.pairwise_append, List.pairwise_cons] at h
  obtain ⟨_, ⟨h2, _⟩, h3⟩ := h
  exact ⟨fun q hq => h3 q hq p (by simp), fun q hq e => h2 q hq e.symm⟩
theorem PlaceAt.cases {L : List (V × V)} {x : V} {z : Int} (h : PlaceAt L x z) : (z = -1 ∧ findL L x = none) ∨ ∃ (i : Nat) (p : V × V), z = i ∧ i < L.length ∧ L[i]? = some p ∧ p.1 = x ∧ findL L x = some p.2 := by
  rcases h with ⟨rfl, h⟩ | ⟨i, p, rfl, hp, hx, hn⟩
  · exact .inl ⟨rfl, findL_append_none h⟩
  · refine .inr ⟨i, p, rfl, (List.getElem?_eq_some_iff.1 hp).1, hp, hx, ?_⟩
    unfold findL
    rw [split_pair hp, List.find?_append, List.find?_eq_none.2 (fun q hq => by simpa using hn q hq), List.find?_cons_of_pos (by simpa using hx)]
    rfl
theorem Keyed.putL {L : List (V × V)} (h : Keyed L) {i : Nat} {p : V × V} (hp : L[i]? = some p) (y : V) : putL L p.1 y = L.set i (p.1, y) := by
  obtain ⟨f1, f2⟩ := h.far hp
  have hl := (List.getElem?_eq_some_iff.1 hp).1
  rw [List.set_eq_take_append_cons_drop, if_pos hl]
  conv => lhs; rw [split_pair hp]
  have e1 : ∀ l : List (V × V), (∀ q ∈ l, q.1 ≠ p.1) → l.map (fun q => if q.1 = p.1 then (p.1, y) else q) = l := fun l hl => by
    conv => rhs; rw [← List.map_id l]
    exact List.map_congr_left fun q hq => if_neg (hl q hq)
  unfold Ytfdihmbmlhlkgaa.putL
  rw [List.map_append, List.map_cons, if_pos rfl, e1 _ f1, e1 _ f2]
theorem Keyed.delL {L : List (V × V)} (h : Keyed L) {i : Nat} {p : V × V} (hp : L[i]? = some p) : delL L p.1 = L.take i ++ L.drop (i + 1) := by
  obtain ⟨f1, f2⟩ := h.far hp
  conv => lhs; rw [split_pair hp]
  unfold Ytfdihmbmlhlkgaa.delL
  rw [List.filter_append, List.filter_cons, if_neg (by simp), List.filter_eq_self.2 (fun q hq => by simpa using f1 q hq), List.filter_eq_self.2 (fun q hq => by simpa using f2 q hq)]
theorem Keyed.put {L : List (V × V)} (h : Keyed L) (x y : V) : Keyed (putR L x y) := by
  unfold putR
  split
  · unfold Ytfdihmbmlhlkgaa.putL Keyed
    rw [List.pairwise_map]
    refine h.imp fun {p q} hpq => ?_
    split <;> split <;> simp_all
  · rename_i hn
    split
    · unfold Keyed
      rw [List.pairwise_append]
      refine ⟨h, List.pairwise_singleton _ _, fun p hp q hq e => ?_⟩
      obtain rfl := List.mem_singleton.1 hq
      have hf : findL L x = none := by simpa using hn
      unfold findL at hf
      rw [Option.map_eq_none_iff, List.find?_eq_none] at hf
      exact hf p hp (by simpa using e)
    · exact h
theorem Keyed.del {L : List (V × V)} (h : Keyed L) (x : V) : Keyed (Ytfdihmbmlhlkgaa.delL L x) := List.Pairwise.sublist List.filter_sublist h

set_option maxRecDepth 100000 in
set_option maxHeartbeats 400000 in
theorem rget_any {w : World} {S : Nat → Prop} {y : Nat} {L : List (V × V)} (h : IsRef w S y L) (x : V) (hn : L.length ≤ 100000) :
    Calls Try.prog 38 #[.pointer (some ⟨y, 0, none⟩), .agg #[.int .i64 x.k, .int .i64 x.n, .string x.s]] w fun e w' => e = .returned (.tuple #[((findL L x).getD V.zero).v, .bool (findL L x).isSome]) ∧ Below w.heap.size w w' := by
  have HR := Lib.hid h
  obtain ⟨v, hb, ho, -⟩ := h
  have hy := hb.lt
  have c0 := hb.cell 0
  simp only [List.getElem?_toArray, List.getElem?_cons_zero] at c0
  have HB := Lib.hid hb
  have HO := Lib.hid ho
  clear hb ho
  obtain ⟨k, n, s⟩ := x
  go_enter Try.func38, Try.ntmps38
  go_wp2_with fail
  refine (rat_any (HR.out.new (by exact (by repeat (first | exact Below.refl _ _ | assumption | refine Below.setCell ?_ (by first | (simp; done) | (simp; omega) | omega) _ | refine below_drewN ?_ _ | refine Below.drew ?_ | refine Below.alloc ?_ (by first | (simp; done) | (simp; omega) | omega) _)))) ⟨k, n, s⟩ hn).mono ?_
  rintro e w1 ⟨z, rfl, hz, hb1⟩
  have hbw : Below w.heap.size w w1 := Below.trans (by exact (by repeat (first | exact Below.refl _ _ | assumption | refine Below.setCell ?_ (by first | (simp; done) | (simp; omega) | omega) _ | refine below_drewN ?_ _ | refine Below.drew ?_ | refine Below.alloc ?_ (by first | (simp; done) | (simp; omega) | omega) _))) (hb1.mono (by simp; omega))
  have cg := (hbw.cell (p := ⟨y, 0, none⟩) hy).trans c0
  have hsz : w.heap.size + 1 < w1.heap.size := by have := hb1.size; simp at this; omega
  have hres : Blk w1 (w.heap.size + 1) 24 #[.int .i64 0, .int .i64 0, .string ⟨#[]⟩] := by
    have hh := Blk.new (w.alloc (.cells #[.int .i64 k, .int .i64 n, .string s] 24)) 24 #[.int .i64 0, .int .i64 0, .string ⟨#[]⟩]
    rw [World.size_alloc] at hh
    exact hh.new' hb1
  have r0 := hres.cell 0
  have r1 := hres.cell 1
  have r2 := hres.cell 2
  have f0 := hres.frozen 0
  have f1 := hres.frozen 1
  have f2 := hres.frozen 2
  simp only [List.getElem?_toArray, List.getElem?_cons_zero, List.getElem?_cons_succ] at r0 r1 r2
  have HBW := Lib.hid hbw
  rcases hz.cases with ⟨rfl, hf⟩ | ⟨i, p, rfl, hil, hp, hpx, hf⟩
  · have HF := Lib.hid hf
    clear hf hz hb1 hres hbw
    go_wp2_with fail
    refine bodyPost_ret (v := .tuple #[V.zero.v, .bool false]) (by simp [results, Try.results38, go_sem, V.zero, r0, r1, r2]) rfl ⟨?_, ?_⟩
    · rw [HF.out]; rfl
    · exact ((HBW.out.setCell (p := ⟨w.heap.size + 1, 0, none⟩) (by simp) _).setCell (p := ⟨w.heap.size + 1, 1, none⟩) (by simp) _).setCell (p := ⟨w.heap.size + 1, 2, none⟩) (by simp) _
  · obtain ⟨b, c, rfl, hbl, hc⟩ := ownP_at (Own.new HO.out hbw) hp
    obtain ⟨⟨k1, n1, s1⟩, ⟨k2, n2, s2⟩⟩ := p
    have z3 := hc 3 (.int .i64 k2) rfl
    have z4 := hc 4 (.int .i64 n2) rfl
    have z5 := hc 5 (.string s2) rfl
    have HF := Lib.hid hf
    clear hf hz hb1 hres hbw hc hp hpx
    go_wp2_with fail
    refine bodyPost_ret (v := .tuple #[(V.mk k2 n2 s2).v, .bool true]) (by simp [results, Try.results38, go_sem, r0, r1, r2]) rfl ⟨?_, ?_⟩
    · rw [HF.out]; rfl
    · exact ((HBW.out.setCell (p := ⟨w.heap.size + 1, 0, none⟩) (by simp) _).setCell (p := ⟨w.heap.size + 1, 1, none⟩) (by simp) _).setCell (p := ⟨w.heap.size + 1, 2, none⟩) (by simp) _
end Go.Proofs.Ytfdihmbmlhlkgaa
